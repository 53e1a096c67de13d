import Derived.Test.YtjihcgcbnbaclaaGreatDoorESrt5
set_option linter.unusedSimpArgs false
set_option linter.unusedVariables false
namespace Go.Proofs.YtjihcgcbnbaclaaGreatDoor.Y8
open Go Go.Proofs Go.RowKit Go.Shelf Go.Sort Go.Pv
def keyOfV : Value → K3
 | .agg cs => match cs.toList with
   | [.string s, .int _ a, .int _ b] => ⟨s, a, b⟩
   | _ => default
 | _ => default
theorem agg3_inv {E : Env} {v a b c : Value} (h : Rep E v (.agg [.sc a, .sc b, .sc c])) : v = .agg #[a, b, c] := by
 cases h with
 | agg hl hc =>
   rename_i cs;obtain ⟨l⟩ := cs
   match l, hl with
   | [x, y, z], _ =>
     have h0 := (hc 0 x (.sc a) rfl rfl).sc_inv;have h1 := (hc 1 y (.sc b) rfl rfl).sc_inv;have h2 := (hc 2 z (.sc c) rfl rfl).sc_inv;subst h0; subst h1; subst h2; rfl
theorem shOf_spec {E : Env} : ∀ {es : List (PV × PV)} {ss : List Sh} {ents : List MapEntry}, shOf es = some ss → EntsRep E ents es →
   (∀ x ∈ ents, x.key = encV (keyOfV x.key)) ∧ (ents.map fun x => shK (keyOfV x.key)) = ss
 | [], ss, [], h, hr => by cases h; simp
 | [], ss, _ :: _, h, hr => by simp [EntsRep] at hr
 | p :: es, ss, [], h, hr => by simp [EntsRep] at hr
 | p :: es, ss, e :: ents, h, hr => by
   unfold shOf at h;split at h
   · rename_i s a b l hp hl;cases hb : Nat.ble s.data.size 1000000 with
     | false => rw [hb] at h; cases h
     | true =>
       rw [hb] at h; cases h;obtain ⟨h1, h2⟩ := shOf_spec (ents := ents) hl ⟨by simpa using hr.1, fun i e p h3 h4 => hr.2 (i + 1) e p h3 h4⟩;have hkey := (hr.2 0 e p rfl rfl).1;rw [hp] at hkey;have hke := agg3_inv hkey;refine ⟨fun x hx => ?_, ?_⟩
       · rcases List.mem_cons.1 hx with rfl | hx
         · rw [hke]; rfl
         · exact h1 x hx
       · simp only [List.map_cons, h2];rw [hke]; rfl
   · cases h
theorem arr2 {a : Array Value} (h : a.size = 2) : ∃ x y, a = #[x, y] := by
 obtain ⟨l⟩ := a
 match l, h with
 | [x, y], _ => exact ⟨x, y, rfl⟩
theorem sortedF_core {h : Heap} {c : Nat → Nat} {R : PV → Heap → (Nat → Nat) → Prop} {kb km : Key} {es : List (PV × PV)} {ss : List Sh} (hkb : h kb = some (.rows 1 [[.map km]])) (hkm : ∃ bs clk, h km = some (.map es bs clk)) (hss : shOf es = some ss) (hlen : es.length ≤ 1000000)
   (hR : R (.lit false 3 (shRows (sortSh ss))) h c) : HCallsR Tryz.prog 47 [.func (.func 65) [] [.ptr kb 1 0 0], .func (.func 49) [] []] h c R := by
 refine ⟨by kernel_rfl, fun E vs gE hh hcn htt hvs hrep => ?_⟩;rw [← hh] at hkb hkm hR;rw [← hcn] at hR;obtain ⟨bs, clk, hkm⟩ := hkm;obtain ⟨v0, v1, rfl⟩ := arr2 (a := vs) hvs;have h0 := hrep 0 v0 _ rfl rfl;have h1' := hrep 1 v1 _ rfl rfl;cases h1' with
 | @func _ vas1 cs1 _ _ hl1 hl1' _ _ =>
 have has1 : vas1 = #[] := Array.eq_empty_of_size_eq_zero hl1;have hcs1 : cs1 = #[] := Array.eq_empty_of_size_eq_zero hl1';subst has1; subst hcs1;cases h0 with
 | @func _ vas cs _ _ hl hl' ha hc =>
 have has : vas = #[] := Array.eq_empty_of_size_eq_zero hl;subst has;obtain ⟨p0, rfl⟩ := arr1 (a := cs) hl';have hp0 := hc 0 p0 _ rfl rfl;cases hp0 with
 | @ptr bb ad _ _ _ _ hkn hlk =>
 obtain ⟨hbb, had⟩ := (hlk _ hkb).1;subst hbb; subst had;obtain ⟨cc, T, hcc, hcs, _, _, _, _, hcells⟩ := gE.obj _ _ hkb;obtain ⟨mv, hmv, hmr⟩ := hcells 0 0 [.map km] (.map km) rfl rfl;cases hmr with
 | @map mb _ hkn2 hlm =>
 have hmb := (hlm _ hkm).1;subst hmb;obtain ⟨ents, h4, h5⟩ := ents_of gE hkm
 have hst : Stamps ents clk := by
   obtain ⟨ents0, h4', _, _, _, hst0, _⟩ := gE.obj _ _ hkm;rw [h4] at h4'; cases h4'; exact hst0
 have hcell : E.w.cell? ⟨E.blk kb, (E.cap kb).2 + 0 * 1 + 0, none⟩ = some (.map (some (E.blk km))) := by
   rw [cell_of_heap hcc];exact hmv
 obtain ⟨h6, h7⟩ := shOf_spec (E := E) hss h5;have hsize : ents.size = es.length := by simpa using h5.1
 refine (sortedFunc (E.blk kb) _ (E.blk km) clk ents (fun e => keyOfV e.key) h6 hst E.w (live_lt gE hkb) hcell h4 (by rw [hsize]; exact hlen)).mono ?_
 rintro e w' ⟨u, ts, rfl, hts, hmap, hrow, hbl⟩
 rw [h7] at hmap;have hlen' : ts.length = (sortSh ss).length := by rw [← hmap, List.length_map]
 rw [hlen'] at hrow;have hblk : ∀ b, b < E.w.heap.size → w'.heap[b]? = E.w.heap[b]? := fun b hb => hbl.block b hb;have hle : EnvLe E { E with w := w' } := ⟨fun b hb _ => hblk b hb, hbl.size, fun b hb => .inl hb, rfl, rfl, rfl, fun _ => Nat.le_refl _, fun _ _ h => h, fun _ _ rs h => .inr ⟨rs, h, rfl, rfl⟩, fun _ o h _ => .inr ⟨o, h, rfl, rfl⟩⟩
 refine ⟨u, .lit false 3 (shRows (sortSh ss)), { E with w := w' }, rfl, hR, rfl, ⟨gE.inj, gE.known, gE.base, fun k o h => ObjOK.le hle rfl rfl (hblk _ (live_lt gE h)) (gE.obj k o h), gE.out, Nat.le_trans gE.size hbl.size, gw_keep gE.glob (Nat.le_refl _) fun b hb => hblk b (Nat.lt_of_lt_of_le hb gE.size)⟩, hle, hbl.mono gE.size, ?_⟩;obtain ⟨hxl, ⟨rfl, hz⟩ | ⟨gb, cap, cur, rfl, hbase, hgb, hcap, _, hcur, htake⟩⟩ := hrow
 · rw [List.eq_nil_of_length_eq_zero hz];exact .litE
 · have hlr : (shRows (sortSh ss)).length = (sortSh ss).length := by simp [shRows]
   have hwidth : ∀ row ∈ shRows (sortSh ss), row.length = 3 := fun row hr => by
     simp only [shRows, List.mem_map] at hr; obtain ⟨x, _, rfl⟩ := hr; rfl
   have hrow1 : ∀ (i j : Nat) (row : List PV) (p : PV), (shRows (sortSh ss))[i]? = some row → row[j]? = some p → ∃ x y, j < 3 ∧ p = .sc x ∧ isScalar x = true ∧ ts[i]? = some y ∧ (encK y)[j]? = some x := fun i j row p h1 h2 => by
     simp only [shRows, List.getElem?_map, Option.map_eq_some_iff] at h1;obtain ⟨x, hx, rfl⟩ := h1;rw [← hmap, List.getElem?_map, Option.map_eq_some_iff] at hx;obtain ⟨y, hy, rfl⟩ := hx;have he : encSh (shK y) = encK y := by simp [encSh, shK, encK, Go.Proofs.encStr]
     rw [List.getElem?_map, Option.map_eq_some_iff] at h2;obtain ⟨z, hz, rfl⟩ := h2;have hj : j < 3 := (List.getElem?_eq_some_iff.1 hz).1;refine ⟨z, y, hj, rfl, ?_, hy, by rw [← he]; exact hz⟩;rcases j with _ | _ | _ | j
     · simp [encSh] at hz; subst hz; rfl
     · simp [encSh] at hz; subst hz; rfl
     · simp [encSh] at hz; subst hz; rfl
     · omega
   have hget : ∀ (i j : Nat) (y : K3) (x : Value), ts[i]? = some y → j < 3 → (encK y)[j]? = some x → cur[i * 3 + j]? = some x := fun i j y x hy hj hx => by
     have hi : i < ts.length := (List.getElem?_eq_some_iff.1 hy).1;have h9 : (cur.toList.take ((sortSh ss).length * 3))[i * 3 + j]? = some x := by rw [htake, cellsK_get ts i j y hy hj]; exact hx
     rw [List.getElem?_take_of_lt (by omega)] at h9;simpa using h9
   have := Rep.lit (E := { E with w := w' }) (b := gb) (off := 0) (c := cap) (t := false) (sz := 3) (rows := shRows (sortSh ss)) (f := fun i j => (cur[i * 3 + j]?).getD .nilFunc)
     ⟨fun ⟨k, o, h1, h2⟩ => by have := live_lt gE h1; have h2' : E.blk k = gb := h2; omega, fun _ hM => by have := gE.out _ hM; have := gE.size; omega, (fun h => by cases h), (Array.getElem?_eq_some_iff.1 hgb).1, hwidth,
       (fun i j row p h1 h2 => by
         obtain ⟨x, y, hj, rfl, hsc, hy, hx⟩ := hrow1 i j row p h1 h2;rw [hget i j y x hy hj hx];show w'.cell? ⟨gb, 0 + i * 3 + j, none⟩ = _;rw [cell_of_heap hgb];rw [Nat.zero_add, hget i j y x hy hj hx]; rfl),
       (fun row hr p hp => by
         simp only [shRows, List.mem_map] at hr; obtain ⟨x, _, rfl⟩ := hr;simp [encSh] at hp; rcases hp with rfl | rfl | rfl <;> exact .sc _),
       (fun row hr p hp => by
         simp only [shRows, List.mem_map] at hr; obtain ⟨x, _, rfl⟩ := hr;simp [encSh] at hp; rcases hp with rfl | rfl | rfl <;> rfl)⟩
     (by rw [hlr]; exact hcap) (fun i j row p h1 h2 => by
       obtain ⟨x, y, hj, rfl, hsc, hy, hx⟩ := hrow1 i j row p h1 h2;rw [hget i j y x hy hj hx];exact .sc hsc)
   rw [hlr] at this;exact this
theorem sortedF_orc :
   ∀ (f : FuncId) (args : List PV) (h : HL) (c : CL) (v : PV) (h' : HL) (c' : CL), sortedFO 47 65 49 f args h c = some (v, h', c') → ∀ R : PV → Heap → (Nat → Nat) → Prop, R v (hGet h') (cGet c') → HCallsR Tryz.prog f args (hGet h) (cGet c) R := by
 intro f args h c v h' c' ho R hR;unfold sortedFO at ho;cases hf : Nat.beq f 47 with
 | false => rw [hf] at ho; cases ho
 | true =>
 rw [hf] at ho;obtain rfl : f = 47 := Nat.eq_of_beq_eq_true hf;simp only [cond_true] at ho;split at ho
 · rename_i g kb gc;cases hgk : Nat.beq g 65 && Nat.beq gc 49 with
   | false => rw [hgk] at ho; cases ho
   | true =>
   rw [hgk] at ho;simp only [Bool.and_eq_true] at hgk;obtain rfl : g = 65 := Nat.eq_of_beq_eq_true hgk.1;obtain rfl : gc = 49 := Nat.eq_of_beq_eq_true hgk.2;simp only [cond_true] at ho;split at ho
   · rename_i km hkb;split at ho
     · rename_i es bs0 clk0 hkm;split at ho
       · rename_i ss hss;cases hlb : Nat.ble es.length 1000000 with
         | false => rw [hlb] at ho; cases ho
         | true =>
         rw [hlb] at ho; cases ho;exact sortedF_core hkb ⟨_, _, hkm⟩ hss (Nat.le_of_ble_eq_true hlb) hR
       · cases ho
     · cases ho
   · cases ho
 · cases ho
end Go.Proofs.YtjihcgcbnbaclaaGreatDoor.Y8
