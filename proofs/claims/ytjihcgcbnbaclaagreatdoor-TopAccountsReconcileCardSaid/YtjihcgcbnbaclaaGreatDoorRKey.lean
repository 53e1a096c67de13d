import Derived.TacticsInMore
import Derived.RegionIn
import Derived.LoopNIn
import Derived.LoopIn
import Derived.OwnWalkIn
import Derived.Shelf.AbstractIn
import Derived.Test.YtjihcgcbnbaclaaGreatDoorROrc
import Derived.Test.YtjihcgcbnbaclaaGreatDoorPvGw
set_option linter.unusedSimpArgs false
set_option linter.unusedVariables false
namespace Go.Proofs.YtjihcgcbnbaclaaGreatDoor.Y9
open Go Go.Proofs Go.RowKit Go.Maps Go.Shelf Go.Sort Go.Pv
def rawLeft (W : World) (r m : Nat) : Nat := match W.heap[r]? with
 | some (.mapIter _ _ seen _) => m - seen.size
 | _ => 0
theorem rawLeft_eq {W : World} {b r m : Nat} {ents : Array MapEntry} {since : Nat} {seen : Array Nat} (h : RawIter W b r ents since seen) : rawLeft W r m = m - seen.size := by
 unfold rawLeft; rw [h.it]
set_option maxRecDepth 100000 in
set_option maxHeartbeats 1000000 in
theorem keysS_in (F : Fence) (n : Nat) (hfn : F.fn 81) (hro : F.round = none) (hn : 1 ≤ n) (l Bm ad b since : Nat) (ents : Array MapEntry) (key : MapEntry → List UInt8) (hkey : ∀ e ∈ ents.toList, e.key = Go.Proofs.encStr (key e))
   (J : List (List UInt8) → World → Prop)
   (hY : ∀ pre x W, J pre W → pre.length < ents.size → YieldAt F (n - 1) Tryz.prog l #[Go.Proofs.encStr x] W fun e W' => e = .returned (.bool true) ∧ J (pre ++ [x]) W' ∧ KeepsWalks W W')
   (W : World) (hJ : AbidesFrom W.heap.size J) (hm : W.cell? ⟨Bm, ad, none⟩ = some (.map (some b))) (hb : W.heap[b]? = some (.map ents since)) (hst : Stamps ents since) (h0 : J [] W) :
   CallsIn F n Tryz.prog 81 #[.func (.yield l) #[] #[], .pointer (some ⟨Bm, ad, none⟩)] W fun e W' => (∃ v, e = .returned v) ∧ ∃ ss : List (List UInt8), ss.Perm (ents.toList.map key) ∧ J ss W' := by
 refine callsIn_of_wp Tryz.func81 rfl hfn ?_ hro;simp only [Tryz.ntmps81, List.size_toArray, List.length_cons, List.length_nil, Nat.reduceAdd, Nat.reduceSub, Array.replicate_succ, Array.replicate_zero, List.push_toArray, List.append_toArray, List.nil_append, List.cons_append]
 gi_wp2_with (first
   | (gi_at_range; refine wpListIn_range_raw _ rfl _ 135 rfl Tryz.underlying135 rfl hb ?_; intro w0 hrg0 hg0 hs0)
   | gi_in)
 go_frame
 gi_loopw [3] (fun _ wr => ∃ (seen : Array Nat) (vis : List MapEntry), RawIter wr b W.heap.size ents since seen ∧ Came ents seen vis ∧ J (vis.map key) wr)
   (fun _ wr => rawLeft wr W.heap.size ents.size)
 case atStart =>
   exact ⟨#[], [], hrg0, .start _, hJ [] W w0 none h0 hg0 (fun r e => by cases e)⟩
 case round =>
   obtain ⟨seen, vis, hrg, hC, hJs⟩ := hrel
   gi_wp2_with (first
     | (gi_at_next; refine wpListIn_next_raw _ rfl _ rfl rfl hrg hst.1 ?_ ?_)
     | gi_in)
   · intro hall
     gi_wp2
     go_end0
     exact ⟨⟨_, rfl⟩, vis.map key, (hC.perm hst.2.1 fun e he => by simpa using hall e (by simpa using he)).map key, hJs⟩
   · intro e w2 he hs hrg2 hg2 hs2;have he' : e ∈ ents.toList := by simpa using he
     have hsn : seen.contains e.born = false := by simpa using hs
     have hk := hkey e he';have hen := raw_entry (P := Tryz.prog) hrg2 he' hst.2.1;rw [hk];rw [hk] at hen;have hJ2 : J (vis.map key) w2 := hJ _ wr w2 (some W.heap.size) hJs hg2 (fun r e => by cases e; exact ⟨Nat.le_refl _, _, hrg.it, rfl⟩);obtain ⟨fn, tmps, assign, body, hy, hR⟩ := hY (vis.map key) (key e) _ hJ2 (by rw [List.length_map]; exact hC.lt he' hsn);clear hs2
     gi_wp2
     refine hR.mono ?_
     rintro e3 W3 ⟨rfl, hJ4, hk3⟩
     gi_wp2
     have hrg3 := hrg2.of_walks hk3;have hC2 := hC.step he' hsn
     go_roundw
     case rel => exact ⟨_, vis ++ [e], hrg3, hC2, by simpa using hJ4⟩
     case measure =>
       rw [rawLeft_eq hrg3, rawLeft_eq hrg];have h1 := hC.lt he' hsn;have h2 : seen.size = vis.length := by have := congrArg List.length hC.born; simpa using this
       simp; omega
theorem keysS_gives (F : Fence) (n : Nat) (hfn : F.fn 81) (hro : F.round = none) (hn : 1 ≤ n) (Bm ad b since : Nat) (ents : Array MapEntry) (key : MapEntry → List UInt8) (hkey : ∀ e ∈ ents.toList, e.key = Go.Proofs.encStr (key e)) (hst : Stamps ents since) (w : World) (hBm : Bm < w.heap.size)
   (hm : w.cell? ⟨Bm, ad, none⟩ = some (.map (some b))) (hb : w.heap[b]? = some (.map ents since)) :
   SeqGives F n Tryz.prog 81 #[.pointer (some ⟨Bm, ad, none⟩)] Go.Proofs.encStr (fun ss => ss.Perm (ents.toList.map key)) ents.size w := fun l J W hW hJ hY h0 =>
 keysS_in F n hfn hro hn l Bm ad b since ents key hkey J hY W hJ ((hW.cell (p := ⟨Bm, ad, none⟩) hBm).trans hm) ((hW.block b (Array.getElem?_eq_some_iff.1 hb).1).trans hb) hst h0
theorem sortedKeys2 (Bm ad b since : Nat) (ents : Array MapEntry) (key : MapEntry → List UInt8) (hkey : ∀ e ∈ ents.toList, e.key = Go.Proofs.encStr (key e)) (hst : Stamps ents since) (w : World) (hBm : Bm < w.heap.size) (hc : w.cell? ⟨Bm, ad, none⟩ = some (.map (some b))) (hb : w.heap[b]? = some (.map ents since)) (hmax : ents.size ≤ maxLen) (hbytes : ents.size * 16 ≤ 140737488355328) :
   Calls Tryz.prog 70 #[.func (.func 81) #[] #[.pointer (some ⟨Bm, ad, none⟩)]] w fun e w' => ∃ (v : Value) (ss : List (List UInt8)), e = .returned v ∧ ss.Perm (ents.toList.map key) ∧
     w'.ownsRow w.heap.size 9 1 v ss.length ((ss.mergeSort (fun x y => decide (x ≤ y))).map Go.Proofs.encStr) ∧ Below w.heap.size w w' := by
 refine (callsIn_wide (n := 5)).1 ?_;have hseq := keysS_gives Fence.wide 2 trivial rfl (by omega) Bm ad b since ents key hkey hst w hBm hc hb;have cS := AnyZ.sorted_in Tryz.sortedA Fence.wide 5 trivial trivial trivial trivial rfl (by omega) (sortsA _) (enters_of Tryz.func80 (by kernel_rfl) rfl) 81 #[.pointer (some ⟨Bm, ad, none⟩)] trivial (enters_of Tryz.func81 (by kernel_rfl) rfl) _ _ hmax hbytes _ hseq;change CallsIn _ _ Tryz.prog 70 _ _ _ at cS;exact cS.mono fun e w' ⟨v, ss, h1, h2, h3, _, h5⟩ => ⟨v, ss, h1, h2, h3, h5⟩
def strOfV : Value → List UInt8
 | .string s => s.data.toList
 | _ => []
theorem strsOf_spec2 {E : Env} : ∀ {es : List (PV × PV)} {ss : List (List UInt8)} {ents : List MapEntry}, strsOf es = some ss → EntsRep E ents es →
   (∀ x ∈ ents, x.key = Go.Proofs.encStr (strOfV x.key)) ∧ (ents.map fun x => strOfV x.key) = ss
 | [], ss, [], h, hr => by cases h; simp
 | [], ss, _ :: _, h, hr => by simp [EntsRep] at hr
 | p :: es, ss, [], h, hr => by simp [EntsRep] at hr
 | p :: es, ss, e :: ents, h, hr => by
   unfold strsOf at h;split at h
   · rename_i s l hp hl;cases hb : Nat.ble s.data.size 1000000 with
     | false => rw [hb] at h; cases h
     | true =>
       rw [hb] at h; cases h;obtain ⟨h1, h2⟩ := strsOf_spec2 (ents := ents) hl ⟨by simpa using hr.1, fun i e p h3 h4 => hr.2 (i + 1) e p h3 h4⟩;have hkey := (hr.2 0 e p rfl rfl).1;rw [hp] at hkey;have hke := hkey.sc_inv;refine ⟨fun x hx => ?_, ?_⟩
       · rcases List.mem_cons.1 hx with rfl | hx
         · rw [hke]; simp [strOfV, Go.Proofs.encStr]
         · exact h1 x hx
       · simp only [List.map_cons, h2];rw [hke]; rfl
   · cases h
theorem sorted_core2
   {h : Heap} {c : Nat → Nat} {R : PV → Heap → (Nat → Nat) → Prop} {kb km : Key} {es : List (PV × PV)} {ss : List (List UInt8)} (hkb : h kb = some (.rows 1 [[.map km]])) (hkm : ∃ bs clk, h km = some (.map es bs clk)) (hss : strsOf es = some ss) (hlen : es.length ≤ 1000000)
   (hR : R (.lit false 1 (strRows (sortS ss))) h c) : HCallsR Tryz.prog 70 [.func (.func 81) [] [.ptr kb 1 0 0]] h c R := by
 refine ⟨by kernel_rfl, fun E vs gE hh hcn htt hvs hrep => ?_⟩;rw [← hh] at hkb hkm hR;rw [← hcn] at hR;obtain ⟨bs, clk, hkm⟩ := hkm;obtain ⟨v0, rfl⟩ := arr1 (a := vs) hvs;have h0 := hrep 0 v0 _ rfl rfl;cases h0 with
 | @func _ vas cs _ _ hl hl' ha hc =>
 have has : vas = #[] := Array.eq_empty_of_size_eq_zero hl;subst has;obtain ⟨p0, rfl⟩ := arr1 (a := cs) hl';have hp0 := hc 0 p0 _ rfl rfl;cases hp0 with
 | @ptr bb ad _ _ _ _ hkn hlk =>
 obtain ⟨hbb, had⟩ := (hlk _ hkb).1;subst hbb; subst had;obtain ⟨cc, T, hcc, hcs, _, _, _, _, hcells⟩ := gE.obj _ _ hkb;obtain ⟨mv, hmv, hmr⟩ := hcells 0 0 [.map km] (.map km) rfl rfl;cases hmr with
 | @map mb _ hkn2 hlm =>
 have hmb := (hlm _ hkm).1;subst hmb;obtain ⟨ents, h4, h5⟩ := ents_of gE hkm
 have hst : Stamps ents clk := by
   obtain ⟨ents0, h4', _, _, _, hst0, _⟩ := gE.obj _ _ hkm;rw [h4] at h4'; cases h4'; exact hst0
 have hcell : E.w.cell? ⟨E.blk kb, (E.cap kb).2 + 0 * 1 + 0, none⟩ = some (.map (some (E.blk km))) := by
   rw [cell_of_heap hcc];exact hmv
 obtain ⟨h6, h7⟩ := strsOf_spec2 (E := E) hss h5;have hsize : ents.size = es.length := by simpa using h5.1
 refine (sortedKeys2 (E.blk kb) _ (E.blk km) clk ents (fun e => strOfV e.key) h6 hst E.w (live_lt gE hkb) hcell h4 (by rw [hsize]; exact Nat.le_trans hlen (by decide)) (by rw [hsize]; omega)).mono ?_
 rintro e w' ⟨u, ss', rfl, hperm', hrow, hbl⟩
 have hsort : (ss'.mergeSort fun x y => decide (x ≤ y)) = sortS ss := sortS_merge (by rw [← h7]; exact hperm');rw [hsort] at hrow;have hlen' : ss'.length = (sortS ss).length := by rw [← hsort, List.length_mergeSort]
 rw [hlen'] at hrow;have hblk : ∀ b, b < E.w.heap.size → w'.heap[b]? = E.w.heap[b]? := fun b hb => hbl.block b hb;have hle : EnvLe E { E with w := w' } := ⟨fun b hb _ => hblk b hb, hbl.size, fun b hb => .inl hb, rfl, rfl, rfl, fun _ => Nat.le_refl _, fun _ _ h => h, fun _ _ rs h => .inr ⟨rs, h, rfl, rfl⟩, fun _ o h _ => .inr ⟨o, h, rfl, rfl⟩⟩
 refine ⟨u, .lit false 1 (strRows (sortS ss)), { E with w := w' }, rfl, hR, rfl, ⟨gE.inj, gE.known, gE.base, fun k o h => ObjOK.le hle rfl rfl (hblk _ (live_lt gE h)) (gE.obj k o h), gE.out, Nat.le_trans gE.size hbl.size, gw_keep gE.glob (Nat.le_refl _) fun b hb => hblk b (Nat.lt_of_lt_of_le hb gE.size)⟩, hle, hbl.mono gE.size, ?_⟩;obtain ⟨hxl, ⟨rfl, hz⟩ | ⟨gb, cap, cur, rfl, hbase, hgb, hcap, _, hcur, htake⟩⟩ := hrow
 · rw [List.eq_nil_of_length_eq_zero hz];exact .litE
 · have hlr : (strRows (sortS ss)).length = (sortS ss).length := by simp [strRows]
   have hwidth : ∀ row ∈ strRows (sortS ss), row.length = 1 := fun row hr => by
     simp only [strRows, List.mem_map] at hr; obtain ⟨x, _, rfl⟩ := hr; rfl
   have hrow1 : ∀ (i j : Nat) (row : List PV) (p : PV), (strRows (sortS ss))[i]? = some row → row[j]? = some p → ∃ x, j = 0 ∧ p = .sc (Go.Proofs.encStr x) ∧ (sortS ss)[i]? = some x := fun i j row p h1 h2 => by
     simp only [strRows, List.getElem?_map, Option.map_eq_some_iff] at h1;obtain ⟨x, hx, rfl⟩ := h1;rcases j with _ | j
     · simp at h2; exact ⟨x, rfl, h2.symm, hx⟩
     · simp at h2
   have hget : ∀ (i : Nat) (x : List UInt8), (sortS ss)[i]? = some x → cur[i]? = some (Go.Proofs.encStr x) := fun i x hx => by
     have hi : i < (sortS ss).length := (List.getElem?_eq_some_iff.1 hx).1;have h9 : (cur.toList.take ((sortS ss).length * 1))[i]? = some (Go.Proofs.encStr x) := by rw [htake]; simp [hx]
     rw [List.getElem?_take_of_lt (by omega)] at h9;simpa using h9
   have := Rep.lit (E := { E with w := w' }) (b := gb) (off := 0) (c := cap) (t := false) (sz := 1) (rows := strRows (sortS ss)) (f := fun i _ => (cur[i]?).getD .nilFunc)
     ⟨fun ⟨k, o, h1, h2⟩ => by have := live_lt gE h1; have h2' : E.blk k = gb := h2; omega, fun _ hM => by have := gE.out _ hM; have := gE.size; omega, (fun h => by cases h), (Array.getElem?_eq_some_iff.1 hgb).1, hwidth,
       (fun i j row p h1 h2 => by
         obtain ⟨x, rfl, rfl, hx⟩ := hrow1 i j row p h1 h2;rw [hget i x hx];show w'.cell? ⟨gb, 0 + i * 1 + 0, none⟩ = _;rw [cell_of_heap hgb];simp [hget i x hx]),
       (fun row hr p hp => by
         simp only [strRows, List.mem_map] at hr; obtain ⟨x, _, rfl⟩ := hr;simp at hp; subst hp; exact .sc _),
       (fun row hr p hp => by
         simp only [strRows, List.mem_map] at hr; obtain ⟨x, _, rfl⟩ := hr;simp at hp; subst hp; rfl)⟩
     (by rw [hlr]; exact hcap) (fun i j row p h1 h2 => by
       obtain ⟨x, rfl, rfl, hx⟩ := hrow1 i j row p h1 h2;rw [hget i x hx];exact .sc rfl)
   rw [hlr] at this;exact this
theorem sorted_orc :
   ∀ (f : FuncId) (args : List PV) (h : HL) (c : CL) (v : PV) (h' : HL) (c' : CL), sortedO 70 81 f args h c = some (v, h', c') → ∀ R : PV → Heap → (Nat → Nat) → Prop, R v (hGet h') (cGet c') → HCallsR Tryz.prog f args (hGet h) (cGet c) R := by
 intro f args h c v h' c' ho R hR;unfold sortedO at ho;cases hf : Nat.beq f 70 with
 | false => rw [hf] at ho; cases ho
 | true =>
 rw [hf] at ho;obtain rfl : f = 70 := Nat.eq_of_beq_eq_true hf;simp only [cond_true] at ho;split at ho
 · rename_i g kb;cases hgk : Nat.beq g 81 with
   | false => rw [hgk] at ho; cases ho
   | true =>
   rw [hgk] at ho;obtain rfl : g = 81 := Nat.eq_of_beq_eq_true hgk;simp only [cond_true] at ho;split at ho
   · rename_i km hkb;split at ho
     · rename_i es bs0 clk0 hkm;split at ho
       · rename_i ss hss;cases hlb : Nat.ble es.length 1000000 with
         | false => rw [hlb] at ho; cases ho
         | true =>
         rw [hlb] at ho; cases ho;exact sorted_core2 hkb ⟨_, _, hkm⟩ hss (Nat.le_of_ble_eq_true hlb) hR
       · cases ho
     · cases ho
   · cases ho
 · cases ho
end Go.Proofs.YtjihcgcbnbaclaaGreatDoor.Y9
