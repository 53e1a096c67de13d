/- Blocks that a called function has laid, as own memory: slices.Grow of nothing, sorted keys; closures over three places; texts in own rows; the end of own rows cleared. -/
import Derived.Test.YtigdmkhdmbbfiaaPvZ6
import Derived.Test.YtigdmkhdmbbfiaaPvU1
namespace Go.Pv
open Go Go.RowKit
theorem arr2' {a : Array Value} (h : a.size = 2) : ∃ x y, a = #[x, y] := by
  obtain ⟨l⟩ := a
  match l, h with
  | [x, y], _ => exact ⟨x, y, rfl⟩
theorem grow_core {P : Program} {fG : FuncId} {sz site n : Nat} (hb : hasBody P fG = true) (hs : 1 ≤ sz)
    (hG : ∀ (base : Option Addr) (w : World), Calls P fG #[.slice base 0 0, .int .i64 n] w fun e w' => ∃ (c : Nat) (cells : Array Value) (T : TypeId), e = .returned (.slice (some ⟨w.heap.size, 0, none⟩) 0 c) ∧ w' = w.drew.alloc (.cells cells T) ∧ cells.size = c * sz)
    {h : Heap} {c : Nat → Nat} {R : PV → Heap → (Nat → Nat) → Prop} (hR : R (.ref (site, c site) sz 0 0) (hset h (site, c site) (some (.rows sz []))) (cset c site)) : HCallsR P fG [.nil, .int n] h c R := by
  refine ⟨hb, fun E vs gE hh hcn htt hvs hrep => ?_⟩
  subst hh
  subst hcn
  obtain ⟨v0, v1, rfl⟩ := arr2' hvs
  have h0 := hrep 0 v0 _ rfl rfl
  have h1 := hrep 1 v1 _ rfl rfl
  cases h0 with
  | nil =>
  have hv1 : v1 = .int .i64 n := h1.sc_inv
  subst hv1
  refine (hG _ E.w).mono ?_
  rintro e w' ⟨cp, cells, T, rfl, rfl, hsz⟩
  have hpush : (E.w.drew.alloc (.cells cells T)).heap = E.w.heap.push (.cells cells T (0, 0)) := rfl
  have ho : ObjOK (newEnv E site (.rows sz []) (E.w.drew.alloc (.cells cells T)) cp) (site, E.cnt site) (.rows sz []) :=
    ⟨cells, T, by simp [newEnv, hpush], by simp [newEnv, hsz], by simp, hs, by simp, by simp, by simp⟩
  refine ⟨_, .ref (site, E.cnt site) sz 0 0, newEnv E site (.rows sz []) (E.w.drew.alloc (.cells cells T)) cp, rfl, hR, rfl, newEnv_good gE hpush ho, newEnv_le gE hpush, (Below.refl _ _).drew.alloc gE.size _, ?_⟩
  have hr := Rep.ref (E := newEnv E site (.rows sz []) (E.w.drew.alloc (.cells cells T)) cp) (b := E.w.heap.size) (a := 0) (k := (site, E.cnt site)) (sz := sz) (off := 0) (len := 0) (c := cp) (by simp [newEnv, Env.known]) (Nat.zero_le _)
    (fun o ho => by
      simp only [newEnv, if_true, Option.some.injEq] at ho
      subst ho
      exact ⟨by simp [newEnv], by simp [newEnv], _, rfl⟩)
  exact hr
section
variable {P : Program} {K : PS → Prop} {d : Nat} {op : Op} {ty : TypeId} {pos : String} {aft : Array Edge} {gd : Option (Nat × Bool)} {rest : List Oper} {r : Nat → PV} {h : Heap} {cnt : Nat → Nat} {ops : Array Oper} {i : Nat} {G : Nat → Bool} {dd : Bool}
theorem s_nocall {f : FuncId} {args : List PV} {ts : List Ft} (rs : List Nat) (hrd : ∀ k ∈ args.flatMap keysOf, k.1 ∈ rs) (hg : gobB ops r G gd = true) (hgv : gval ops ⟨⟨r, h, cnt⟩, G⟩ gd = false) (hc : callOf r op = some (f, args))
    (hk : sRun P ops dd K rest (i + 1) ⟨setT r d .dead, h, cnt⟩ (setB G d false) (ts ++ [⟨i, rs, []⟩])) : sRun P ops dd K (⟨some d, op, ty, pos, aft, gd⟩ :: rest) i ⟨r, h, cnt⟩ G ts := by
  intro tr ht
  unfold gOps
  refine ⟨gobB_ok hg, ?_⟩
  show match callOf r op with | none => _ | some (f, args) => _
  rw [hc]
  refine .inl ⟨.dead, (fun h => by rw [hgv] at h; cases h), ?_⟩
  rw [hgv]
  have := hk (tr ++ [⟨i, args.flatMap keysOf, []⟩]) (ht.snoc rfl hrd (by simp))
  simp only [stepG, stepS, putR_setT, setG_setB]
  exact this
end
end Go.Pv
namespace Go.Pv
open Go Go.Proofs Go.RowKit Go.Maps Go.Sort

section
variable {P : Program}
/-- 'slices.Sorted' of the keys of a map, in any memory. -/
theorem sorted_coreO {fS fK : FuncId} {kt : TypeId} (hk : P.underlying kt = some .string) (hb : hasBody P fS = true)
    (hS : ∀ (Bm ad b nn : Nat) (D0 : DataW Unit) (w : World), Bm < w.heap.size → w.cell? ⟨Bm, ad, none⟩ = some (.map (some b)) → w.ownsMap P kt (fun _ => some (.nil, [])) b nn D0 → Maps.size D0 ≤ maxLen → Maps.size D0 * 16 ≤ 140737488355328 →
      Calls P fS #[.func (.func fK) #[] #[.pointer (some ⟨Bm, ad, none⟩)]] w fun e w' => ∃ (v : Value) (ss : List (List UInt8)), e = .returned v ∧ ss.Perm (strKeys D0) ∧
        w'.ownsRow w.heap.size kt 1 v ss.length ((ss.mergeSort (fun x y => decide (x ≤ y))).map encStr) ∧ Below w.heap.size w w')
    {h : Heap} {c : Nat → Nat} {R : PV → Heap → (Nat → Nat) → Prop} {kb km : Key} {es : List (PV × PV)} {ss : List (List UInt8)} (hkb : h kb = some (.rows 1 [[.map km]])) (hkm : ∃ bs clk, h km = some (.map es bs clk)) (hss : strsOf es = some ss) (hlen : es.length ≤ 1000000)
    {d : Nat} (hR : ∀ v h' c', SliceAt h' d v 1 (strRows (sortS ss)) → (∀ k' : Key, k' ≠ (d, c d) → h' k' = h k') → R v h' c') : HCallsR P fS [.func (.func fK) [] [.ptr kb 1 0 0]] h c R := by
  refine ⟨hb, fun E vs gE hh hcn htt hvs hrep => ?_⟩
  rw [← hh] at hkb hkm hR
  rw [← hcn] at hR
  obtain ⟨bs, clk, hkm⟩ := hkm
  obtain ⟨v0, rfl⟩ := arr1 (a := vs) hvs
  have h0 := hrep 0 v0 _ rfl rfl
  cases h0 with
  | @func _ vas cs _ _ hl hl' ha hc =>
  have has : vas = #[] := Array.eq_empty_of_size_eq_zero hl
  subst has
  obtain ⟨p0, rfl⟩ := arr1 (a := cs) hl'
  have hp0 := hc 0 p0 _ rfl rfl
  cases hp0 with
  | @ptr bb ad _ _ _ _ hkn hlk =>
  obtain ⟨hbb, had⟩ := (hlk _ hkb).1
  subst hbb; subst had
  obtain ⟨cc, T, hcc, hcs, _, _, _, _, hcells⟩ := gE.obj _ _ hkb
  obtain ⟨mv, hmv, hmr⟩ := hcells 0 0 [.map km] (.map km) rfl rfl
  cases hmr with
  | @map mb _ hkn2 hlm =>
  have hmb := (hlm _ hkm).1
  subst hmb
  obtain ⟨ents, h4, h5⟩ := ents_of gE hkm
  have hst : Stamps ents clk := by
    obtain ⟨ents0, h4', _, _, _, hst0, _⟩ := gE.obj _ _ hkm
    rw [h4] at h4'; cases h4'; exact hst0
  have hcell : E.w.cell? ⟨E.blk kb, (E.cap kb).2 + 0 * 1 + 0, none⟩ = some (.map (some (E.blk km))) := by
    rw [cell_of_heap hcc]
    exact hmv
  obtain ⟨h6, h7⟩ := strsOf_spec (P := P) (E := E) hk hss h5
  have hsize : ents.size = es.length := by simpa using h5.1
  let D0 : DataW Unit := .map ((ents.toList.map (WideElems.rg P kt fun _ => some (.nil, []))).foldr DataW.insert [])
  have hown : E.w.ownsMap P kt (fun _ => some (.nil, [])) (E.blk km) ents.size D0 :=
    ⟨ents, clk, h4, ⟨by rw [hsize]; exact Nat.le_trans hlen (by decide), hst, h6⟩, Nat.le_refl _, rfl⟩
  have hperm := WideShapes.sorted_perm (ents.toList.map (WideElems.rg (H := Unit) P kt fun _ => some (.nil, [])))
  have hDs : Maps.size D0 = es.length := by
    show List.length (List.foldr _ _ _) = _
    rw [hperm.length_eq]; simp [hsize]
  have hDk : (strKeys D0).Perm ss := by
    have := hperm.map fun p : Lit × DataW Unit => strOf p.1
    rw [List.map_map] at this
    have h8 : (ents.toList.map ((fun p : Lit × DataW Unit => strOf p.1) ∘ WideElems.rg P kt fun _ => some (.nil, []))) = ss := h7
    rw [h8] at this
    exact this
  refine (hS (E.blk kb) _ (E.blk km) ents.size D0 E.w (live_lt gE hkb) hcell hown (by rw [hDs]; exact Nat.le_trans hlen (by decide)) (by rw [hDs]; omega)).mono ?_
  rintro e w' ⟨u, ss', rfl, hperm', hrow, hbl⟩
  have hsort : (ss'.mergeSort fun x y => decide (x ≤ y)) = sortS ss := sortS_merge (hperm'.trans hDk)
  rw [hsort] at hrow
  have hlen' : ss'.length = (sortS ss).length := by rw [← hsort, List.length_mergeSort]
  rw [hlen'] at hrow
  have hblk : ∀ b, b < E.w.heap.size → w'.heap[b]? = E.w.heap[b]? := fun b hb => hbl.block b hb
  obtain ⟨hxl, ⟨rfl, hz⟩ | ⟨gb, cap, cur, rfl, hbase, hgb, hcap, _, hcur, htake⟩⟩ := hrow
  · have hle : EnvLe E { E with w := w' } := ⟨fun b hb _ => hblk b hb, hbl.size, fun b hb => .inl hb, rfl, rfl, rfl, fun _ => Nat.le_refl _, fun _ _ h => h, fun _ _ rs h => .inr ⟨rs, h, rfl, rfl⟩, fun _ o h _ => .inr ⟨o, h, rfl, rfl⟩⟩
    refine ⟨_, .nil, { E with w := w' }, rfl, hR _ _ _ ?_ (fun _ _ => rfl), rfl, ⟨gE.inj, gE.known, gE.base, fun k o h => ObjOK.le hle rfl rfl (hblk _ (live_lt gE h)) (gE.obj k o h), gE.out, Nat.le_trans gE.size hbl.size⟩, hle, hbl.mono gE.size, .nil⟩
    rw [List.eq_nil_of_length_eq_zero hz]
    exact .nil
  · have hlr : (strRows (sortS ss)).length = (sortS ss).length := by simp [strRows]
    have hget : ∀ (i : Nat) (x : List UInt8), (sortS ss)[i]? = some x → cur[i]? = some (encStr x) := fun i x hx => by
      have hi : i < (sortS ss).length := (List.getElem?_eq_some_iff.1 hx).1
      have h9 : (cur.toList.take ((sortS ss).length * 1))[i]? = some (encStr x) := by rw [htake]; simp [hx]
      rw [List.getElem?_take_of_lt (by omega)] at h9
      simpa using h9
    have hrow1 : ∀ (i j : Nat) (row : List PV) (p : PV), (strRows (sortS ss))[i]? = some row → row[j]? = some p → ∃ x, j = 0 ∧ p = .sc (encStr x) ∧ (sortS ss)[i]? = some x := fun i j row p h1 h2 => by
      simp only [strRows, List.getElem?_map, Option.map_eq_some_iff] at h1
      obtain ⟨x, hx, rfl⟩ := h1
      rcases j with _ | j
      · simp at h2; exact ⟨x, rfl, h2.symm, hx⟩
      · simp at h2
    have had := adopt gE (site := d) (sz := 1) (cp := cap) (ba := 0) (rs := strRows (sortS ss)) hbl hbase hgb (by simpa using hcur) (by rw [hlr]; exact hcap) (Nat.le_refl 1)
      (fun row hr => by simp only [strRows, List.mem_map] at hr; obtain ⟨x, _, rfl⟩ := hr; rfl)
      (fun i j row p h1 h2 => by
        obtain ⟨x, rfl, rfl, hx⟩ := hrow1 i j row p h1 h2
        exact ⟨encStr x, rfl, rfl, by simpa using hget i x hx⟩)
    refine ⟨_, .ref (d, E.cnt d) 1 0 (strRows (sortS ss)).length, newEnvB E d (.rows 1 (strRows (sortS ss))) w' (cap, 0) gb, rfl, hR _ _ _ (.inr ⟨E.cnt d, rfl, ?_⟩) (fun k' hk' => ?_), rfl, had.1, had.2.1, hbl.mono gE.size, ?_⟩
    · simp [newEnvB]
    · simp only [newEnvB]; rw [if_neg hk']
    · have := had.2.2.1 cap (by rw [hlr]; exact hcap) (Nat.le_refl _)
      rw [hlr] at this ⊢
      exact this

end
end Go.Pv
namespace Go.Pv
open Go
section
variable {P : Program} {ρ : Operand → PV} {h : Heap} {key : Key} {x y : Operand} {t : TypeId}
theorem inn_func0 {f : Fn} : Inn h (.func f [] []) (.func f [] []) := .base (.pure (.func _ _ _ (by simp) (by simp)))
theorem inn_clos3 {f : Fn} {a b c a' b' c' : PV} (ha : Inn0 h a a') (hb : Inn0 h b b') (hc : Inn0 h c c') : Inn h (.func f [] [a, b, c]) (.func f [] [a', b', c']) :=
  .func rfl rfl (fun i p q hp _ => by simp at hp) fun i p q hp hq => by
    rcases i with _ | _ | _ | i
    · simp at hp hq; subst hp; subst hq; exact ha
    · simp at hp hq; subst hp; subst hq; exact hb
    · simp at hp hq; subst hp; subst hq; exact hc
    · simp at hp
theorem e_storeS {k : Key} {zs : List ByteArray} {i : Nat} {a : ByteArray} (hx : ρ x = .ptr k 1 i 0) (hk : h k = some (.rows 1 (zs.map cb))) (hy : ρ y = .str a) (hi : i < zs.length) (hs : tySize P t = 1) (ht : tyOk P t = true) :
    eff P ρ h key (.store t x y) = ⟨True, .dead, [(k, some (.rows 1 ((zs.set i a).map cb)))], [k], false⟩ := by
  have h1 : setRow (zs.map cb) i 0 [.str a] = (zs.set i a).map cb := by
    unfold setRow setAt
    rw [List.map_set]
    congr 1
    simp [List.getD_eq_getElem?_getD, hi, cb]
  simp only [eff, storeEff, hx, hk, hy, hs, ht, pcells]
  rw [h1]
  simp [hi, PV.cell]
/-- A part of an own slice from its beginning, and from a place on. -/
theorem e_cutR {k : Key} {sz len n : Nat} (hx : ρ x = .ref k sz 0 len) (hy : ρ y = .int (n : Int)) (hn : n ≤ len) (ht : sliceOk P t = true) (hz : tySize P (elemTy P t) = sz) :
    eff P ρ h key (.slice t x none (some y) none) = ⟨True, .ref k sz 0 n, [], [], false⟩ := by
  simp only [eff, Option.map_none, Option.map_some, hx, hy, sliceEff, bound, ht, hz]; simp; omega
theorem e_cutL {k : Key} {sz len n : Nat} (hx : ρ x = .ref k sz 0 len) (hy : ρ y = .int (n : Int)) (hn : n ≤ len) (ht : sliceOk P t = true) (hz : tySize P (elemTy P t) = sz) :
    eff P ρ h key (.slice t x (some y) none none) = ⟨True, .ref k sz n (len - n), [], [], false⟩ := by
  simp only [eff, Option.map_none, Option.map_some, hx, hy, sliceEff, bound, ht, hz]; simp; omega
theorem e_clear {ts : Array TypeId} {k : Key} {sz off len : Nat} {rs : Rows} {z : List PV} (hts : ts.toList = [t]) (hx : ρ x = .ref k sz off len) (hk : h k = some (.rows sz rs)) (ht : sliceOk P t = true) (hs : tySize P (elemTy P t) = sz) (hz : zeroCellsOf P (elemTy P t) = some z)
    (hz2 : z.all PV.cell = true) (hz3 : z.length = sz) (hl : off + len ≤ rs.length) :
    eff P ρ h key (.call { callee := .builtin .clear, args := #[x], argTypes := ts }) = ⟨True, .tup [], [(k, some (.rows sz (rs.take off)))], [k], false⟩ := by
  show builtinEff P h key .clear ts.toList [ρ x] = _
  rw [hts, hx]
  simp only [builtinEff]
  unfold clearEff
  simp only [hk]
  have e : (sliceOk P t = true ∧ True ∧ tySize P (elemTy P t) = sz ∧ (∃ z, zeroCellsOf P (elemTy P t) = some z ∧ z.all PV.cell = true ∧ z.length = sz) ∧ off + len ≤ rs.length) = True := eq_true ⟨ht, trivial, hs, ⟨z, hz, hz2, hz3⟩, hl⟩
  rw [e]
end
end Go.Pv
namespace Go.Pv
open Go Go.RowKit
section
variable {P : Program} {K : PS → Prop} {d : Nat} {op : Op} {ty : TypeId} {pos : String} {aft : Array Edge} {gd : Option (Nat × Bool)} {rest : List Oper} {r : Nat → PV} {h : Heap} {cnt : Nat → Nat} {ops : Array Oper} {i : Nat} {G : Nat → Bool} {dd : Bool}
/-- A call that hands back a new slice, in a region whose order may be drawn. -/
theorem s_callN {f : FuncId} {args as' : List PV} {sz : Nat} {rows : Rows} {ts : List Ft} (rs : List Nat) (hrd : ∀ k ∈ args.flatMap keysOf, k.1 ∈ rs) (hg : gobB ops r G gd = true) (hgv : gval ops ⟨⟨r, h, cnt⟩, G⟩ gd = true) (hc : callOf r op = some (f, args)) (hv : validB r G op = true) (hi : Inns h args as') (hp : PNew P f as' sz rows)
    (hk : sRun P ops dd K rest (i + 1) ⟨setT r d (.ref (d, cnt d) sz 0 rows.length), hset h (d, cnt d) (some (.rows sz rows)), cset cnt d⟩ (setB G d true) (ts ++ [⟨i, rs, [d]⟩])) : sRun P ops dd K (⟨some d, op, ty, pos, aft, gd⟩ :: rest) i ⟨r, h, cnt⟩ G ts := by
  intro tr ht
  unfold gOps
  refine ⟨gobB_ok hg, ?_⟩
  show match callOf r op with | none => _ | some (f, args) => _
  rw [hc]
  refine .inr (.inr ⟨hgv, validB_ok hv, rfl, _, ⟨sz, rows, as', hi, hp, rfl⟩, ?_⟩)
  have := hk (tr ++ [⟨i, args.flatMap keysOf, [(d, cnt d)]⟩]) (ht.snoc rfl hrd (by simp))
  simp only [stepG, stepS, putR_setT, setG_setB]
  rw [hgv]
  exact this
end

/-- What a function hands back that goes through its code, as new memory. -/
theorem PNew.of_calls {P : Program} {f : FuncId} {args : List PV} {sz d : Nat} {rows : Rows} (hsz : 1 ≤ sz) (hw : ∀ row ∈ rows, row.length = sz) (hpl : ∀ row ∈ rows, ∀ p ∈ row, ∃ x, p = .sc x ∧ isScalar x = true)
    (hc : HCallsR P f args (fun _ => none) (fun _ => 0) fun v h _ => ∃ g, v = .ref (d, g) sz 0 rows.length ∧ h (d, g) = some (.rows sz rows)) : PNew P f args sz rows := by
  refine ⟨hc.1, hsz, hw, fun w M vs hM hvs hrep => ?_⟩
  refine (hc.2 (pureEnv w M true) vs (pureEnv_good hM true) rfl rfl rfl hvs hrep).mono ?_
  rintro e w' ⟨u, v, E', rfl, ⟨g, rfl, hg⟩, rfl, gE, hle, hbl, hu⟩
  obtain ⟨c, T, h5, h6, h7, h8, h9, h10, h11⟩ := gE.obj _ _ hg
  have hown : w.heap.size ≤ E'.blk (d, g) := by
    rcases hle.own (E'.blk (d, g)) ⟨_, _, hg, rfl⟩ with ⟨k, o, h1, _⟩ | h1
    · exact absurd h1 (by simp [pureEnv])
    · exact h1
  refine ⟨u, E'.blk (d, g), (E'.cap (d, g)).1, (E'.cap (d, g)).2, c, T, rfl, hbl, hown, h5, h6, h7, fun i j row p h1 h2 => ?_, ?_⟩
  · obtain ⟨x, rfl, hx⟩ := hpl row (List.mem_of_getElem? h1) p (List.mem_of_getElem? h2)
    obtain ⟨v, h3, h4⟩ := h11 i j row _ h1 h2
    exact ⟨x, rfl, hx, by rw [h3, h4.sc_inv]⟩
  · generalize hn : rows.length = n at hu h7
    cases hu with
    | ref hk hlen hl =>
      obtain ⟨⟨hb, ha⟩, hcap, _⟩ := hl _ hg
      subst hb; subst ha
      refine .inl ⟨_, ?_, hlen, by simpa using hcap⟩
      rw [Nat.zero_mul, Nat.add_zero]
    | refE hk hl => exact .inr ⟨_, rfl, rfl⟩
end Go.Pv
