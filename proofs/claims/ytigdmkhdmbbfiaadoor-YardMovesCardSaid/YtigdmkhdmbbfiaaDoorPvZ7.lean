/- Blocks that a called function has laid, as own memory: slices.Grow of nothing, sorted keys; closures over three places; texts in own rows; the end of own rows cleared. -/
import Derived.Test.YtigdmkhdmbbfiaaDoorPvZ6
import Derived.Test.YtigdmkhdmbbfiaaDoorPvU1
namespace Go.Pv
open Go Go.RowKit
section
variable {P : Program} {K : PS → Prop} {d : Nat} {op : Op} {ty : TypeId} {pos : String} {aft : Array Edge} {gd : Option (Nat × Bool)} {rest : List Oper} {r : Nat → PV} {h : Heap} {cnt : Nat → Nat} {ops : Array Oper} {i : Nat} {G : Nat → Bool} {dd : Bool}
end
end Go.Pv
namespace Go.Pv
open Go Go.Proofs Go.RowKit Go.Maps Go.Sort

section
variable {P : Program}
/-- 'slices.Sorted' of the keys of a map, in any memory. -/
theorem sorted_coreO {fS fK : FuncId} {kt : TypeId} (hk : P.underlying kt = some .string) (hb : hasBody P fS = true)
    (hS : ∀ (Bm ad b nn : Nat) (D0 : DataW Unit) (w : World), Bm < w.heap.size → w.cell? ⟨Bm, ad, none⟩ = some (.map (some b)) → w.ownsMap P kt (fun _ => some (.nil, [])) b nn D0 → Maps.size D0 ≤ maxLen → Maps.size D0 * 16 ≤ 140737488355328 →
      Calls P fS #[.func (.func fK) #[] #[.pointer (some ⟨Bm, ad, none⟩)]] w fun e w' => ∃ (v : Value) (ss : List (List UInt8)), e = .returned v ∧ ss.Perm (strKeys D0) ∧
        w'.ownsRow w.heap.size kt 1 v ss.length ((ss.mergeSort (fun x y => decide (x ≤ y))).map encStr) ∧ Below w.heap.size w w')
    {h : Heap} {c : Nat → Nat} {R : PV → Heap → (Nat → Nat) → Prop} {kb km : Key} {es : List (PV × PV)} {ss : List (List UInt8)} (hkb : h kb = some (.rows 1 [[.map km]])) (hkm : ∃ bs clk, h km = some (.map es bs clk)) (hss : strsOf es = some ss) (hlen : es.length ≤ 1000000)
    {d : Nat} (hR : ∀ v h' c', SliceAt h' d v 1 (strRows (sortS ss)) → (∀ k' : Key, k' ≠ (d, c d) → h' k' = h k') → R v h' c') : HCallsR P fS [.func (.func fK) [] [.ptr kb 1 0 0]] h c R := by
  refine ⟨hb, fun E vs gE hh hcn htt hvs hrep => ?_⟩
  rw [← hh] at hkb hkm hR
  rw [← hcn] at hR
  obtain ⟨bs, clk, hkm⟩ := hkm
  obtain ⟨v0, rfl⟩ := arr1 (a := vs) hvs
  have h0 := hrep 0 v0 _ rfl rfl
  cases h0 with
  | @func _ vas cs _ _ hl hl' ha hc =>
  have has : vas = #[] := Array.eq_empty_of_size_eq_zero hl
  subst has
  obtain ⟨p0, rfl⟩ := arr1 (a := cs) hl'
  have hp0 := hc 0 p0 _ rfl rfl
  cases hp0 with
  | @ptr bb ad _ _ _ _ hkn hlk =>
  obtain ⟨hbb, had⟩ := (hlk _ hkb).1
  subst hbb; subst had
  obtain ⟨cc, T, hcc, hcs, _, _, _, _, hcells⟩ := gE.obj _ _ hkb
  obtain ⟨mv, hmv, hmr⟩ := hcells 0 0 [.map km] (.map km) rfl rfl
  cases hmr with
  | @map mb _ hkn2 hlm =>
  have hmb := (hlm _ hkm).1
  subst hmb
  obtain ⟨ents, h4, h5⟩ := ents_of gE hkm
  have hst : Stamps ents clk := by
    obtain ⟨ents0, h4', _, _, _, hst0, _⟩ := gE.obj _ _ hkm
    rw [h4] at h4'; cases h4'; exact hst0
  have hcell : E.w.cell? ⟨E.blk kb, (E.cap kb).2 + 0 * 1 + 0, none⟩ = some (.map (some (E.blk km))) := by
    rw [cell_of_heap hcc]
    exact hmv
  obtain ⟨h6, h7⟩ := strsOf_spec (P := P) (E := E) hk hss h5
  have hsize : ents.size = es.length := by simpa using h5.1
  let D0 : DataW Unit := .map ((ents.toList.map (WideElems.rg P kt fun _ => some (.nil, []))).foldr DataW.insert [])
  have hown : E.w.ownsMap P kt (fun _ => some (.nil, [])) (E.blk km) ents.size D0 :=
    ⟨ents, clk, h4, ⟨by rw [hsize]; exact Nat.le_trans hlen (by decide), hst, h6⟩, Nat.le_refl _, rfl⟩
  have hperm := WideShapes.sorted_perm (ents.toList.map (WideElems.rg (H := Unit) P kt fun _ => some (.nil, [])))
  have hDs : Maps.size D0 = es.length := by
    show List.length (List.foldr _ _ _) = _
    rw [hperm.length_eq]; simp [hsize]
  have hDk : (strKeys D0).Perm ss := by
    have := hperm.map fun p : Lit × DataW Unit => strOf p.1
    rw [List.map_map] at this
    have h8 : (ents.toList.map ((fun p : Lit × DataW Unit => strOf p.1) ∘ WideElems.rg P kt fun _ => some (.nil, []))) = ss := h7
    rw [h8] at this
    exact this
  refine (hS (E.blk kb) _ (E.blk km) ents.size D0 E.w (live_lt gE hkb) hcell hown (by rw [hDs]; exact Nat.le_trans hlen (by decide)) (by rw [hDs]; omega)).mono ?_
  rintro e w' ⟨u, ss', rfl, hperm', hrow, hbl⟩
  have hsort : (ss'.mergeSort fun x y => decide (x ≤ y)) = sortS ss := sortS_merge (hperm'.trans hDk)
  rw [hsort] at hrow
  have hlen' : ss'.length = (sortS ss).length := by rw [← hsort, List.length_mergeSort]
  rw [hlen'] at hrow
  have hblk : ∀ b, b < E.w.heap.size → w'.heap[b]? = E.w.heap[b]? := fun b hb => hbl.block b hb
  obtain ⟨hxl, ⟨rfl, hz⟩ | ⟨gb, cap, cur, rfl, hbase, hgb, hcap, _, hcur, htake⟩⟩ := hrow
  · have hle : EnvLe E { E with w := w' } := ⟨fun b hb _ => hblk b hb, hbl.size, fun b hb => .inl hb, rfl, rfl, rfl, fun _ => Nat.le_refl _, fun _ _ h => h, fun _ _ rs h => .inr ⟨rs, h, rfl, rfl⟩, fun _ o h _ => .inr ⟨o, h, rfl, rfl⟩⟩
    refine ⟨_, .nil, { E with w := w' }, rfl, hR _ _ _ ?_ (fun _ _ => rfl), rfl, ⟨gE.inj, gE.known, gE.base, fun k o h => ObjOK.le hle rfl rfl (hblk _ (live_lt gE h)) (gE.obj k o h), gE.out, Nat.le_trans gE.size hbl.size, gw_keep gE.glob (Nat.le_refl _) fun b hb => hblk b (Nat.lt_of_lt_of_le hb gE.size)⟩, hle, hbl.mono gE.size, .nil⟩
    rw [List.eq_nil_of_length_eq_zero hz]
    exact .nil
  · have hlr : (strRows (sortS ss)).length = (sortS ss).length := by simp [strRows]
    have hget : ∀ (i : Nat) (x : List UInt8), (sortS ss)[i]? = some x → cur[i]? = some (encStr x) := fun i x hx => by
      have hi : i < (sortS ss).length := (List.getElem?_eq_some_iff.1 hx).1
      have h9 : (cur.toList.take ((sortS ss).length * 1))[i]? = some (encStr x) := by rw [htake]; simp [hx]
      rw [List.getElem?_take_of_lt (by omega)] at h9
      simpa using h9
    have hrow1 : ∀ (i j : Nat) (row : List PV) (p : PV), (strRows (sortS ss))[i]? = some row → row[j]? = some p → ∃ x, j = 0 ∧ p = .sc (encStr x) ∧ (sortS ss)[i]? = some x := fun i j row p h1 h2 => by
      simp only [strRows, List.getElem?_map, Option.map_eq_some_iff] at h1
      obtain ⟨x, hx, rfl⟩ := h1
      rcases j with _ | j
      · simp at h2; exact ⟨x, rfl, h2.symm, hx⟩
      · simp at h2
    have had := adopt gE (site := d) (sz := 1) (cp := cap) (ba := 0) (rs := strRows (sortS ss)) hbl hbase hgb (by simpa using hcur) (by rw [hlr]; exact hcap) (Nat.le_refl 1)
      (fun row hr => by simp only [strRows, List.mem_map] at hr; obtain ⟨x, _, rfl⟩ := hr; rfl)
      (fun i j row p h1 h2 => by
        obtain ⟨x, rfl, rfl, hx⟩ := hrow1 i j row p h1 h2
        exact ⟨encStr x, rfl, rfl, by simpa using hget i x hx⟩)
    refine ⟨_, .ref (d, E.cnt d) 1 0 (strRows (sortS ss)).length, newEnvB E d (.rows 1 (strRows (sortS ss))) w' (cap, 0) gb, rfl, hR _ _ _ (.inr ⟨E.cnt d, rfl, ?_⟩) (fun k' hk' => ?_), rfl, had.1, had.2.1, hbl.mono gE.size, ?_⟩
    · simp [newEnvB]
    · simp only [newEnvB]; rw [if_neg hk']
    · have := had.2.2.1 cap (by rw [hlr]; exact hcap) (Nat.le_refl _)
      rw [hlr] at this ⊢
      exact this

end
end Go.Pv
namespace Go.Pv
open Go
section
variable {P : Program} {ρ : Operand → PV} {h : Heap} {key : Key} {x y : Operand} {t : TypeId}
/-- A part of an own slice from its beginning, and from a place on. -/
theorem e_cutR {k : Key} {sz len n : Nat} (hx : ρ x = .ref k sz 0 len) (hy : ρ y = .int (n : Int)) (hn : n ≤ len) (ht : sliceOk P t = true) (hz : tySize P (elemTy P t) = sz) :
    eff P ρ h key (.slice t x none (some y) none) = ⟨True, .ref k sz 0 n, [], [], false⟩ := by
  simp only [eff, Option.map_none, Option.map_some, hx, hy, sliceEff, bound, ht, hz]; simp; omega
end
end Go.Pv
namespace Go.Pv
open Go Go.RowKit
section
variable {P : Program} {K : PS → Prop} {d : Nat} {op : Op} {ty : TypeId} {pos : String} {aft : Array Edge} {gd : Option (Nat × Bool)} {rest : List Oper} {r : Nat → PV} {h : Heap} {cnt : Nat → Nat} {ops : Array Oper} {i : Nat} {G : Nat → Bool} {dd : Bool}
/-- A call that hands back a new slice, in a region whose order may be drawn. -/
theorem s_callN {f : FuncId} {args as' : List PV} {sz : Nat} {rows : Rows} {ts : List Ft} (rs : List Nat) (hrd : ∀ k ∈ args.flatMap keysOf, k.1 ∈ rs) (hg : gobB ops r G gd = true) (hgv : gval ops ⟨⟨r, h, cnt⟩, G⟩ gd = true) (hc : callOf r op = some (f, args)) (hv : validB r G op = true) (hi : Inns h args as') (hp : PNew P f as' sz rows)
    (hk : sRun P ops dd K rest (i + 1) ⟨setT r d (.ref (d, cnt d) sz 0 rows.length), hset h (d, cnt d) (some (.rows sz rows)), cset cnt d⟩ (setB G d true) (ts ++ [⟨i, rs, [d]⟩])) : sRun P ops dd K (⟨some d, op, ty, pos, aft, gd⟩ :: rest) i ⟨r, h, cnt⟩ G ts := by
  intro tr ht
  unfold gOps
  refine ⟨gobB_ok hg, ?_⟩
  show match callOf r op with | none => _ | some (f, args) => _
  rw [hc]
  refine .inr (.inr ⟨hgv, validB_ok hv, rfl, _, ⟨sz, rows, as', hi, hp, rfl⟩, ?_⟩)
  have := hk (tr ++ [⟨i, args.flatMap keysOf, [(d, cnt d)]⟩]) (ht.snoc rfl hrd (by simp))
  simp only [stepG, stepS, putR_setT, setG_setB]
  rw [hgv]
  exact this
end

/-- What a function hands back that goes through its code, as new memory. -/
theorem PNew.of_calls {P : Program} {f : FuncId} {args : List PV} {sz d : Nat} {rows : Rows} (hsz : 1 ≤ sz) (hw : ∀ row ∈ rows, row.length = sz) (hpl : ∀ row ∈ rows, ∀ p ∈ row, ∃ x, p = .sc x ∧ isScalar x = true)
    (hc : HCallsR P f args (fun _ => none) (fun _ => 0) fun v h _ => ∃ g, v = .ref (d, g) sz 0 rows.length ∧ h (d, g) = some (.rows sz rows)) : PNew P f args sz rows := by
  refine ⟨hc.1, hsz, hw, fun w M vs hM hgw hvs hrep => ?_⟩
  refine (hc.2 (pureEnv w M true) vs (pureEnv_good hM hgw true) rfl rfl rfl hvs hrep).mono ?_
  rintro e w' ⟨u, v, E', rfl, ⟨g, rfl, hg⟩, rfl, gE, hle, hbl, hu⟩
  obtain ⟨c, T, h5, h6, h7, h8, h9, h10, h11⟩ := gE.obj _ _ hg
  have hown : w.heap.size ≤ E'.blk (d, g) := by
    rcases hle.own (E'.blk (d, g)) ⟨_, _, hg, rfl⟩ with ⟨k, o, h1, _⟩ | h1
    · exact absurd h1 (by simp [pureEnv])
    · exact h1
  refine ⟨u, E'.blk (d, g), (E'.cap (d, g)).1, (E'.cap (d, g)).2, c, T, rfl, hbl, hown, h5, h6, h7, fun i j row p h1 h2 => ?_, ?_⟩
  · obtain ⟨x, rfl, hx⟩ := hpl row (List.mem_of_getElem? h1) p (List.mem_of_getElem? h2)
    obtain ⟨v, h3, h4⟩ := h11 i j row _ h1 h2
    exact ⟨x, rfl, hx, by rw [h3, h4.sc_inv]⟩
  · generalize hn : rows.length = n at hu h7
    cases hu with
    | ref hk hlen hl =>
      obtain ⟨⟨hb, ha⟩, hcap, _⟩ := hl _ hg
      subst hb; subst ha
      refine .inl ⟨_, ?_, hlen, by simpa using hcap⟩
      rw [Nat.zero_mul, Nat.add_zero]
    | refE hk hl => exact .inr ⟨_, rfl, rfl⟩
end Go.Pv
