/- Sorted keys of an own map whose keys are integers. -/
import Derived.Shelf.SlIterI.Nil
import Derived.Test.YtdbpfhbppcpbbaaPvU1
namespace Go.Pv
open Go Go.Proofs Go.RowKit Go.Maps Go.Sort

/-! ### Insertion sort of integers -/
def insI (x : Int) : List Int → List Int
  | [] => [x]
  | y :: l => if x ≤ y then x :: y :: l else y :: insI x l
def sortI (l : List Int) : List Int := l.foldr insI []
theorem insI_perm (x : Int) : ∀ l, (insI x l).Perm (x :: l)
  | [] => List.Perm.refl _
  | y :: l => by
    unfold insI
    split
    · exact List.Perm.refl _
    · exact ((insI_perm x l).cons y).trans (.swap x y l)
theorem sortI_perm : ∀ l, (sortI l).Perm l
  | [] => List.Perm.refl _
  | x :: l => (insI_perm x (sortI l)).trans ((sortI_perm l).cons x)
theorem insI_sorted (x : Int) : ∀ l : List Int, l.Pairwise (fun a b => a ≤ b) → (insI x l).Pairwise (fun a b => a ≤ b)
  | [], _ => by simp [insI]
  | y :: l, h => by
    obtain ⟨h1, h2⟩ := List.pairwise_cons.1 h
    unfold insI
    split
    · rename_i hx
      refine List.pairwise_cons.2 ⟨fun z hz => ?_, h⟩
      rcases List.mem_cons.1 hz with rfl | hz
      · exact hx
      · exact Int.le_trans hx (h1 z hz)
    · rename_i hx
      refine List.pairwise_cons.2 ⟨fun z hz => ?_, insI_sorted x l h2⟩
      rcases List.mem_cons.1 ((insI_perm x l).mem_iff.1 hz) with rfl | hz
      · omega
      · exact h1 z hz
theorem sortI_sorted : ∀ l, (sortI l).Pairwise (fun a b => a ≤ b)
  | [] => List.Pairwise.nil
  | x :: l => insI_sorted x _ (sortI_sorted l)
theorem sortI_merge {l l' : List Int} (h : l'.Perm l) : (l'.mergeSort fun x y => decide (x ≤ y)) = sortI l := by
  refine List.Perm.eq_of_pairwise (le := fun a b => a ≤ b) (fun a b _ _ h1 h2 => Int.le_antisymm h1 h2) ?_ (sortI_sorted l) (((List.mergeSort_perm _ _).trans h).trans (sortI_perm l).symm)
  have := List.pairwise_mergeSort (le := fun x y : Int => decide (x ≤ y)) (fun a b c h1 h2 => by simp at *; omega) (fun a b => by simp; omega) l'
  exact this.imp fun h => by simpa using h
/-- The keys of an own map, if they are integers, none of them large. -/
def intsOf : List (PV × PV) → Option (List Int)
  | [] => some []
  | p :: es => match p.1, intsOf es with
    | .sc (.int .i64 z), some l => bif decide (0 ≤ z ∧ z ≤ 1000000) then some (z :: l) else none
    | _, _ => none
def intRows (l : List Int) : Rows := l.map fun z => [.sc (.int .i64 z)]
def intOfL : Lit → Int
  | .int _ z => z
  | _ => 0
variable {P : Program}

theorem intsOf_spec {E : Env} {kt : TypeId} (hk : P.underlying kt = some (.int .i64)) : ∀ {es : List (PV × PV)} {ss : List Int} {ents : List MapEntry}, intsOf es = some ss → EntsRep E ents es →
    (∀ x ∈ ents, ∃ y, WideElems.rd (H := Unit) P kt (fun _ => some (.nil, [])) x = some y) ∧ (ents.map fun x => intOfL (WideElems.rg (H := Unit) P kt (fun _ => some (.nil, [])) x).1) = ss
  | [], ss, [], h, hr => by cases h; simp
  | [], ss, _ :: _, h, hr => by simp [EntsRep] at hr
  | p :: es, ss, [], h, hr => by simp [EntsRep] at hr
  | p :: es, ss, e :: ents, h, hr => by
    unfold intsOf at h
    split at h
    · rename_i z l hp hl
      cases hb : decide (0 ≤ z ∧ z ≤ 1000000) with
      | false => rw [hb] at h; cases h
      | true =>
        rw [hb] at h; cases h
        rw [decide_eq_true_eq] at hb
        obtain ⟨h1, h2⟩ := intsOf_spec hk (ents := ents) hl ⟨by simpa using hr.1, fun i e p h3 h4 => hr.2 (i + 1) e p h3 h4⟩
        have hkey := (hr.2 0 e p rfl rfl).1
        rw [hp] at hkey
        have hke := hkey.sc_inv
        have hrd : WideElems.rd (H := Unit) P kt (fun _ => some (.nil, [])) e = some (.int .i64 z, .nil) := by
          unfold WideElems.rd
          rw [hke, keyOf_int_mk hk (by show (decide (_ ≤ z) && decide (z ≤ _)) = true; rw [Bool.and_eq_true, decide_eq_true_eq, decide_eq_true_eq]; exact ⟨by show (-9223372036854775808 : Int) ≤ z; omega, by show z ≤ (9223372036854775807 : Int); omega⟩)]
          rfl
        refine ⟨fun x hx => ?_, ?_⟩
        · rcases List.mem_cons.1 hx with rfl | hx
          · exact ⟨_, hrd⟩
          · exact h1 x hx
        · simp only [List.map_cons, h2]
          rw [WideElems.rg_of hrd]
          rfl
    · cases h

/-- 'slices.Sorted' of the keys of a map, in any memory. -/
theorem sortedI_core {fS fK : FuncId} {kt : TypeId} (hk : P.underlying kt = some (.int .i64)) (hb : hasBody P fS = true)
    (hS : ∀ (Bm b nn : Nat) (D0 : DataW Unit) (w : World), Bm < w.heap.size → w.cell? ⟨Bm, 0, none⟩ = some (.map (some b)) → w.ownsMap P kt (fun _ => some (.nil, [])) b nn D0 → Maps.size D0 ≤ maxLen → Maps.size D0 * 8 ≤ 140737488355328 →
      Calls P fS #[.func (.func fK) #[] #[.pointer (some ⟨Bm, 0, none⟩)]] w fun e w' => ∃ (v : Value) (ss : List Int), e = .returned v ∧ ss.Perm (intKeys D0) ∧
        w'.ownsRow w.heap.size kt 1 v ss.length ((ss.mergeSort (fun x y => decide (x ≤ y))).map encZ) ∧ Below w.heap.size w w')
    {h : Heap} {c : Nat → Nat} {R : PV → Heap → (Nat → Nat) → Prop} {kb km : Key} {es : List (PV × PV)} {ss : List Int} (hkb : h kb = some (.rows 1 [[.map km]])) (hkm : ∃ bs clk, h km = some (.map es bs clk)) (hss : intsOf es = some ss) (hlen : es.length ≤ 1000000)
    (hR : R (.lit false 1 (intRows (sortI ss))) h c) : HCallsR P fS [.func (.func fK) [] [.ptr kb 1 0 0]] h c R := by
  refine ⟨hb, fun E vs gE hh hcn htt hvs hrep => ?_⟩
  rw [← hh] at hkb hkm hR
  rw [← hcn] at hR
  obtain ⟨bs, clk, hkm⟩ := hkm
  obtain ⟨v0, rfl⟩ := arr1 (a := vs) hvs
  have h0 := hrep 0 v0 _ rfl rfl
  cases h0 with
  | @func _ vas cs _ _ hl hl' ha hc =>
  have has : vas = #[] := Array.eq_empty_of_size_eq_zero hl
  subst has
  obtain ⟨p0, rfl⟩ := arr1 (a := cs) hl'
  have hp0 := hc 0 p0 _ rfl rfl
  cases hp0 with
  | @ptr bb _ _ _ _ hkn hlk =>
  have hbb := (hlk _ hkb).1
  subst hbb
  obtain ⟨cc, T, hcc, hcs, _, _, _, _, hcells⟩ := gE.obj _ _ hkb
  obtain ⟨mv, hmv, hmr⟩ := hcells 0 0 [.map km] (.map km) rfl rfl
  cases hmr with
  | @map mb _ hkn2 hlm =>
  have hmb := (hlm _ hkm).1
  subst hmb
  obtain ⟨ents, h4, h5⟩ := ents_of gE hkm
  have hst : Stamps ents clk := by
    obtain ⟨ents0, h4', _, _, _, hst0, _⟩ := gE.obj _ _ hkm
    rw [h4] at h4'; cases h4'; exact hst0
  have hcell : E.w.cell? ⟨E.blk kb, 0, none⟩ = some (.map (some (E.blk km))) := by
    rw [cell_of_heap hcc]
    simpa using hmv
  obtain ⟨h6, h7⟩ := intsOf_spec (P := P) (E := E) hk hss h5
  have hsize : ents.size = es.length := by simpa using h5.1
  let D0 : DataW Unit := .map ((ents.toList.map (WideElems.rg P kt fun _ => some (.nil, []))).foldr DataW.insert [])
  have hown : E.w.ownsMap P kt (fun _ => some (.nil, [])) (E.blk km) ents.size D0 :=
    ⟨ents, clk, h4, ⟨by rw [hsize]; exact Nat.le_trans hlen (by decide), hst, h6⟩, Nat.le_refl _, rfl⟩
  have hperm := WideShapes.sorted_perm (ents.toList.map (WideElems.rg (H := Unit) P kt fun _ => some (.nil, [])))
  have hDs : Maps.size D0 = es.length := by
    show List.length (List.foldr _ _ _) = _
    rw [hperm.length_eq]; simp [hsize]
  have hDk : (intKeys D0).Perm ss := by
    have := hperm.map fun p : Lit × DataW Unit => intOfL p.1
    rw [List.map_map] at this
    have h8 : (ents.toList.map ((fun p : Lit × DataW Unit => intOfL p.1) ∘ WideElems.rg P kt fun _ => some (.nil, []))) = ss := h7
    rw [h8] at this
    exact this
  have hadr : (0 * 1 + 0 : Nat) = 0 := rfl
  refine (hS (E.blk kb) (E.blk km) ents.size D0 E.w (live_lt gE hkb) hcell hown (by rw [hDs]; exact Nat.le_trans hlen (by decide)) (by rw [hDs]; omega)).mono ?_
  rintro e w' ⟨u, ss', rfl, hperm', hrow, hbl⟩
  have hsort : (ss'.mergeSort fun x y => decide (x ≤ y)) = sortI ss := sortI_merge (hperm'.trans hDk)
  rw [hsort] at hrow
  have hlen' : ss'.length = (sortI ss).length := by rw [← hsort, List.length_mergeSort]
  rw [hlen'] at hrow
  have hblk : ∀ b, b < E.w.heap.size → w'.heap[b]? = E.w.heap[b]? := fun b hb => hbl.block b hb
  have hle : EnvLe E { E with w := w' } := ⟨fun b hb _ => hblk b hb, hbl.size, fun b hb => .inl hb, rfl, rfl, rfl, fun _ => Nat.le_refl _, fun _ _ h => h, fun _ _ rs h => .inr ⟨rs, h, rfl, rfl⟩, fun _ o h _ => .inr ⟨o, h, rfl, rfl⟩⟩
  refine ⟨u, .lit false 1 (intRows (sortI ss)), { E with w := w' }, rfl, hR, rfl, ⟨gE.inj, gE.known, gE.base, fun k o h => ObjOK.le hle rfl rfl (hblk _ (live_lt gE h)) (gE.obj k o h), gE.out, Nat.le_trans gE.size hbl.size⟩, hle, hbl.mono gE.size, ?_⟩
  obtain ⟨hxl, ⟨rfl, hz⟩ | ⟨gb, cap, cur, rfl, hbase, hgb, hcap, _, hcur, htake⟩⟩ := hrow
  · rw [List.eq_nil_of_length_eq_zero hz]
    exact .litE
  · have hlr : (intRows (sortI ss)).length = (sortI ss).length := by simp [intRows]
    have hwidth : ∀ row ∈ intRows (sortI ss), row.length = 1 := fun row hr => by
      simp only [intRows, List.mem_map] at hr; obtain ⟨x, _, rfl⟩ := hr; rfl
    have hrow1 : ∀ (i j : Nat) (row : List PV) (p : PV), (intRows (sortI ss))[i]? = some row → row[j]? = some p → ∃ x, j = 0 ∧ p = .sc (encZ x) ∧ (sortI ss)[i]? = some x := fun i j row p h1 h2 => by
      simp only [intRows, List.getElem?_map, Option.map_eq_some_iff] at h1
      obtain ⟨x, hx, rfl⟩ := h1
      rcases j with _ | j
      · simp at h2; exact ⟨x, rfl, h2.symm, hx⟩
      · simp at h2
    have hget : ∀ (i : Nat) (x : Int), (sortI ss)[i]? = some x → cur[i]? = some (encZ x) := fun i x hx => by
      have hi : i < (sortI ss).length := (List.getElem?_eq_some_iff.1 hx).1
      have h9 : (cur.toList.take ((sortI ss).length * 1))[i]? = some (encZ x) := by rw [htake]; simp [hx]
      rw [List.getElem?_take_of_lt (by omega)] at h9
      simpa using h9
    have := Rep.lit (E := { E with w := w' }) (b := gb) (off := 0) (c := cap) (t := false) (sz := 1) (rows := intRows (sortI ss)) (f := fun i _ => (cur[i]?).getD .nilFunc)
      ⟨fun ⟨k, o, h1, h2⟩ => by have := live_lt gE h1; have h2' : E.blk k = gb := h2; omega, fun _ hM => by have := gE.out _ hM; have := gE.size; omega, (fun h => by cases h), (Array.getElem?_eq_some_iff.1 hgb).1, hwidth,
        (fun i j row p h1 h2 => by
          obtain ⟨x, rfl, rfl, hx⟩ := hrow1 i j row p h1 h2
          rw [hget i x hx]
          show w'.cell? ⟨gb, 0 + i * 1 + 0, none⟩ = _
          rw [cell_of_heap hgb]
          simp [hget i x hx]),
        (fun row hr p hp => by
          simp only [intRows, List.mem_map] at hr; obtain ⟨x, _, rfl⟩ := hr
          simp at hp; subst hp; exact .sc _),
        (fun row hr p hp => by
          simp only [intRows, List.mem_map] at hr; obtain ⟨x, _, rfl⟩ := hr
          simp at hp; subst hp; rfl)⟩
      (by rw [hlr]; exact hcap) (fun i j row p h1 h2 => by
        obtain ⟨x, rfl, rfl, hx⟩ := hrow1 i j row p h1 h2
        rw [hget i x hx]
        exact .sc rfl)
    rw [hlr] at this
    exact this


end Go.Pv
