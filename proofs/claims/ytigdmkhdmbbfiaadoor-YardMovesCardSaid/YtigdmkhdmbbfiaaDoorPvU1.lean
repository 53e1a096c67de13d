/- The sorted keys of an own map ('slices.Sorted(maps.Keys(m))'), told to the machine from the library's contract. -/
import Derived.Shelf.SlIter.Nil
import Derived.Test.YtigdmkhdmbbfiaaDoorPvU
namespace Go.Pv
open Go Go.RowKit Go.Maps Go.Proofs Go.Sort
open Go.WideMaps (keyOf_string_mk)

theorem arr1 {a : Array Value} (h : a.size = 1) : ∃ x, a = #[x] := by
  obtain ⟨l⟩ := a
  match l, h with
  | [x], _ => exact ⟨x, rfl⟩

/-- Go's '<=' on bytes. -/
def leS : List UInt8 → List UInt8 → Bool
  | [], _ => true
  | _ :: _, [] => false
  | a :: xs, b :: ys => bif Nat.blt a.toNat b.toNat then true else bif Nat.beq a.toNat b.toNat then leS xs ys else false

theorem leS_eq : ∀ (x y : List UInt8), leS x y = decide (x ≤ y)
  | [], y => by simp [leS]
  | a :: xs, [] => by simp [leS]
  | a :: xs, b :: ys => by
    have ih := leS_eq xs ys
    unfold leS
    cases h1 : Nat.blt a.toNat b.toNat with
    | true =>
      have : a < b := by rw [Nat.blt_eq] at h1; exact UInt8.lt_iff_toNat_lt.2 h1
      simp only [cond_true]
      symm
      rw [decide_eq_true_eq, List.cons_le_cons_iff]
      exact .inl this
    | false =>
      have hn : ¬ a < b := fun h => by
        have := UInt8.lt_iff_toNat_lt.1 h
        rw [← Nat.blt_eq, h1] at this; cases this
      cases h2 : Nat.beq a.toNat b.toNat with
      | true =>
        have he : a = b := UInt8.toNat_inj.1 (Nat.eq_of_beq_eq_true h2)
        subst he
        simp only [cond_false, cond_true]
        rw [ih]
        simp [List.cons_le_cons_iff]
      | false =>
        have hne : a ≠ b := fun e => by subst e; simp at h2
        simp only [cond_false]
        symm
        rw [decide_eq_false_iff_not, List.cons_le_cons_iff]
        rintro (h | ⟨h, _⟩)
        · exact hn h
        · exact hne h

def insS (x : List UInt8) : List (List UInt8) → List (List UInt8)
  | [] => [x]
  | y :: l => bif leS x y then x :: y :: l else y :: insS x l
def sortS (l : List (List UInt8)) : List (List UInt8) := l.foldr insS []

theorem leS_trans (a b c : List UInt8) (h1 : leS a b = true) (h2 : leS b c = true) : leS a c = true := by
  rw [leS_eq, decide_eq_true_eq] at *
  exact List.le_trans h1 h2
theorem leS_total (a b : List UInt8) : (leS a b || leS b a) = true := by
  rw [leS_eq, leS_eq, Bool.or_eq_true, decide_eq_true_eq, decide_eq_true_eq]
  exact List.le_total a b

theorem insS_perm (x : List UInt8) : ∀ l, (insS x l).Perm (x :: l)
  | [] => .refl _
  | y :: l => by
    unfold insS
    cases leS x y with
    | true => exact .refl _
    | false => exact ((insS_perm x l).cons y).trans (.swap x y l)
theorem sortS_perm : ∀ l, (sortS l).Perm l
  | [] => .refl _
  | x :: l => (insS_perm x (sortS l)).trans ((sortS_perm l).cons x)

theorem insS_sorted (x : List UInt8) : ∀ l, l.Pairwise (fun a b => leS a b = true) → (insS x l).Pairwise (fun a b => leS a b = true)
  | [], _ => by simp [insS]
  | y :: l, h => by
    unfold insS
    cases hx : leS x y with
    | true =>
      simp only [cond_true]
      refine List.pairwise_cons.2 ⟨fun z hz => ?_, h⟩
      rcases List.mem_cons.1 hz with rfl | hz
      · exact hx
      · exact leS_trans _ _ _ hx ((List.pairwise_cons.1 h).1 z hz)
    | false =>
      simp only [cond_false]
      have hyx : leS y x = true := by have := leS_total x y; rw [hx] at this; simpa using this
      refine List.pairwise_cons.2 ⟨fun z hz => ?_, insS_sorted x l (List.pairwise_cons.1 h).2⟩
      rcases List.mem_cons.1 ((insS_perm x l).mem_iff.1 hz) with rfl | hz
      · exact hyx
      · exact (List.pairwise_cons.1 h).1 z hz
theorem sortS_sorted : ∀ l, (sortS l).Pairwise (fun a b => leS a b = true)
  | [] => .nil
  | x :: l => insS_sorted x _ (sortS_sorted l)

theorem sortS_merge {l l' : List (List UInt8)} (h : l'.Perm l) : (l'.mergeSort fun x y => decide (x ≤ y)) = sortS l := by
  refine List.Perm.eq_of_pairwise (le := fun a b => leS a b = true) (fun a b _ _ h1 h2 => ?_) ?_ (sortS_sorted l) (((List.mergeSort_perm _ _).trans h).trans (sortS_perm l).symm)
  · rw [leS_eq, decide_eq_true_eq] at h1 h2
    exact List.le_antisymm h1 h2
  · have := List.pairwise_mergeSort (le := leS) leS_trans leS_total l'
    rw [show (fun x y : List UInt8 => decide (x ≤ y)) = leS from by funext x y; rw [leS_eq]]
    exact this

/-- The keys of an own map, if they are strings, none of them large. -/
def strsOf : List (PV × PV) → Option (List (List UInt8))
  | [] => some []
  | p :: es => match p.1, strsOf es with
    | .sc (.string s), some l => bif Nat.ble s.data.size 1000000 then some (s.data.toList :: l) else none
    | _, _ => none

def strRows (l : List (List UInt8)) : Rows := l.map fun s => [.sc (encStr s)]

/-- What 'slices.Sorted' leaves of the iterator of 'maps.Keys' (fK: the iterator's function). -/
def sortedO (fS fK : FuncId) (f : FuncId) (args : List PV) (h : HL) (c : CL) : Option (PV × HL × CL) :=
  bif Nat.beq f fS then
    match args with
    | [.func (.func g) [] [.ptr kb 1 0 0]] => bif Nat.beq g fK then
        match hGet h kb with
        | some (.rows 1 [[.map km]]) => match hGet h km with
          | some (.map es _ _) => match strsOf es with
            | some ss => bif Nat.ble es.length 1000000 then some (.lit false 1 (strRows (sortS ss)), h, c) else none
            | none => none
          | _ => none
        | _ => none
      else none
    | _ => none
  else none

variable {P : Program}

theorem strsOf_spec {E : Env} {kt : TypeId} (hk : P.underlying kt = some .string) : ∀ {es : List (PV × PV)} {ss : List (List UInt8)} {ents : List MapEntry}, strsOf es = some ss → EntsRep E ents es →
    (∀ x ∈ ents, ∃ y, WideElems.rd (H := Unit) P kt (fun _ => some (.nil, [])) x = some y) ∧ (ents.map fun x => strOf (WideElems.rg (H := Unit) P kt (fun _ => some (.nil, [])) x).1) = ss
  | [], ss, [], h, hr => by cases h; simp
  | [], ss, _ :: _, h, hr => by simp [EntsRep] at hr
  | p :: es, ss, [], h, hr => by simp [EntsRep] at hr
  | p :: es, ss, e :: ents, h, hr => by
    unfold strsOf at h
    split at h
    · rename_i s l hp hl
      cases hb : Nat.ble s.data.size 1000000 with
      | false => rw [hb] at h; cases h
      | true =>
        rw [hb] at h; cases h
        obtain ⟨h1, h2⟩ := strsOf_spec hk (ents := ents) hl ⟨by simpa using hr.1, fun i e p h3 h4 => hr.2 (i + 1) e p h3 h4⟩
        have hkey := (hr.2 0 e p rfl rfl).1
        rw [hp] at hkey
        have hke := hkey.sc_inv
        have hsz : s.size ≤ maxLen := by
          have := Nat.le_of_ble_eq_true hb
          exact Nat.le_trans this (by decide)
        have hrd : WideElems.rd (H := Unit) P kt (fun _ => some (.nil, [])) e = some (.string s.data.toList, .nil) := by
          unfold WideElems.rd
          rw [hke, keyOf_string_mk hk hsz]
          rfl
        refine ⟨fun x hx => ?_, ?_⟩
        · rcases List.mem_cons.1 hx with rfl | hx
          · exact ⟨_, hrd⟩
          · exact h1 x hx
        · simp only [List.map_cons, h2]
          rw [WideElems.rg_of hrd]
          rfl
    · cases h

/-- 'slices.Sorted' of the keys of a map, in any memory. -/
theorem sorted_core {fS fK : FuncId} {kt : TypeId} (hk : P.underlying kt = some .string) (hb : hasBody P fS = true)
    (hS : ∀ (Bm ad b nn : Nat) (D0 : DataW Unit) (w : World), Bm < w.heap.size → w.cell? ⟨Bm, ad, none⟩ = some (.map (some b)) → w.ownsMap P kt (fun _ => some (.nil, [])) b nn D0 → Maps.size D0 ≤ maxLen → Maps.size D0 * 16 ≤ 140737488355328 →
      Calls P fS #[.func (.func fK) #[] #[.pointer (some ⟨Bm, ad, none⟩)]] w fun e w' => ∃ (v : Value) (ss : List (List UInt8)), e = .returned v ∧ ss.Perm (strKeys D0) ∧
        w'.ownsRow w.heap.size kt 1 v ss.length ((ss.mergeSort (fun x y => decide (x ≤ y))).map encStr) ∧ Below w.heap.size w w')
    {h : Heap} {c : Nat → Nat} {R : PV → Heap → (Nat → Nat) → Prop} {kb km : Key} {es : List (PV × PV)} {ss : List (List UInt8)} (hkb : h kb = some (.rows 1 [[.map km]])) (hkm : ∃ bs clk, h km = some (.map es bs clk)) (hss : strsOf es = some ss) (hlen : es.length ≤ 1000000)
    (hR : R (.lit false 1 (strRows (sortS ss))) h c) : HCallsR P fS [.func (.func fK) [] [.ptr kb 1 0 0]] h c R := by
  refine ⟨hb, fun E vs gE hh hcn htt hvs hrep => ?_⟩
  rw [← hh] at hkb hkm hR
  rw [← hcn] at hR
  obtain ⟨bs, clk, hkm⟩ := hkm
  obtain ⟨v0, rfl⟩ := arr1 (a := vs) hvs
  have h0 := hrep 0 v0 _ rfl rfl
  cases h0 with
  | @func _ vas cs _ _ hl hl' ha hc =>
  have has : vas = #[] := Array.eq_empty_of_size_eq_zero hl
  subst has
  obtain ⟨p0, rfl⟩ := arr1 (a := cs) hl'
  have hp0 := hc 0 p0 _ rfl rfl
  cases hp0 with
  | @ptr bb ad _ _ _ _ hkn hlk =>
  obtain ⟨hbb, had⟩ := (hlk _ hkb).1
  subst hbb; subst had
  obtain ⟨cc, T, hcc, hcs, _, _, _, _, hcells⟩ := gE.obj _ _ hkb
  obtain ⟨mv, hmv, hmr⟩ := hcells 0 0 [.map km] (.map km) rfl rfl
  cases hmr with
  | @map mb _ hkn2 hlm =>
  have hmb := (hlm _ hkm).1
  subst hmb
  obtain ⟨ents, h4, h5⟩ := ents_of gE hkm
  have hst : Stamps ents clk := by
    obtain ⟨ents0, h4', _, _, _, hst0, _⟩ := gE.obj _ _ hkm
    rw [h4] at h4'; cases h4'; exact hst0
  have hcell : E.w.cell? ⟨E.blk kb, (E.cap kb).2 + 0 * 1 + 0, none⟩ = some (.map (some (E.blk km))) := by
    rw [cell_of_heap hcc]
    exact hmv
  obtain ⟨h6, h7⟩ := strsOf_spec (P := P) (E := E) hk hss h5
  have hsize : ents.size = es.length := by simpa using h5.1
  let D0 : DataW Unit := .map ((ents.toList.map (WideElems.rg P kt fun _ => some (.nil, []))).foldr DataW.insert [])
  have hown : E.w.ownsMap P kt (fun _ => some (.nil, [])) (E.blk km) ents.size D0 :=
    ⟨ents, clk, h4, ⟨by rw [hsize]; exact Nat.le_trans hlen (by decide), hst, h6⟩, Nat.le_refl _, rfl⟩
  have hperm := WideShapes.sorted_perm (ents.toList.map (WideElems.rg (H := Unit) P kt fun _ => some (.nil, [])))
  have hDs : Maps.size D0 = es.length := by
    show List.length (List.foldr _ _ _) = _
    rw [hperm.length_eq]; simp [hsize]
  have hDk : (strKeys D0).Perm ss := by
    have := hperm.map fun p : Lit × DataW Unit => strOf p.1
    rw [List.map_map] at this
    have h8 : (ents.toList.map ((fun p : Lit × DataW Unit => strOf p.1) ∘ WideElems.rg P kt fun _ => some (.nil, []))) = ss := h7
    rw [h8] at this
    exact this
  refine (hS (E.blk kb) _ (E.blk km) ents.size D0 E.w (live_lt gE hkb) hcell hown (by rw [hDs]; exact Nat.le_trans hlen (by decide)) (by rw [hDs]; omega)).mono ?_
  rintro e w' ⟨u, ss', rfl, hperm', hrow, hbl⟩
  have hsort : (ss'.mergeSort fun x y => decide (x ≤ y)) = sortS ss := sortS_merge (hperm'.trans hDk)
  rw [hsort] at hrow
  have hlen' : ss'.length = (sortS ss).length := by rw [← hsort, List.length_mergeSort]
  rw [hlen'] at hrow
  have hblk : ∀ b, b < E.w.heap.size → w'.heap[b]? = E.w.heap[b]? := fun b hb => hbl.block b hb
  have hle : EnvLe E { E with w := w' } := ⟨fun b hb _ => hblk b hb, hbl.size, fun b hb => .inl hb, rfl, rfl, rfl, fun _ => Nat.le_refl _, fun _ _ h => h, fun _ _ rs h => .inr ⟨rs, h, rfl, rfl⟩, fun _ o h _ => .inr ⟨o, h, rfl, rfl⟩⟩
  refine ⟨u, .lit false 1 (strRows (sortS ss)), { E with w := w' }, rfl, hR, rfl, ⟨gE.inj, gE.known, gE.base, fun k o h => ObjOK.le hle rfl rfl (hblk _ (live_lt gE h)) (gE.obj k o h), gE.out, Nat.le_trans gE.size hbl.size, gw_keep gE.glob (Nat.le_refl _) fun b hb => hblk b (Nat.lt_of_lt_of_le hb gE.size)⟩, hle, hbl.mono gE.size, ?_⟩
  obtain ⟨hxl, ⟨rfl, hz⟩ | ⟨gb, cap, cur, rfl, hbase, hgb, hcap, _, hcur, htake⟩⟩ := hrow
  · rw [List.eq_nil_of_length_eq_zero hz]
    exact .litE
  · have hlr : (strRows (sortS ss)).length = (sortS ss).length := by simp [strRows]
    have hwidth : ∀ row ∈ strRows (sortS ss), row.length = 1 := fun row hr => by
      simp only [strRows, List.mem_map] at hr; obtain ⟨x, _, rfl⟩ := hr; rfl
    have hrow1 : ∀ (i j : Nat) (row : List PV) (p : PV), (strRows (sortS ss))[i]? = some row → row[j]? = some p → ∃ x, j = 0 ∧ p = .sc (encStr x) ∧ (sortS ss)[i]? = some x := fun i j row p h1 h2 => by
      simp only [strRows, List.getElem?_map, Option.map_eq_some_iff] at h1
      obtain ⟨x, hx, rfl⟩ := h1
      rcases j with _ | j
      · simp at h2; exact ⟨x, rfl, h2.symm, hx⟩
      · simp at h2
    have hget : ∀ (i : Nat) (x : List UInt8), (sortS ss)[i]? = some x → cur[i]? = some (encStr x) := fun i x hx => by
      have hi : i < (sortS ss).length := (List.getElem?_eq_some_iff.1 hx).1
      have h9 : (cur.toList.take ((sortS ss).length * 1))[i]? = some (encStr x) := by rw [htake]; simp [hx]
      rw [List.getElem?_take_of_lt (by omega)] at h9
      simpa using h9
    have := Rep.lit (E := { E with w := w' }) (b := gb) (off := 0) (c := cap) (t := false) (sz := 1) (rows := strRows (sortS ss)) (f := fun i _ => (cur[i]?).getD .nilFunc)
      ⟨fun ⟨k, o, h1, h2⟩ => by have := live_lt gE h1; have h2' : E.blk k = gb := h2; omega, fun _ hM => by have := gE.out _ hM; have := gE.size; omega, (fun h => by cases h), (Array.getElem?_eq_some_iff.1 hgb).1, hwidth,
        (fun i j row p h1 h2 => by
          obtain ⟨x, rfl, rfl, hx⟩ := hrow1 i j row p h1 h2
          rw [hget i x hx]
          show w'.cell? ⟨gb, 0 + i * 1 + 0, none⟩ = _
          rw [cell_of_heap hgb]
          simp [hget i x hx]),
        (fun row hr p hp => by
          simp only [strRows, List.mem_map] at hr; obtain ⟨x, _, rfl⟩ := hr
          simp at hp; subst hp; exact .sc _),
        (fun row hr p hp => by
          simp only [strRows, List.mem_map] at hr; obtain ⟨x, _, rfl⟩ := hr
          simp at hp; subst hp; rfl)⟩
      (by rw [hlr]; exact hcap) (fun i j row p h1 h2 => by
        obtain ⟨x, rfl, rfl, hx⟩ := hrow1 i j row p h1 h2
        rw [hget i x hx]
        exact .sc rfl)
    rw [hlr] at this
    exact this

end Go.Pv
