import Derived.Deep.RegionHeld3
import Derived.Test.YtigdmkhdmbbfiaaDoorOrc
import Derived.Test.YtigdmkhdmbbfiaaDoorPvU4
import Derived.TacticsInMore
import Derived.RegionIn
import Derived.LoopNIn
import Derived.LoopIn
import Derived.OwnWalkIn
import Derived.Shelf.AbstractIn
import Derived.Shelf.SlIter.Collect
import Derived.RangeFuncLeaves
import Derived.KernelRfl
import Derived.Shelf.SlSortCmp.NoneTotal
import Derived.Sort.OwnSorted
/- 'slices.SortedFunc(maps.Keys(s), cmp)' at this program, 2: the function that compares: by the text, then by the two numbers. No conditions. -/
namespace Go.Proofs.YtigdmkhdmbbfiaaDoor
open Go Go.Proofs Go.RowKit Go.Shelf Go.Sort Go.Pv

def orI (a b c : Int) : Int := if a = 0 then (if b = 0 then c else b) else a

set_option maxHeartbeats 1000000 in
theorem cmpOr (a b c : Int) (B : Nat) (w : World) (h0 : w.cell? ⟨B, 0, none⟩ = some (.int .i64 a)) (h1 : w.cell? ⟨B, 1, none⟩ = some (.int .i64 b)) (h2 : w.cell? ⟨B, 2, none⟩ = some (.int .i64 c)) :
    Calls Tryd.prog 51 #[.slice (some ⟨B, 0, none⟩) 3 3] w fun e w' => e = .returned (.int .i64 (orI a b c)) ∧ w' = w := by
  unfold orI
  by_cases ha : a = 0
  · by_cases hb : b = 0
    · by_cases hc : c = 0
      all_goals
        go_enter Tryd.func51, Tryd.ntmps51
        go_wp2
        refine wp_loop_rounds 4 ?_
        rw [rounds_succ]
        go_wp2
        rw [rounds_succ]
        go_wp2
        rw [rounds_succ]
        go_wp2
      · rw [rounds_succ]
        go_wp2
        go_ret
        exact ⟨by simp [ha, hb, hc], rfl⟩
      · go_ret
        exact ⟨by simp [ha, hb], rfl⟩
    · go_enter Tryd.func51, Tryd.ntmps51
      go_wp2
      refine wp_loop_rounds 4 ?_
      rw [rounds_succ]
      go_wp2
      rw [rounds_succ]
      go_wp2
      go_ret
      exact ⟨by simp [ha, hb], rfl⟩
  · go_enter Tryd.func51, Tryd.ntmps51
    go_wp2
    refine wp_loop_rounds 4 ?_
    rw [rounds_succ]
    go_wp2
    go_ret
    exact ⟨by simp [ha], rfl⟩

theorem cell_new (w : World) {n : Nat} (h : w.heap.size = n) (cs : Array Value) (T : TypeId) (j : Nat) : ((w.alloc (.cells cs T)).drew).cell? ⟨n, j, none⟩ = cs[j]? := by
  subst h
  exact cell_of_heap (w := w.alloc (.cells cs T)) (World.alloc_heap_new w _) j

/-- A key of the map. -/
structure K3 where
  s : ByteArray
  a : Int
  b : Int
  deriving Inhabited

def encK (x : K3) : List Value := [.string x.s, .int .i64 x.a, .int .i64 x.b]
def cfK (x y : K3) : Int := orI (Lib.compareBytes x.s.data.toList y.s.data.toList) (Lib.compareInt x.a y.a) (Lib.compareInt x.b y.b)

set_option maxHeartbeats 4000000 in
set_option maxRecDepth 100000 in
theorem closure (x y : K3) (W : World) : Calls Tryd.prog 50 #[.agg #[.string x.s, .int .i64 x.a, .int .i64 x.b], .agg #[.string y.s, .int .i64 y.a, .int .i64 y.b]] W fun e w' => e = .returned (.int .i64 (cfK x y)) ∧ ∃ q os', w' = grow (W.drewN q) os' := by
  have hS := fun a b W' => Any.strings_Compare Tryd.cmpStr a b W'
  change ∀ a b W', Calls Tryd.prog 52 _ _ _ at hS
  have hI := fun a b W' => AnyG.cmp_Compare_int Tryd.cmpInt a b W'
  change ∀ a b W', Calls Tryd.prog 53 _ _ _ at hI
  obtain ⟨xs, xa, xb⟩ := x
  obtain ⟨ys, ya, yb⟩ := y
  show Calls Tryd.prog 50 _ W fun e w' => e = .returned (.int .i64 (orI (Lib.compareBytes xs.data.toList ys.data.toList) (Lib.compareInt xa ya) (Lib.compareInt xb yb))) ∧ _
  have hO := fun a b c B w h0 h1 h2 => cmpOr a b c B w h0 h1 h2
  have hSS := hS xs ys
  have hA := hI xa ya
  have hB := hI xb yb
  clear hS hI
  generalize Lib.compareBytes xs.data.toList ys.data.toList = r1 at hSS ⊢
  generalize Lib.compareInt xa ya = r2 at hA ⊢
  generalize Lib.compareInt xb yb = r3 at hB ⊢
  go_enter Tryd.func50, Tryd.ntmps50
  go_wp2
  go_region_held3 (fun w' => w'.cell? ⟨W.heap.size, 0, none⟩ = some (.string xs) ∧ w'.cell? ⟨W.heap.size, 1, none⟩ = some (.int .i64 xa) ∧ w'.cell? ⟨W.heap.size, 2, none⟩ = some (.int .i64 xb) ∧ w'.cell? ⟨W.heap.size + 1, 0, none⟩ = some (.string ys) ∧ w'.cell? ⟨W.heap.size + 1, 1, none⟩ = some (.int .i64 ya) ∧ w'.cell? ⟨W.heap.size + 1, 2, none⟩ = some (.int .i64 yb)) (go_keep)
    (first
      | (go_at_call 52; refine (hSS _).mono ?_; rintro e w' ⟨rfl, rfl⟩)
      | (go_at_call_has 53 xa; refine (hA _).mono ?_; rintro e w' ⟨rfl, rfl⟩)
      | (go_at_call_has 53 xb; refine (hB _).mono ?_; rintro e w' ⟨rfl, rfl⟩)
      | (go_at_call 51; refine (hO r1 r2 r3 _ _ (cell_new _ (by simp) _ _ 0) (cell_new _ (by simp) _ _ 1) (cell_new _ (by simp) _ _ 2)).mono ?_; rintro e w' ⟨rfl, rfl⟩))
  all_goals go_wp2
  go_ret
  exact ⟨rfl, 1, _, by
    show ((((W.drewN 1).alloc _).alloc _).alloc _) = _
    rw [alloc_eq_grow, alloc_eq_grow, alloc_eq_grow, grow_grow, grow_grow]⟩

def shK (x : K3) : Sh := (x.s.data.toList, x.a, x.b)
theorem shK_inj {x y : K3} (h : shK x = shK y) : x = y := by
  obtain ⟨xs, xa, xb⟩ := x
  obtain ⟨ys, ya, yb⟩ := y
  simp only [shK, Prod.mk.injEq] at h
  obtain ⟨h1, rfl, rfl⟩ := h
  have : xs = ys := by
    obtain ⟨⟨a⟩⟩ := xs; obtain ⟨⟨b⟩⟩ := ys
    simp at h1; rw [h1]
  rw [this]

theorem cb_eq : ∀ a b : List UInt8, Lib.compareBytes a b = if leS a b = true then (if leS b a = true then 0 else -1) else 1
  | [], [] => by simp [Lib.compareBytes, leS]
  | [], _ :: _ => by simp [Lib.compareBytes, leS]
  | _ :: _, [] => by simp [Lib.compareBytes, leS]
  | a :: xs, b :: ys => by
    have ih := cb_eq xs ys
    simp only [Lib.compareBytes, leS]
    by_cases h1 : a < b
    · have h1' : a.toNat < b.toNat := UInt8.lt_iff_toNat_lt.1 h1
      have h2 : Nat.blt a.toNat b.toNat = true := (by rw [Nat.blt_eq]; exact h1')
      have h3 : Nat.blt b.toNat a.toNat = false := by rw [← Bool.not_eq_true, Nat.blt_eq]; omega
      have h4 : Nat.beq b.toNat a.toNat = false := by rw [← Bool.not_eq_true, Nat.beq_eq]; omega
      simp [h1, h2, h3, h4]
    · by_cases h5 : b < a
      · have h1' : b.toNat < a.toNat := UInt8.lt_iff_toNat_lt.1 h5
        have h2 : Nat.blt b.toNat a.toNat = true := (by rw [Nat.blt_eq]; exact h1')
        have h3 : Nat.blt a.toNat b.toNat = false := by rw [← Bool.not_eq_true, Nat.blt_eq]; omega
        have h4 : Nat.beq a.toNat b.toNat = false := by rw [← Bool.not_eq_true, Nat.beq_eq]; omega
        simp [h1, h5, h3, h4]
      · have h6 : ¬ a.toNat < b.toNat := fun h => h1 (UInt8.lt_iff_toNat_lt.2 h)
        have h7 : ¬ b.toNat < a.toNat := fun h => h5 (UInt8.lt_iff_toNat_lt.2 h)
        have h8 : Nat.blt a.toNat b.toNat = false := by rw [← Bool.not_eq_true, Nat.blt_eq]; omega
        have h9 : Nat.blt b.toNat a.toNat = false := by rw [← Bool.not_eq_true, Nat.blt_eq]; omega
        have h10 : Nat.beq a.toNat b.toNat = true := by rw [Nat.beq_eq]; omega
        have h11 : Nat.beq b.toNat a.toNat = true := by rw [Nat.beq_eq]; omega
        simp [h1, h5, h8, h9, h10, h11, ih]

theorem lt_cfK (x y : K3) : ltOf cfK x y = !leSh (shK y) (shK x) := by
  have hl := leSh_iff (x := shK y) (y := shK x)
  unfold ltOf cfK orI
  rw [cb_eq]
  have key : (decide ((if (if leS x.s.data.toList y.s.data.toList = true then (if leS y.s.data.toList x.s.data.toList = true then (0 : Int) else -1) else 1) = 0 then (if Lib.compareInt x.a y.a = 0 then Lib.compareInt x.b y.b else Lib.compareInt x.a y.a) else (if leS x.s.data.toList y.s.data.toList = true then (if leS y.s.data.toList x.s.data.toList = true then (0 : Int) else -1) else 1)) < 0) = true) ↔ ¬ leSh (shK y) (shK x) = true := by
    rw [decide_eq_true_eq, hl]
    simp only [shK]
    have ht := leS_total x.s.data.toList y.s.data.toList
    rw [Bool.or_eq_true] at ht
    cases h1 : leS x.s.data.toList y.s.data.toList with
    | false =>
      rw [h1] at ht
      have h2 : leS y.s.data.toList x.s.data.toList = true := ht.resolve_left (by simp)
      simp [h2]
    | true =>
      cases h2 : leS y.s.data.toList x.s.data.toList with
      | false =>
        have hne : ¬ y.s.data.toList = x.s.data.toList := fun e => by rw [e, leS_refl] at h2; cases h2
        simp [hne]
      | true =>
        have he := leS_anti h2 h1
        simp only [if_true, he, Bool.true_eq_false, and_false, false_or, true_and]
        unfold Lib.compareInt
        by_cases a1 : x.a < y.a
        · have : ¬ x.a > y.a := by omega
          simp [a1]; omega
        · by_cases a2 : x.a > y.a
          · simp [a1, a2]
          · have a3 : x.a = y.a := by omega
            by_cases b1 : x.b < y.b
            · simp [a3, b1]
            · by_cases b2 : x.b > y.b
              · simp [a3, b1, b2]
              · simp [a3, b1, b2]
  cases h : leSh (shK y) (shK x) with
  | true =>
    rw [h] at key
    simp only [Bool.not_true]
    rw [← Bool.not_eq_true]
    intro h'; exact key.1 h' rfl
  | false =>
    rw [h] at key
    simp only [Bool.not_false]
    exact key.2 (by simp)

theorem swoK : SWO (ltOf cfK) where
  irrefl x := by
    rw [lt_cfK]
    have := leSh_total (shK x) (shK x)
    rw [Bool.or_self] at this
    simp [this]
  trans x y z h1 h2 := by
    rw [lt_cfK] at *
    simp only [Bool.not_eq_true'] at *
    cases h : leSh (shK z) (shK x) with
    | false => rfl
    | true =>
      have h3 := leSh_total (shK z) (shK y)
      rw [h2] at h3
      have := leSh_trans _ _ _ (by simpa using h3) h
      rw [h1] at this; cases this
  ntrans x y z h1 h2 := by
    rw [lt_cfK] at *
    simp only [Bool.not_eq_false'] at *
    exact leSh_trans _ _ _ h2 h1

theorem totK (x y : K3) (h1 : ltOf cfK x y = false) (h2 : ltOf cfK y x = false) : x = y := by
  rw [lt_cfK] at *
  simp only [Bool.not_eq_false'] at *
  exact shK_inj (leSh_anti h2 h1)

theorem cmpLaysK (blk off size : Nat) (w : World) : CmpLays Tryd.prog 50 #[] encK 3 cfK blk off size w :=
  fun _ _ _ _ x y => closure x y _

theorem sorted_sh (l : List K3) : (l.mergeSort fun x y => !(ltOf cfK) y x).map shK = sortSh (l.map shK) := by
  apply sortSh_unique
  · exact (List.mergeSort_perm _ _).map _
  · rw [List.pairwise_map]
    have h := List.pairwise_mergeSort (le := fun x y : K3 => !(ltOf cfK) y x) (fun a b c h1 h2 => by
      rw [lt_cfK] at *; simp only [Bool.not_not] at *; exact leSh_trans _ _ _ h1 h2) (fun a b => by
      rw [lt_cfK, lt_cfK]; simp only [Bool.not_not]; exact leSh_total _ _) l
    exact h.imp fun {a b} h => by rw [lt_cfK] at h; simpa using h
end Go.Proofs.YtigdmkhdmbbfiaaDoor

/- 'slices.SortedFunc(maps.Keys(s), cmp)' at this program, 3: the iterator of 'maps.Keys'. No conditions. -/
namespace Go.Proofs.YtigdmkhdmbbfiaaDoor
open Go Go.Proofs Go.RowKit Go.Shelf Go.Sort Go.Pv

def rawLeft (W : World) (r m : Nat) : Nat := match W.heap[r]? with
  | some (.mapIter _ _ seen _) => m - seen.size
  | _ => 0
theorem rawLeft_eq {W : World} {b r m : Nat} {ents : Array MapEntry} {since : Nat} {seen : Array Nat} (h : RawIter W b r ents since seen) : rawLeft W r m = m - seen.size := by
  unfold rawLeft; rw [h.it]

set_option maxRecDepth 100000 in
set_option maxHeartbeats 1000000 in
theorem keys_in (F : Fence) (n : Nat) (h63 : F.fn 63) (hro : F.round = none) (hn : 1 ≤ n) (l Bm ad b since : Nat) (ents : Array MapEntry) (key : MapEntry → K3) (hkey : ∀ e ∈ ents.toList, e.key = .agg #[.string (key e).s, .int .i64 (key e).a, .int .i64 (key e).b])
    (J : List K3 → World → Prop)
    (hY : ∀ pre x W, J pre W → pre.length < ents.size → YieldAt F (n - 1) Tryd.prog l #[.agg #[.string x.s, .int .i64 x.a, .int .i64 x.b]] W fun e W' => e = .returned (.bool true) ∧ J (pre ++ [x]) W' ∧ KeepsWalks W W')
    (W : World) (hJ : AbidesFrom W.heap.size J) (hm : W.cell? ⟨Bm, ad, none⟩ = some (.map (some b))) (hb : W.heap[b]? = some (.map ents since)) (hst : Stamps ents since) (h0 : J [] W) :
    CallsIn F n Tryd.prog 63 #[.func (.yield l) #[] #[], .pointer (some ⟨Bm, ad, none⟩)] W fun e W' => (∃ v, e = .returned v) ∧ ∃ ss : List K3, ss.Perm (ents.toList.map key) ∧ J ss W' := by
  refine callsIn_of_wp Tryd.func63 rfl h63 ?_ hro
  simp only [Tryd.ntmps63, List.size_toArray, List.length_cons, List.length_nil, Nat.reduceAdd, Nat.reduceSub, Array.replicate_succ, Array.replicate_zero, List.push_toArray, List.append_toArray, List.nil_append, List.cons_append]
  gi_wp2_with (first
    | (gi_at_range; refine wpListIn_range_raw _ rfl _ 85 rfl Tryd.underlying85 rfl hb ?_; intro w0 hrg0 hg0 hs0)
    | gi_in)
  go_frame
  gi_loopw [3] (fun _ wr => ∃ (seen : Array Nat) (vis : List MapEntry), RawIter wr b W.heap.size ents since seen ∧ Came ents seen vis ∧ J (vis.map key) wr)
    (fun _ wr => rawLeft wr W.heap.size ents.size)
  case atStart =>
    exact ⟨#[], [], hrg0, .start _, hJ [] W w0 none h0 hg0 (fun r e => by cases e)⟩
  case round =>
    obtain ⟨seen, vis, hrg, hC, hJs⟩ := hrel
    gi_wp2_with (first
      | (gi_at_next; refine wpListIn_next_raw _ rfl _ rfl rfl hrg hst.1 ?_ ?_)
      | gi_in)
    · intro hall
      gi_wp2
      go_end0
      exact ⟨⟨_, rfl⟩, vis.map key, (hC.perm hst.2.1 fun e he => by simpa using hall e (by simpa using he)).map key, hJs⟩
    · intro e w2 he hs hrg2 hg2 hs2
      have he' : e ∈ ents.toList := by simpa using he
      have hsn : seen.contains e.born = false := by simpa using hs
      have hk := hkey e he'
      have hen := raw_entry (P := Tryd.prog) hrg2 he' hst.2.1
      rw [hk]
      rw [hk] at hen
      have hJ2 : J (vis.map key) w2 := hJ _ wr w2 (some W.heap.size) hJs hg2 (fun r e => by cases e; exact ⟨Nat.le_refl _, _, hrg.it, rfl⟩)
      have hJ3 : J (vis.map key) (w2.alloc (.cells #[.string (key e).s, .int .i64 (key e).a, .int .i64 (key e).b] 93)) := hJ _ w2 _ none hJ2 (World.grownBy_alloc w2 _ none) (fun r e => by cases e)
      obtain ⟨fn, tmps, assign, body, hy, hR⟩ := hY (vis.map key) (key e) _ hJ3 (by rw [List.length_map]; exact hC.lt he' hsn)
      clear hs2
      gi_wp2
      refine hR.mono ?_
      rintro e3 W3 ⟨rfl, hJ4, hk3⟩
      gi_wp2
      have hrg3 := (hrg2.of_walks (KeepsWalks.alloc _ _)).of_walks hk3
      have hC2 := hC.step he' hsn
      go_roundw
      case rel => exact ⟨_, vis ++ [e], hrg3, hC2, by simpa using hJ4⟩
      case measure =>
        rw [rawLeft_eq hrg3, rawLeft_eq hrg]
        have h1 := hC.lt he' hsn
        have h2 : seen.size = vis.length := by have := congrArg List.length hC.born; simpa using this
        simp; omega

end Go.Proofs.YtigdmkhdmbbfiaaDoor

/- 'slices.SortedFunc(maps.Keys(s), cmp)' at this program, 4: 'slices.AppendSeq' of nothing, 'slices.Collect', at keys of three cells. No conditions. -/
namespace Go.Proofs.YtigdmkhdmbbfiaaDoor
open Go Go.Proofs Go.RowKit Go.Shelf Go.Sort Go.Pv

def rfParts : Code → Option (Code × Code)
  | .seq _ (.seq (.seq _ (.block _ (.rangeFunc _ _ a b))) _) => some (a, b)
  | _ => none

noncomputable def apA : Code := match (Tryd.f67.body).bind rfParts with | some p => p.1 | none => .skip
noncomputable def apB : Code := match (Tryd.f67.body).bind rfParts with | some p => p.2 | none => .skip

/-- The loop's record: the temporaries as they stood at the entering. -/
noncomputable def apRec (fn : FuncId) (sv : Value) (Bs D : Nat) (st : LoopState) (pend : Option Code) : Loop :=
  { state := st, pending := pend, fn, tmps := #[.slice none 0 0, sv, .pointer (some ⟨Bs, 0, none⟩), undef, .slice none 0 0, undef, sv, undef, undef, undef, undef, undef, undef], params := #[7], assign := apA, body := apB, defers := D }

def cellsK (l : List K3) : List Value := l.flatMap encK
theorem cellsK_length : ∀ l : List K3, (cellsK l).length = l.length * 3
  | [] => rfl
  | x :: l => by
    have := cellsK_length l
    show (encK x ++ cellsK l).length = _
    rw [List.length_append, this]
    simp [encK]; omega
theorem cellsK_snoc (l : List K3) (x : K3) : cellsK (l ++ [x]) = cellsK l ++ encK x := by simp [cellsK]

/-- Between two rounds: the box holds a slice that owns what has come so far; nothing that lay before the call has turned. -/
structure ApAt (w0 : World) (fn : FuncId) (sv : Value) (Bs l D : Nat) (ss : List K3) (W : World) : Prop where
  box : ∃ v, W.heap[Bs]? = some (.cells #[v] 119 (0, 0)) ∧ W.ownsRow w0.heap.size 93 3 v ss.length (cellsK ss) ∧ (v = .slice none 0 0 ↔ ss = [])
  L : W.heap[l]? = some (.loop (apRec fn sv Bs D .ready none))
  K : W.heap[D]? = some (.deferred (some []))
  below : Below w0.heap.size w0 W

theorem ap_abides (w0 : World) (fn : FuncId) (sv : Value) (Bs l D Bn : Nat) (hB : w0.heap.size ≤ Bn) : AbidesFrom Bn (ApAt w0 fn sv Bs l D) := fun s W W' row h hg hrow => by
  have hrow' : ∀ r, row = some r → ∃ o : Obj, W.heap[r]? = some o ∧ o.isWalk = true := fun r e => (hrow r e).2
  obtain ⟨v, hv, hr, hn⟩ := h.box
  exact ⟨⟨v, (grownBy_keeps hg hrow' hv rfl).trans hv, ownsRow_abides_a hr hg hrow', hn⟩, (grownBy_keeps hg hrow' h.L rfl).trans h.L, (grownBy_keeps hg hrow' h.K rfl).trans h.K,
    h.below.grown hg h.below.size (fun k e => Nat.le_trans hB (hrow k e).1)⟩

theorem cells_new (w : World) (cs : List Value) (t : TypeId) : ∀ j u, cs[j]? = some u → (w.alloc (.cells cs.toArray t)).cell? ((⟨w.heap.size, 0, none⟩ : Addr).add j) = some u := by
  intro j u h
  rw [Addr.add_at, Nat.zero_add]
  rw [cell_of_heap (w := w.alloc (.cells cs.toArray t)) (World.alloc_heap_new w _) j]
  simpa using h

theorem cells_new' (w : World) (cs : List Value) (t : TypeId) (n : Nat) (h : w.heap.size = n) : ∀ j u, cs[j]? = some u → (w.alloc (.cells cs.toArray t)).cell? ((⟨n, 0, none⟩ : Addr).add j) = some u := by
  subst h; exact cells_new w cs t

theorem info93 : (Tryd.prog.info? 93).map (fun i => (i.zero, i.size, i.bytes)) = some (some (.agg #[.string ⟨#[]⟩, .int .i64 0, .int .i64 0]), 3, 32) := by kernel_rfl

set_option maxRecDepth 100000 in
set_option maxHeartbeats 2000000 in
theorem apYield (F : Fence) (m : Nat) (w0 : World) (fn : FuncId) (hfn : F.fn fn) (sv : Value) (Bs l D : Nat) (hBl : Bs ≠ l) (hDl : D ≠ l) (hDB : D ≠ Bs) (h0B : w0.heap.size ≤ Bs) (h0l : w0.heap.size ≤ l)
    (N : Nat) (hN : N ≤ maxLen) (hNb : N * 32 ≤ 140737488355328) (ss : List K3) (x : K3) (W : World) (h : ApAt w0 fn sv Bs l D ss W) (hlen : ss.length < N) :
    YieldAt F m Tryd.prog l #[.agg #[.string x.s, .int .i64 x.a, .int .i64 x.b]] W fun e W' => e = .returned (.bool true) ∧ ApAt w0 fn sv Bs l D (ss ++ [x]) W' ∧ KeepsWalks W W' := by
  obtain ⟨i0, hi, hz0, hz1, hz2⟩ := info_parts info93
  obtain ⟨v, hv, hrow, _⟩ := h.box
  refine ⟨fn, #[.slice none 0 0, sv, .pointer (some ⟨Bs, 0, none⟩), undef, .slice none 0 0, undef, sv, .agg #[.string x.s, .int .i64 x.a, .int .i64 x.b], undef, undef, undef, undef, undef], apA, apB, by simpa [apRec] using run_yield (P := Tryd.prog) (args := #[.agg #[.string x.s, .int .i64 x.a, .int .i64 x.b]]) h.L rfl, roundIn_of_wpIn hfn ?_⟩
  have hl0 : l < W.heap.size := (Array.getElem?_eq_some_iff.1 h.L).1
  have hBl0 : Bs < W.heap.size := (Array.getElem?_eq_some_iff.1 hv).1
  have hDl0 : D < W.heap.size := (Array.getElem?_eq_some_iff.1 h.K).1
  simp only [apA, Tryd.f67, Option.bind, rfParts]
  gi_wp2_with gi_round_op_a
  obtain ⟨X1, hX1⟩ : ∃ X1, W.alloc (.cells #[.string x.s, .int .i64 x.a, .int .i64 x.b] 93) = X1 := ⟨_, rfl⟩
  have hx5 : X1.cell? ⟨W.heap.size, 0, none⟩ = some (.string x.s) ∧ X1.cell? ⟨W.heap.size, 1, none⟩ = some (.int .i64 x.a) ∧ X1.cell? ⟨W.heap.size, 2, none⟩ = some (.int .i64 x.b) := by
    rw [← hX1]
    have := cell_of_heap (World.alloc_heap_new W (.cells #[.string x.s, .int .i64 x.a, .int .i64 x.b] 93))
    exact ⟨this 0, this 1, this 2⟩
  have hs1 : X1.heap.size = W.heap.size + 1 := by rw [← hX1]; simp
  have hold : ∀ k, k < W.heap.size → X1.heap[k]? = W.heap[k]? := fun k hk => by rw [← hX1]; exact Below.heap_alloc _ _ k hk
  have hL1 : X1.heap[l]? = some (.loop (apRec fn sv Bs D .ready none)) := (hold l hl0).trans h.L
  have hv1 : X1.heap[Bs]? = some (.cells #[v] 119 (0, 0)) := (hold Bs hBl0).trans hv
  have hK1 : X1.heap[D]? = some (.deferred (some [])) := (hold D hDl0).trans h.K
  have hrow1 : X1.ownsRow w0.heap.size 93 3 v ss.length (cellsK ss) := by rw [← hX1]; exact hrow.alloc _
  have hb1 : Below w0.heap.size w0 X1 := by rw [← hX1]; exact h.below.alloc h.below.size _
  have hk1 : KeepsWalks W X1 := by rw [← hX1]; exact KeepsWalks.alloc _ _
  rw [hX1]
  clear hX1 hold
  have hl : l < X1.heap.size := (Array.getElem?_eq_some_iff.1 hL1).1
  have hbr := run_beginRound (P := Tryd.prog) hL1 rfl
  obtain ⟨W2, hW2⟩ : ∃ W2, X1.putObj l (.loop { apRec fn sv Bs D .ready none with state := .busy }) = W2 := ⟨_, rfl⟩
  rw [hW2] at hbr
  have hg2 : X1.grownBy W2 (some l) := by rw [← hW2]; exact grownBy_putObj_a _ _ _
  have hk2 : KeepsWalks W W2 := by rw [← hW2]; exact hk1.trans (KeepsWalks.putObj _ hL1 rfl)
  have hv2 : W2.heap[Bs]? = some (.cells #[v] 119 (0, 0)) := by rw [← hW2]; exact (World.putObj_heap_other hBl).trans hv1
  have hK2 : W2.heap[D]? = some (.deferred (some [])) := by rw [← hW2]; exact (World.putObj_heap_other hDl).trans hK1
  have hL2 : W2.heap[l]? = some (.loop { apRec fn sv Bs D .ready none with state := .busy }) := by rw [← hW2]; exact World.putObj_heap_same hl
  have hrow2 : W2.ownsRow w0.heap.size 93 3 v ss.length (cellsK ss) := hrow1.kept hg2 (ownsRow_ne_a hrow1 hL1 (fun cur e => by cases e))
  have hb2 : Below w0.heap.size w0 W2 := hb1.grown hg2 hb1.size (fun k e => by cases e; exact h0l)
  obtain ⟨hc2, hf2⟩ := cell_of_box_a hv2
  have hBlt : Bs < W2.heap.size := (Array.getElem?_eq_some_iff.1 hv2).1
  have hl2 : l < W2.heap.size := (Array.getElem?_eq_some_iff.1 hL2).1
  have hDlt : D < W2.heap.size := (Array.getElem?_eq_some_iff.1 hK2).1
  have ne_of : ∀ {j : Nat} {o : Obj}, W2.heap[j]? = some o → (∀ cur, o ≠ .cells cur 93 (0, 0)) → some j ≠ v.ownBlock := fun hj hno => by
    rcases ownsRow_ne_a hrow2 hj hno with e | e
    · rw [e]; simp
    · exact fun e' => e e'.symm
  have hs2 : W2.heap.size = W.heap.size + 1 := by rw [← hW2]; simp [hs1]
  have hx2 : W2.cell? ⟨W.heap.size, 0, none⟩ = some (.string x.s) ∧ W2.cell? ⟨W.heap.size, 1, none⟩ = some (.int .i64 x.a) ∧ W2.cell? ⟨W.heap.size, 2, none⟩ = some (.int .i64 x.b) := by
    have hb : W2.heap[W.heap.size]? = X1.heap[W.heap.size]? := by rw [← hW2]; exact World.putObj_heap_other (by omega)
    have hc : ∀ j, W2.cell? ⟨W.heap.size, j, none⟩ = X1.cell? ⟨W.heap.size, j, none⟩ := fun j => World.cell?_of_block hb
    rw [hc, hc, hc]; exact hx5
  obtain ⟨hx20, hx21, hx22⟩ := hx2
  clear hW2 hx5
  refine ⟨W2, hbr, ?_⟩
  simp only [apB, Tryd.f67, Option.bind, rfParts]
  gi_wp2_with (first
    | (gi_at_builtin; refine wpListIn_append_own _ rfl _ _ 119 rfl w0.heap.size 93 i0 (.agg #[.string ⟨#[]⟩, .int .i64 0, .int .i64 0]) 3 32 Tryd.underlying119 hi hz0 hz1 hz2 rfl (by decide) _ _ _ rfl (hrow2.alloc _) ⟨W.heap.size + 1, 0, none⟩ 1 1 (encK x) rfl rfl (cells_new' _ _ _ _ hs2) (by intro u hu; simp [encK] at hu; rcases hu with rfl | rfl | rfl <;> rfl) (by omega) (by omega) (by have := hb2.size; simp; omega) ?_; intro v' w3 hown' hg3 hnil3
       have hv3 : w3.heap[Bs]? = some (.cells #[v] 119 (0, 0)) := (hg3.block Bs (by simp; omega) (ne_of hv2 (fun cur e => by cases e))).trans ((Below.heap_alloc _ _ Bs hBlt).trans hv2)
       obtain ⟨hc3, hf3⟩ := cell_of_box_a hv3
       obtain ⟨g', cap', cur', rfl, hbase', hgb', hr1, hr2, hr3, hr4⟩ : ∃ g' cap' cur', v' = .slice (some ⟨g', 0, none⟩) (ss.length + 1) cap' ∧ w0.heap.size ≤ g' ∧ w3.heap[g']? = some (.cells cur' 93 (0, 0)) ∧ ss.length + 1 ≤ cap' ∧ cap' ≤ maxLen ∧ cur'.size = cap' * 3 ∧ cur'.toList.take ((ss.length + 1) * 3) = cellsK ss ++ encK x := by
         rcases hown'.2 with ⟨_, h0⟩ | h'
         · exact absurd h0 (by omega)
         · exact h'
       go_frame)
    | gi_round_op_a)
  have hg3' : (W2.alloc (.cells (encK x).toArray 93)).grownBy w3 v.ownBlock := hg3
  have hL3 : w3.heap[l]? = some (.loop { apRec fn sv Bs D .ready none with state := .busy }) := (hg3'.block l (by simp; omega) (ne_of hL2 (fun cur e => by cases e))).trans ((Below.heap_alloc _ _ l hl2).trans hL2)
  have hK3 : w3.heap[D]? = some (.deferred (some [])) := (hg3'.block D (by simp; omega) (ne_of hK2 (fun cur e => by cases e))).trans ((Below.heap_alloc _ _ D hDlt).trans hK2)
  obtain ⟨w4, hw4⟩ : ∃ w4, w3.setCell ⟨Bs, 0, none⟩ (.slice (some ⟨g', 0, none⟩) (ss.length + 1) cap') = w4 := ⟨_, rfl⟩
  rw [hw4]
  have hg4 : w3.grownBy w4 (some Bs) := by rw [← hw4]; exact grownBy_setCell0_a _ _ _
  have hv4 : w4.heap[Bs]? = some (.cells #[.slice (some ⟨g', 0, none⟩) (ss.length + 1) cap'] 119 (0, 0)) := by rw [← hw4]; exact heap_setCell_box_a _ hv3
  have hL4 : w4.heap[l]? = some (.loop { apRec fn sv Bs D .ready none with state := .busy }) := (hg4.block l (Array.getElem?_eq_some_iff.1 hL3).1 (fun e => hBl (by cases e; rfl))).trans hL3
  have hK4 : w4.heap[D]? = some (.deferred (some [])) := (hg4.block D (Array.getElem?_eq_some_iff.1 hK3).1 (fun e => hDB (by cases e; rfl))).trans hK3
  have hrow4 := hown'.kept hg4 (ownsRow_ne_a hown' hv3 (fun cur e => by cases e))
  have hl4 : l < w4.heap.size := (Array.getElem?_eq_some_iff.1 hL4).1
  have hb3 : Below w0.heap.size w0 w3 := (hb2.alloc hb2.size _).grown hg3' (by have := hb2.size; simp; omega) (fun k e => (hrow2.lt k e).1)
  have hb4 : Below w0.heap.size w0 w4 := hb3.grown hg4 hb3.size (fun k e => by cases e; exact h0B)
  have hk4 : KeepsWalks W w4 := ((hk2.trans (KeepsWalks.alloc _ _)).trans (KeepsWalks.of_grownBy hg3' (ownsRow_not_walk_a (hrow2.alloc _)))).trans (by rw [← hw4]; exact KeepsWalks.setCell _ _ _)
  clear hw4
  refine ⟨_, _, run_endRound none hL4, rfl, ⟨⟨_, (World.putObj_heap_other hBl).trans hv4, ?_, by simp⟩, World.putObj_heap_same hl4, (World.putObj_heap_other hDl).trans hK4, hb4.grown (grownBy_putObj_a _ _ _) hb4.size (fun k e => by cases e; exact h0l)⟩, hk4.trans (KeepsWalks.putObj _ hL4 rfl)⟩
  have := hrow4.kept (grownBy_putObj_a w4 l (.loop { { apRec fn sv Bs D .ready none with state := .busy } with state := if (none : Option Code).isNone then .ready else .done, pending := none })) (ownsRow_ne_a hrow4 hL4 (fun cur e => by cases e))
  rw [cellsK_snoc, List.length_append]
  exact this

end Go.Proofs.YtigdmkhdmbbfiaaDoor

/- 'slices.SortedFunc(maps.Keys(s), cmp)' at this program, 5: the call, told from its parts. No conditions. -/
namespace Go.Proofs.YtigdmkhdmbbfiaaDoor
open Go Go.Proofs Go.RowKit Go.Shelf Go.Sort Go.Pv

abbrev encV (x : K3) : Value := .agg #[.string x.s, .int .i64 x.a, .int .i64 x.b]

set_option maxRecDepth 100000 in
set_option maxHeartbeats 2000000 in
theorem appendSeq_in (F : Fence) (n : Nat) (h67 : F.fn 67) (hro : F.round = none) (hn : 2 ≤ n) (g : Nat) (lb : Array Value) (hFg : F.fn g) (eg : ∀ args w, (callFunc g args).run Tryd.prog w = .ok (.enter g args) w)
    (S : List K3 → Prop) (N : Nat) (hN : N ≤ maxLen) (hNb : N * 32 ≤ 140737488355328) (w : World) (hseq : SeqGives F (n - 1) Tryd.prog g lb encV S N w) :
    CallsIn F n Tryd.prog 67 #[.slice none 0 0, .func (.func g) #[] lb] w fun e w' => ∃ (v : Value) (ss : List K3), e = .returned v ∧ S ss ∧ w'.ownsRow w.heap.size 93 3 v ss.length (cellsK ss) ∧ (v = .slice none 0 0 ↔ ss = []) ∧ Below w.heap.size w w' := by
  have h1 : 1 ≤ n := by omega
  refine callsIn_of_wp_marks Tryd.func67 rfl h67 ?_ hro
  simp only [Tryd.ntmps67, List.size_toArray, List.length_cons, List.length_nil, Nat.reduceAdd, Nat.reduceSub, Array.replicate_succ, Array.replicate_zero, List.push_toArray, List.append_toArray, List.nil_append, List.cons_append]
  gi_wp2
  refine wpIn_rangeFunc ?_
  intro fn hfn
  rw [hro]
  obtain ⟨W0, hW0⟩ : ∃ W0, w.alloc (.cells #[.slice none 0 0] 119) = W0 := ⟨_, rfl⟩
  have hs0 : W0.heap.size = w.heap.size + 1 := by rw [← hW0]; simp
  have hv0 : W0.heap[w.heap.size]? = some (.cells #[.slice none 0 0] 119 (0, 0)) := by rw [← hW0]; exact World.alloc_heap_new w _
  have hb0 : Below w.heap.size w W0 := by rw [← hW0]; exact (Below.refl _ w).alloc (Nat.le_refl _) _
  rw [hW0]
  obtain ⟨W1, hW1⟩ : ∃ W1, (W0.alloc (.deferred (some []))).alloc (.loop (apRec fn (.func (.func g) #[] lb) w.heap.size W0.heap.size .ready none)) = W1 := ⟨_, rfl⟩
  have hold : ∀ k, k < W0.heap.size → W1.heap[k]? = W0.heap[k]? := fun k hk => by
    rw [← hW1]; exact (Below.heap_alloc _ _ k (by simp; omega)).trans (Below.heap_alloc _ _ k hk)
  have hb1 : Below w.heap.size w W1 := by rw [← hW1]; exact (hb0.alloc hb0.size _).alloc (by have := hb0.size; simp; omega) _
  have hs1 : W1.heap.size = W0.heap.size + 2 := by rw [← hW1]; simp
  have hM : ApAt w fn (.func (.func g) #[] lb) w.heap.size (W0.heap.size + 1) W0.heap.size [] W1 :=
    ⟨⟨_, (hold w.heap.size (by omega)).trans hv0, ⟨rfl, .inl ⟨rfl, rfl⟩⟩, by simp⟩,
     by rw [← hW1]; have := World.alloc_heap_new (W0.alloc (.deferred (some []))) (.loop (apRec fn (.func (.func g) #[] lb) w.heap.size W0.heap.size .ready none)); rwa [World.size_alloc] at this,
     by rw [← hW1]; exact (Below.heap_alloc _ _ _ (by simp)).trans (World.alloc_heap_new W0 _), hb1⟩
  refine ⟨W0.heap.size + 1, [{ target := .collected W0.heap.size, args := #[] }], W1, { target := .fn (.func g) lb, args := #[.func (.yield (W0.heap.size + 1)) #[] #[]] }, W1, g,
    #[.func (.yield (W0.heap.size + 1)) #[] #[]] ++ lb, W1, ?_, ?_, ?_, ?_, fun _ => h1, ?_⟩
  · rw [← hW1]; exact run_enterLoop_outer _ _ _ _ _
  · simp [resolve, go_sem]
  · intro f' hf'; simp [Target.leads] at hf'; subst hf'; exact hFg
  · simp [invoke, go_sem, eg]
  · refine (hseq (W0.heap.size + 1) (ApAt w fn (.func (.func g) #[] lb) w.heap.size (W0.heap.size + 1) W0.heap.size) W1 hb1 (ap_abides _ _ _ _ _ _ _ hb1.size)
      (fun pre x W hJ hl => apYield F (n - 1 - 1) w fn hfn _ w.heap.size (W0.heap.size + 1) W0.heap.size (by omega) (by omega) (by omega) (Nat.le_refl _) (by omega) N hN hNb pre x W hJ hl) hM).mono ?_
    rintro e W2 ⟨⟨v0, rfl⟩, ss, hS, h2⟩
    obtain ⟨v, hv, hrow, hnil⟩ := h2.box
    have hend := run_endLoop (P := Tryd.prog) h2.L (by simp [apRec])
    obtain ⟨W3, hW3⟩ : ∃ W3, W2.putObj (W0.heap.size + 1) (.loop { apRec fn (.func (.func g) #[] lb) w.heap.size W0.heap.size .ready none with state := .exhausted }) = W3 := ⟨_, rfl⟩
    rw [hW3] at hend
    have hg3 : W2.grownBy W3 (some (W0.heap.size + 1)) := by rw [← hW3]; exact grownBy_putObj_a _ _ _
    have hv3 : W3.heap[w.heap.size]? = some (.cells #[v] 119 (0, 0)) := by rw [← hW3]; exact (World.putObj_heap_other (by omega)).trans hv
    have hK3 : W3.heap[W0.heap.size]? = some (.deferred (some [])) := by rw [← hW3]; exact (World.putObj_heap_other (by omega)).trans h2.K
    have hrow3 := hrow.kept hg3 (ownsRow_ne_a hrow h2.L (fun cur e => by cases e))
    have hb3 : Below w.heap.size w W3 := h2.below.grown hg3 h2.below.size (fun k e => by cases e; omega)
    obtain ⟨hc3, hf3⟩ := cell_of_box_a hv3
    clear hW3
    refine ⟨none, W3, hend, ?_⟩
    gi_wp2
    rw [← hs0]
    refine ⟨by simp, .inl ⟨_, _, rfl, run_takeDeferred hK3, ?_⟩⟩
    exact ⟨_, results_tmp rfl _ _ _, v, ss, rfl, hS, hrow3.kept (grownBy_putObj_a _ _ _) (ownsRow_ne_a hrow3 hK3 (fun cur e => by cases e)), hnil, hb3.grown (grownBy_putObj_a _ _ _) hb3.size (fun k e => by cases e; omega)⟩

set_option maxHeartbeats 1000000 in
theorem collect_in (F : Fence) (n : Nat) (h61 : F.fn 61) (h67 : F.fn 67) (hro : F.round = none) (hn : 3 ≤ n) (g : Nat) (lb : Array Value) (hFg : F.fn g) (eg : ∀ args w, (callFunc g args).run Tryd.prog w = .ok (.enter g args) w)
    (S : List K3 → Prop) (N : Nat) (hN : N ≤ maxLen) (hNb : N * 32 ≤ 140737488355328) (w : World) (hseq : SeqGives F (n - 1 - 1) Tryd.prog g lb encV S N w) :
    CallsIn F n Tryd.prog 61 #[.func (.func g) #[] lb] w fun e w' => ∃ (v : Value) (ss : List K3), e = .returned v ∧ S ss ∧ w'.ownsRow w.heap.size 93 3 v ss.length (cellsK ss) ∧ (v = .slice none 0 0 ↔ ss = []) ∧ Below w.heap.size w w' := by
  have h1 : 1 ≤ n := by omega
  have e67 : ∀ args w, (callFunc 67 args).run Tryd.prog w = .ok (.enter 67 args) w := enters_of Tryd.func67 (by kernel_rfl) rfl
  refine callsIn_of_wp Tryd.func61 rfl h61 ?_ hro
  simp only [Tryd.ntmps61, List.size_toArray, List.length_cons, List.length_nil, Nat.reduceAdd, Nat.reduceSub, Array.replicate_succ, Array.replicate_zero, List.push_toArray, List.append_toArray, List.nil_append, List.cons_append]
  gi_wp2_with (gi_at_call 67; refine (appendSeq_in F (n - 1) h67 hro (by omega) g lb hFg eg S N hN hNb _ hseq).mono ?_; rintro e w' ⟨v, ss, rfl, hS, hrow, hnil, hb⟩)
  go_ret
  exact ⟨v, ss, rfl, hS, hrow, hnil, hb⟩

/-- The keys of a map as an iterator gives them. -/
theorem keys_gives (F : Fence) (n : Nat) (h63 : F.fn 63) (hro : F.round = none) (hn : 1 ≤ n) (Bm ad b since : Nat) (ents : Array MapEntry) (key : MapEntry → K3) (hkey : ∀ e ∈ ents.toList, e.key = encV (key e)) (hst : Stamps ents since) (w : World) (hBm : Bm < w.heap.size)
    (hm : w.cell? ⟨Bm, ad, none⟩ = some (.map (some b))) (hb : w.heap[b]? = some (.map ents since)) :
    SeqGives F n Tryd.prog 63 #[.pointer (some ⟨Bm, ad, none⟩)] encV (fun ss => ss.Perm (ents.toList.map key)) ents.size w := fun l J W hW hJ hY h0 =>
  keys_in F n h63 hro hn l Bm ad b since ents key hkey J hY W hJ ((hW.cell (p := ⟨Bm, ad, none⟩) hBm).trans hm) ((hW.block b (Array.getElem?_eq_some_iff.1 hb).1).trans hb) hst h0

end Go.Proofs.YtigdmkhdmbbfiaaDoor

/- 'slices.SortedFunc(maps.Keys(s), cmp)' at this program, 6: the sorting, the whole call. No conditions. -/
namespace Go.Proofs.YtigdmkhdmbbfiaaDoor
open Go Go.Proofs Go.RowKit Go.Shelf Go.Sort Go.Pv

theorem cellsK_get : ∀ (l : List K3) (i j : Nat) (x : K3), l[i]? = some x → j < 3 → (cellsK l)[i * 3 + j]? = (encK x)[j]?
  | [], i, j, x, h, _ => by simp at h
  | y :: l, 0, j, x, h, hj => by
    simp at h; subst h
    show (encK y ++ cellsK l)[0 * 3 + j]? = _
    rw [List.getElem?_append_left (by simp [encK]; omega)]
    simp
  | y :: l, i + 1, j, x, h, hj => by
    have := cellsK_get l i j x (by simpa using h) hj
    show (encK y ++ cellsK l)[(i + 1) * 3 + j]? = _
    rw [List.getElem?_append_right (by simp [encK]; omega)]
    rw [← this]
    congr 1
    simp [encK]; omega

theorem flat_cells (l : List K3) : (flatK encK 3 l.toArray).toList = cellsK l := by
  apply List.ext_getElem?
  intro t
  have hsz : (flatK encK 3 l.toArray).toList.length = l.length * 3 := by simp
  by_cases ht : t < l.length * 3
  · have hi : t / 3 < l.length := by omega
    have h1 := cellsK_get l (t / 3) (t % 3) _ (List.getElem?_eq_getElem hi) (by omega)
    have e1 : t / 3 * 3 + t % 3 = t := by omega
    rw [e1] at h1
    rw [h1]
    have h2 := get_flatK encK 3 l.toArray t (by simpa using ht)
    have hlen : (encK l[t / 3]).length = 3 := rfl
    rw [List.getElem?_eq_getElem (by rw [hsz]; exact ht), List.getElem?_eq_getElem (by rw [hlen]; omega)]
    congr 1
    rw [getElem!_pos (flatK encK 3 l.toArray) t (by simpa using ht)] at h2
    rw [Array.getElem_toList, h2]
    rw [getElem!_pos l.toArray (t / 3) (by simpa using hi)]
    rw [getElem!_pos _ (t % 3) (by simp [encK]; omega)]
    rfl
  · rw [List.getElem?_eq_none (by rw [hsz]; omega), List.getElem?_eq_none (by rw [cellsK_length]; omega)]

theorem holds_id {w : World} {g : Nat} {cur F : Array Value} {e : TypeId} (hb : w.heap[g]? = some (.cells cur e (0, 0))) (ht : cur.toList.take F.size = F.toList) : Holds id w g 0 F := by
  intro j hj
  refine ⟨?_, by simp [World.frozen?, hb]⟩
  have h1 : (cur.toList.take F.size)[j]? = F.toList[j]? := by rw [ht]
  rw [List.getElem?_take_of_lt hj] at h1
  simp only [World.cell?, hb, Nat.zero_add]
  simp only [Option.isSome_none, Bool.false_eq_true, if_false]
  rw [← Array.getElem?_toList, h1]
  simp [hj]

theorem heap_sorted_id {w : World} {g n : Nat} {os : Array Obj} {cur : Array Value} {e : TypeId} {fr : Nat × Nat} (F : Array Value) (hb : w.heap[g]? = some (.cells cur e fr)) :
    (grow (putRow id (Sort.ahead w n) g 0 F) os).heap[g]? = some (.cells (putCells id 0 F cur) e fr) := by
  have hg : g < w.heap.size := (Array.getElem?_eq_some_iff.1 hb).1
  rw [heap_grow_old _ _ (by simpa using hg)]
  simp [putRow, mapBlock, Sort.ahead, Array.getElem?_modify, hb, onCells]

theorem grownBy_sorted_id {w : World} {g n : Nat} {os : Array Obj} (F : Array Value) : w.grownBy (grow (putRow id (Sort.ahead w n) g 0 F) os) (some g) := by
  refine ⟨rfl, rfl, rfl, by simp, fun k hk hne => ?_⟩
  rw [heap_grow_old _ _ (by simpa using hk)]
  have : g ≠ k := fun e => hne (by rw [e])
  simp [putRow, mapBlock, Sort.ahead, Array.getElem?_modify, this]

theorem take_putCells_id (cur F : Array Value) (h : F.size ≤ cur.size) : (putCells id 0 F cur).toList.take F.size = F.toList := by
  apply List.ext_getElem?
  intro j
  by_cases hj : j < F.size
  · rw [List.getElem?_take_of_lt hj, Array.getElem?_toList]
    simp [putCells, hj, show j < cur.size by omega]
  · rw [List.getElem?_take_eq_none (by omega), List.getElem?_eq_none (by simp; omega)]

set_option maxHeartbeats 2000000 in
/-- The keys of a map, sorted, in a new slice. -/
theorem sortedFunc (Bm ad b since : Nat) (ents : Array MapEntry) (key : MapEntry → K3) (hkey : ∀ e ∈ ents.toList, e.key = encV (key e)) (hst : Stamps ents since) (w : World) (hBm : Bm < w.heap.size)
    (hm : w.cell? ⟨Bm, ad, none⟩ = some (.map (some b))) (hb : w.heap[b]? = some (.map ents since)) (hN : ents.size ≤ 1000000) :
    Calls Tryd.prog 48 #[.func (.func 63) #[] #[.pointer (some ⟨Bm, ad, none⟩)], .func (.func 50) #[] #[]] w fun e w' => ∃ (v : Value) (ss : List K3), e = .returned v ∧ ss.length = ents.size ∧ ss.map shK = sortSh (ents.toList.map fun e => shK (key e)) ∧
      w'.ownsRow w.heap.size 93 3 v ss.length (cellsK ss) ∧ Below w.heap.size w w' := by
  refine (callsIn_wide (n := 6)).1 ?_
  have e61 : ∀ args w, (callFunc 61 args).run Tryd.prog w = .ok (.enter 61 args) w := enters_of Tryd.func61 (by kernel_rfl) rfl
  have e62 : ∀ args w, (callFunc 62 args).run Tryd.prog w = .ok (.enter 62 args) w := enters_of Tryd.func62 (by kernel_rfl) rfl
  have e63 : ∀ args w, (callFunc 63 args).run Tryd.prog w = .ok (.enter 63 args) w := enters_of Tryd.func63 (by kernel_rfl) rfl
  have e50 : ∀ args w, (callFunc 50 args).run Tryd.prog w = .ok (.enter 50 args) w := enters_of Tryd.func50 (by kernel_rfl) rfl
  have hseq : SeqGives Fence.wide 3 Tryd.prog 63 #[.pointer (some ⟨Bm, ad, none⟩)] encV (fun ss => ss.Perm (ents.toList.map key)) ents.size w :=
    keys_gives Fence.wide 3 trivial rfl (by omega) Bm ad b since ents key hkey hst w hBm hm hb
  have hcol := collect_in Fence.wide 5 trivial trivial rfl (by omega) 63 #[.pointer (some ⟨Bm, ad, none⟩)] trivial e63 _ ents.size (Nat.le_trans hN (by decide)) (by omega) w hseq
  have h1 : 1 ≤ 6 := by omega
  have h48 : Fence.wide.fn 48 := trivial
  have h61 : Fence.wide.fn 61 := trivial
  have h62 : Fence.wide.fn 62 := trivial
  refine callsIn_of_wp Tryd.func48 rfl h48 ?_ rfl
  simp only [Tryd.ntmps48, List.size_toArray, List.length_cons, List.length_nil, Nat.reduceAdd, Nat.reduceSub, Array.replicate_succ, Array.replicate_zero, List.push_toArray, List.append_toArray, List.nil_append, List.cons_append]
  gi_wp2_with (gi_at_call 61; refine hcol.mono ?_; rintro e W ⟨v, ss, rfl, hS, hrow, hnil, hbl⟩)
  have hlen : ss.length = ents.size := by have := hS.length_eq; simpa using this
  have hsh : (ss.map shK).Perm (ents.toList.map fun e => shK (key e)) := by
    have := hS.map shK
    rwa [List.map_map] at this
  rcases hrow.2 with ⟨rfl, hz⟩ | ⟨gb, cap, cur, rfl, hbase, hgb, r1, r2, r3, r4⟩
  · have hss : ss = [] := List.eq_nil_of_length_eq_zero hz
    subst hss
    have hno : CallsIn Fence.wide 5 Tryd.prog 62 #[.slice none 0 0, .func (.func 50) #[] #[]] W fun e w' => e = .returned (.tuple #[]) ∧ w' = W := callsIn_wide.2 (AnyF.slices_SortFunc_none Tryd.sortF none 0 _ W)
    gi_wp2_with (gi_at_call 62; refine hno.mono ?_; rintro e w' ⟨rfl, rfl⟩)
    go_ret
    exact ⟨.slice none 0 0, [], rfl, hlen, by rw [← sortSh_unique hsh (by simp)], hrow, hbl⟩
  · have hF : (flatK encK 3 ss.toArray).size = ss.length * 3 := by simp
    have hH : HoldsK encK 3 W gb 0 ss.toArray := holds_id hgb (by rw [hF, flat_cells]; exact r4)
    have hgl : gb < W.heap.size := (Array.getElem?_eq_some_iff.1 hgb).1
    have hso : CallsIn Fence.wide 5 Tryd.prog 62 #[.slice (some ⟨gb, 0, none⟩) ss.length cap, .func (.func 50) #[] #[]] W fun e w' => e = .returned (.tuple #[]) ∧ ∃ n os, w' = sortWorldK encK 3 W gb 0 n (ss.mergeSort fun x y => !(ltOf cfK) y x).toArray os := by
      have := AnyQ.slices_SortFunc_total Tryd.sortF 3 Tryd.isAgg93 Tryd.sizeOf93 encK (fun _ => rfl) (fun x v hv => by simp [encK] at hv; rcases hv with rfl | rfl | rfl <;> rfl) cfK swoK 50 #[] gb 0 cap ss.toArray W e50 (cmpLaysK _ _ _ _) hH hgl (by simp; omega) totK
      exact callsIn_wide.2 this
    have hsl : (ss.mergeSort fun x y => !(ltOf cfK) y x).length = ss.length := List.length_mergeSort _
    have hsorted := sorted_sh ss
    generalize (ss.mergeSort fun x y => !(ltOf cfK) y x) = ts at hso hsl hsorted
    gi_wp2_with (gi_at_call 62; refine hso.mono ?_; rintro e w' ⟨rfl, nn, os, rfl⟩)
    go_ret
    have hFt : (flatK encK 3 ts.toArray).size = ss.length * 3 := by simp [hsl]
    refine ⟨.slice (some ⟨gb, 0, none⟩) ents.size cap, ts, rfl, hsl.trans hlen, by rw [hsorted]; exact (sortSh_unique ((sortSh_perm _).trans hsh) (sortSh_sorted _)), ?_, ?_⟩
    · rw [hsl, ← hlen]
      refine ⟨by rw [cellsK_length, hsl], .inr ⟨gb, cap, _, rfl, hbase, heap_sorted_id _ hgb, r1, r2, by simp [putCells, r3], ?_⟩⟩
      rw [← flat_cells, ← hFt]
      exact take_putCells_id cur _ (by rw [hFt, r3]; exact Nat.mul_le_mul_right _ r1)
    · exact hbl.grown (grownBy_sorted_id _) hbl.size (fun j hj => by cases hj; exact hbase)

end Go.Proofs.YtigdmkhdmbbfiaaDoor

/- 'slices.SortedFunc(maps.Keys(s), cmp)' at this program, 7: told to the machine and to the working rules. No conditions. -/
namespace Go.Proofs.YtigdmkhdmbbfiaaDoor
open Go Go.Proofs Go.RowKit Go.Shelf Go.Sort Go.Pv

def keyOfV : Value → K3
  | .agg cs => match cs.toList with
    | [.string s, .int _ a, .int _ b] => ⟨s, a, b⟩
    | _ => default
  | _ => default

theorem agg3_inv {E : Env} {v a b c : Value} (h : Rep E v (.agg [.sc a, .sc b, .sc c])) : v = .agg #[a, b, c] := by
  cases h with
  | agg hl hc =>
    rename_i cs
    obtain ⟨l⟩ := cs
    match l, hl with
    | [x, y, z], _ =>
      have h0 := (hc 0 x (.sc a) rfl rfl).sc_inv
      have h1 := (hc 1 y (.sc b) rfl rfl).sc_inv
      have h2 := (hc 2 z (.sc c) rfl rfl).sc_inv
      subst h0; subst h1; subst h2; rfl

theorem shOf_spec {E : Env} : ∀ {es : List (PV × PV)} {ss : List Sh} {ents : List MapEntry}, shOf es = some ss → EntsRep E ents es →
    (∀ x ∈ ents, x.key = encV (keyOfV x.key)) ∧ (ents.map fun x => shK (keyOfV x.key)) = ss
  | [], ss, [], h, hr => by cases h; simp
  | [], ss, _ :: _, h, hr => by simp [EntsRep] at hr
  | p :: es, ss, [], h, hr => by simp [EntsRep] at hr
  | p :: es, ss, e :: ents, h, hr => by
    unfold shOf at h
    split at h
    · rename_i s a b l hp hl
      cases hb : Nat.ble s.data.size 1000000 with
      | false => rw [hb] at h; cases h
      | true =>
        rw [hb] at h; cases h
        obtain ⟨h1, h2⟩ := shOf_spec (ents := ents) hl ⟨by simpa using hr.1, fun i e p h3 h4 => hr.2 (i + 1) e p h3 h4⟩
        have hkey := (hr.2 0 e p rfl rfl).1
        rw [hp] at hkey
        have hke := agg3_inv hkey
        refine ⟨fun x hx => ?_, ?_⟩
        · rcases List.mem_cons.1 hx with rfl | hx
          · rw [hke]; rfl
          · exact h1 x hx
        · simp only [List.map_cons, h2]
          rw [hke]; rfl
    · cases h

theorem arr2 {a : Array Value} (h : a.size = 2) : ∃ x y, a = #[x, y] := by
  obtain ⟨l⟩ := a
  match l, h with
  | [x, y], _ => exact ⟨x, y, rfl⟩

theorem sortedF_core {h : Heap} {c : Nat → Nat} {R : PV → Heap → (Nat → Nat) → Prop} {kb km : Key} {es : List (PV × PV)} {ss : List Sh} (hkb : h kb = some (.rows 1 [[.map km]])) (hkm : ∃ bs clk, h km = some (.map es bs clk)) (hss : shOf es = some ss) (hlen : es.length ≤ 1000000)
    (hR : R (.lit false 3 (shRows (sortSh ss))) h c) : HCallsR Tryd.prog 48 [.func (.func 63) [] [.ptr kb 1 0 0], .func (.func 50) [] []] h c R := by
  refine ⟨by kernel_rfl, fun E vs gE hh hcn htt hvs hrep => ?_⟩
  rw [← hh] at hkb hkm hR
  rw [← hcn] at hR
  obtain ⟨bs, clk, hkm⟩ := hkm
  obtain ⟨v0, v1, rfl⟩ := arr2 (a := vs) hvs
  have h0 := hrep 0 v0 _ rfl rfl
  have h1' := hrep 1 v1 _ rfl rfl
  cases h1' with
  | @func _ vas1 cs1 _ _ hl1 hl1' _ _ =>
  have has1 : vas1 = #[] := Array.eq_empty_of_size_eq_zero hl1
  have hcs1 : cs1 = #[] := Array.eq_empty_of_size_eq_zero hl1'
  subst has1; subst hcs1
  cases h0 with
  | @func _ vas cs _ _ hl hl' ha hc =>
  have has : vas = #[] := Array.eq_empty_of_size_eq_zero hl
  subst has
  obtain ⟨p0, rfl⟩ := arr1 (a := cs) hl'
  have hp0 := hc 0 p0 _ rfl rfl
  cases hp0 with
  | @ptr bb ad _ _ _ _ hkn hlk =>
  obtain ⟨hbb, had⟩ := (hlk _ hkb).1
  subst hbb; subst had
  obtain ⟨cc, T, hcc, hcs, _, _, _, _, hcells⟩ := gE.obj _ _ hkb
  obtain ⟨mv, hmv, hmr⟩ := hcells 0 0 [.map km] (.map km) rfl rfl
  cases hmr with
  | @map mb _ hkn2 hlm =>
  have hmb := (hlm _ hkm).1
  subst hmb
  obtain ⟨ents, h4, h5⟩ := ents_of gE hkm
  have hst : Stamps ents clk := by
    obtain ⟨ents0, h4', _, _, _, hst0, _⟩ := gE.obj _ _ hkm
    rw [h4] at h4'; cases h4'; exact hst0
  have hcell : E.w.cell? ⟨E.blk kb, (E.cap kb).2 + 0 * 1 + 0, none⟩ = some (.map (some (E.blk km))) := by
    rw [cell_of_heap hcc]
    exact hmv
  obtain ⟨h6, h7⟩ := shOf_spec (E := E) hss h5
  have hsize : ents.size = es.length := by simpa using h5.1
  refine (sortedFunc (E.blk kb) _ (E.blk km) clk ents (fun e => keyOfV e.key) h6 hst E.w (live_lt gE hkb) hcell h4 (by rw [hsize]; exact hlen)).mono ?_
  rintro e w' ⟨u, ts, rfl, hts, hmap, hrow, hbl⟩
  rw [h7] at hmap
  have hlen' : ts.length = (sortSh ss).length := by rw [← hmap, List.length_map]
  rw [hlen'] at hrow
  have hblk : ∀ b, b < E.w.heap.size → w'.heap[b]? = E.w.heap[b]? := fun b hb => hbl.block b hb
  have hle : EnvLe E { E with w := w' } := ⟨fun b hb _ => hblk b hb, hbl.size, fun b hb => .inl hb, rfl, rfl, rfl, fun _ => Nat.le_refl _, fun _ _ h => h, fun _ _ rs h => .inr ⟨rs, h, rfl, rfl⟩, fun _ o h _ => .inr ⟨o, h, rfl, rfl⟩⟩
  refine ⟨u, .lit false 3 (shRows (sortSh ss)), { E with w := w' }, rfl, hR, rfl, ⟨gE.inj, gE.known, gE.base, fun k o h => ObjOK.le hle rfl rfl (hblk _ (live_lt gE h)) (gE.obj k o h), gE.out, Nat.le_trans gE.size hbl.size, gw_keep gE.glob (Nat.le_refl _) fun b hb => hblk b (Nat.lt_of_lt_of_le hb gE.size)⟩, hle, hbl.mono gE.size, ?_⟩
  obtain ⟨hxl, ⟨rfl, hz⟩ | ⟨gb, cap, cur, rfl, hbase, hgb, hcap, _, hcur, htake⟩⟩ := hrow
  · rw [List.eq_nil_of_length_eq_zero hz]
    exact .litE
  · have hlr : (shRows (sortSh ss)).length = (sortSh ss).length := by simp [shRows]
    have hwidth : ∀ row ∈ shRows (sortSh ss), row.length = 3 := fun row hr => by
      simp only [shRows, List.mem_map] at hr; obtain ⟨x, _, rfl⟩ := hr; rfl
    have hrow1 : ∀ (i j : Nat) (row : List PV) (p : PV), (shRows (sortSh ss))[i]? = some row → row[j]? = some p → ∃ x y, j < 3 ∧ p = .sc x ∧ isScalar x = true ∧ ts[i]? = some y ∧ (encK y)[j]? = some x := fun i j row p h1 h2 => by
      simp only [shRows, List.getElem?_map, Option.map_eq_some_iff] at h1
      obtain ⟨x, hx, rfl⟩ := h1
      rw [← hmap, List.getElem?_map, Option.map_eq_some_iff] at hx
      obtain ⟨y, hy, rfl⟩ := hx
      have he : encSh (shK y) = encK y := by simp [encSh, shK, encK, Go.Proofs.encStr]
      rw [List.getElem?_map, Option.map_eq_some_iff] at h2
      obtain ⟨z, hz, rfl⟩ := h2
      have hj : j < 3 := (List.getElem?_eq_some_iff.1 hz).1
      refine ⟨z, y, hj, rfl, ?_, hy, by rw [← he]; exact hz⟩
      rcases j with _ | _ | _ | j
      · simp [encSh] at hz; subst hz; rfl
      · simp [encSh] at hz; subst hz; rfl
      · simp [encSh] at hz; subst hz; rfl
      · omega
    have hget : ∀ (i j : Nat) (y : K3) (x : Value), ts[i]? = some y → j < 3 → (encK y)[j]? = some x → cur[i * 3 + j]? = some x := fun i j y x hy hj hx => by
      have hi : i < ts.length := (List.getElem?_eq_some_iff.1 hy).1
      have h9 : (cur.toList.take ((sortSh ss).length * 3))[i * 3 + j]? = some x := by rw [htake, cellsK_get ts i j y hy hj]; exact hx
      rw [List.getElem?_take_of_lt (by omega)] at h9
      simpa using h9
    have := Rep.lit (E := { E with w := w' }) (b := gb) (off := 0) (c := cap) (t := false) (sz := 3) (rows := shRows (sortSh ss)) (f := fun i j => (cur[i * 3 + j]?).getD .nilFunc)
      ⟨fun ⟨k, o, h1, h2⟩ => by have := live_lt gE h1; have h2' : E.blk k = gb := h2; omega, fun _ hM => by have := gE.out _ hM; have := gE.size; omega, (fun h => by cases h), (Array.getElem?_eq_some_iff.1 hgb).1, hwidth,
        (fun i j row p h1 h2 => by
          obtain ⟨x, y, hj, rfl, hsc, hy, hx⟩ := hrow1 i j row p h1 h2
          rw [hget i j y x hy hj hx]
          show w'.cell? ⟨gb, 0 + i * 3 + j, none⟩ = _
          rw [cell_of_heap hgb]
          rw [Nat.zero_add, hget i j y x hy hj hx]; rfl),
        (fun row hr p hp => by
          simp only [shRows, List.mem_map] at hr; obtain ⟨x, _, rfl⟩ := hr
          simp [encSh] at hp; rcases hp with rfl | rfl | rfl <;> exact .sc _),
        (fun row hr p hp => by
          simp only [shRows, List.mem_map] at hr; obtain ⟨x, _, rfl⟩ := hr
          simp [encSh] at hp; rcases hp with rfl | rfl | rfl <;> rfl)⟩
      (by rw [hlr]; exact hcap) (fun i j row p h1 h2 => by
        obtain ⟨x, y, hj, rfl, hsc, hy, hx⟩ := hrow1 i j row p h1 h2
        rw [hget i j y x hy hj hx]
        exact .sc hsc)
    rw [hlr] at this
    exact this

theorem sortedF_orc :
    ∀ (f : FuncId) (args : List PV) (h : HL) (c : CL) (v : PV) (h' : HL) (c' : CL), sortedFO 48 63 50 f args h c = some (v, h', c') → ∀ R : PV → Heap → (Nat → Nat) → Prop, R v (hGet h') (cGet c') → HCallsR Tryd.prog f args (hGet h) (cGet c) R := by
  intro f args h c v h' c' ho R hR
  unfold sortedFO at ho
  cases hf : Nat.beq f 48 with
  | false => rw [hf] at ho; cases ho
  | true =>
  rw [hf] at ho
  obtain rfl : f = 48 := Nat.eq_of_beq_eq_true hf
  simp only [cond_true] at ho
  split at ho
  · rename_i g kb gc
    cases hgk : Nat.beq g 63 && Nat.beq gc 50 with
    | false => rw [hgk] at ho; cases ho
    | true =>
    rw [hgk] at ho
    simp only [Bool.and_eq_true] at hgk
    obtain rfl : g = 63 := Nat.eq_of_beq_eq_true hgk.1
    obtain rfl : gc = 50 := Nat.eq_of_beq_eq_true hgk.2
    simp only [cond_true] at ho
    split at ho
    · rename_i km hkb
      split at ho
      · rename_i es bs0 clk0 hkm
        split at ho
        · rename_i ss hss
          cases hlb : Nat.ble es.length 1000000 with
          | false => rw [hlb] at ho; cases ho
          | true =>
          rw [hlb] at ho; cases ho
          exact sortedF_core hkb ⟨_, _, hkm⟩ hss (Nat.le_of_ble_eq_true hlb) hR
        · cases ho
      · cases ho
    · cases ho
  · cases ho

end Go.Proofs.YtigdmkhdmbbfiaaDoor
