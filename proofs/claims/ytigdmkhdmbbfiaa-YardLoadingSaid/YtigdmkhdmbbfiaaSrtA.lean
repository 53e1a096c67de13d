import Derived.Deep.RegionHeld3
import Derived.Test.YtigdmkhdmbbfiaaOrc
import Derived.Test.YtigdmkhdmbbfiaaPvGx
import Derived.TacticsInMore
import Derived.RegionIn
import Derived.LoopNIn
import Derived.LoopIn
import Derived.OwnWalkIn
import Derived.Shelf.AbstractIn
import Derived.Shelf.SlIter.Collect
import Derived.RangeFuncLeaves
import Derived.KernelRfl
/- 'slices.SortedFunc(maps.Keys(s), cmp)' at this program, 2: the function that compares: by the text, then by the two numbers. No conditions. -/
namespace Go.Proofs.Ytigdmkhdmbbfiaa
open Go Go.Proofs Go.RowKit Go.Shelf Go.Sort Go.Pv

def orI (a b c : Int) : Int := if a = 0 then (if b = 0 then c else b) else a

set_option maxHeartbeats 1000000 in
theorem cmpOr (a b c : Int) (B : Nat) (w : World) (h0 : w.cell? ⟨B, 0, none⟩ = some (.int .i64 a)) (h1 : w.cell? ⟨B, 1, none⟩ = some (.int .i64 b)) (h2 : w.cell? ⟨B, 2, none⟩ = some (.int .i64 c)) :
   Calls Try.prog 97 #[.slice (some ⟨B, 0, none⟩) 3 3] w fun e w' => e = .returned (.int .i64 (orI a b c)) ∧ w' = w := by
 unfold orI
 by_cases ha : a = 0
 · by_cases hb : b = 0
   · by_cases hc : c = 0
     all_goals
       go_enter Try.func97, Try.ntmps97
       go_wp2
       refine wp_loop_rounds 4 ?_
       rw [rounds_succ]
       go_wp2
       rw [rounds_succ]
       go_wp2
       rw [rounds_succ]
       go_wp2
     · rw [rounds_succ]
       go_wp2
       go_ret
       exact ⟨by simp [ha, hb, hc], rfl⟩
     · go_ret
       exact ⟨by simp [ha, hb], rfl⟩
   · go_enter Try.func97, Try.ntmps97
     go_wp2
     refine wp_loop_rounds 4 ?_
     rw [rounds_succ]
     go_wp2
     rw [rounds_succ]
     go_wp2
     go_ret
     exact ⟨by simp [ha, hb], rfl⟩
 · go_enter Try.func97, Try.ntmps97
   go_wp2
   refine wp_loop_rounds 4 ?_
   rw [rounds_succ]
   go_wp2
   go_ret
   exact ⟨by simp [ha], rfl⟩

theorem cell_new (w : World) {n : Nat} (h : w.heap.size = n) (cs : Array Value) (T : TypeId) (j : Nat) : ((w.alloc (.cells cs T)).drew).cell? ⟨n, j, none⟩ = cs[j]? := by
 subst h
 exact cell_of_heap (w := w.alloc (.cells cs T)) (World.alloc_heap_new w _) j

/-- A key of the map. -/
structure K3 where
 s : ByteArray
 a : Int
 b : Int
 deriving Inhabited

def encK (x : K3) : List Value := [.string x.s, .int .i64 x.a, .int .i64 x.b]
def cfK (x y : K3) : Int := orI (Lib.compareBytes x.s.data.toList y.s.data.toList) (Lib.compareInt x.a y.a) (Lib.compareInt x.b y.b)

set_option maxHeartbeats 4000000 in
set_option maxRecDepth 100000 in
theorem closure (x y : K3) (W : World) : Calls Try.prog 96 #[.agg #[.string x.s, .int .i64 x.a, .int .i64 x.b], .agg #[.string y.s, .int .i64 y.a, .int .i64 y.b]] W fun e w' => e = .returned (.int .i64 (cfK x y)) ∧ ∃ q os', w' = grow (W.drewN q) os' := by
 have hS := fun a b W' => Any.strings_Compare Try.cmpStr a b W'
 change ∀ a b W', Calls Try.prog 98 _ _ _ at hS
 have hI := fun a b W' => AnyG.cmp_Compare_int Try.cmpInt a b W'
 change ∀ a b W', Calls Try.prog 99 _ _ _ at hI
 obtain ⟨xs, xa, xb⟩ := x
 obtain ⟨ys, ya, yb⟩ := y
 show Calls Try.prog 96 _ W fun e w' => e = .returned (.int .i64 (orI (Lib.compareBytes xs.data.toList ys.data.toList) (Lib.compareInt xa ya) (Lib.compareInt xb yb))) ∧ _
 have hO := fun a b c B w h0 h1 h2 => cmpOr a b c B w h0 h1 h2
 have hSS := hS xs ys
 have hA := hI xa ya
 have hB := hI xb yb
 clear hS hI
 generalize Lib.compareBytes xs.data.toList ys.data.toList = r1 at hSS ⊢
 generalize Lib.compareInt xa ya = r2 at hA ⊢
 generalize Lib.compareInt xb yb = r3 at hB ⊢
 go_enter Try.func96, Try.ntmps96
 go_wp2
 go_region_held3 (fun w' => w'.cell? ⟨W.heap.size, 0, none⟩ = some (.string xs) ∧ w'.cell? ⟨W.heap.size, 1, none⟩ = some (.int .i64 xa) ∧ w'.cell? ⟨W.heap.size, 2, none⟩ = some (.int .i64 xb) ∧ w'.cell? ⟨W.heap.size + 1, 0, none⟩ = some (.string ys) ∧ w'.cell? ⟨W.heap.size + 1, 1, none⟩ = some (.int .i64 ya) ∧ w'.cell? ⟨W.heap.size + 1, 2, none⟩ = some (.int .i64 yb)) (go_keep)
   (first
     | (go_at_call 98; refine (hSS _).mono ?_; rintro e w' ⟨rfl, rfl⟩)
     | (go_at_call_has 99 xa; refine (hA _).mono ?_; rintro e w' ⟨rfl, rfl⟩)
     | (go_at_call_has 99 xb; refine (hB _).mono ?_; rintro e w' ⟨rfl, rfl⟩)
     | (go_at_call 97; refine (hO r1 r2 r3 _ _ (cell_new _ (by simp) _ _ 0) (cell_new _ (by simp) _ _ 1) (cell_new _ (by simp) _ _ 2)).mono ?_; rintro e w' ⟨rfl, rfl⟩))
 all_goals go_wp2
 go_ret
 exact ⟨rfl, 1, _, by
   show ((((W.drewN 1).alloc _).alloc _).alloc _) = _
   rw [alloc_eq_grow, alloc_eq_grow, alloc_eq_grow, grow_grow, grow_grow]⟩

def shK (x : K3) : Sh := (x.s.data.toList, x.a, x.b)
theorem shK_inj {x y : K3} (h : shK x = shK y) : x = y := by
 obtain ⟨xs, xa, xb⟩ := x
 obtain ⟨ys, ya, yb⟩ := y
 simp only [shK, Prod.mk.injEq] at h
 obtain ⟨h1, rfl, rfl⟩ := h
 have : xs = ys := by
   obtain ⟨⟨a⟩⟩ := xs; obtain ⟨⟨b⟩⟩ := ys
   simp at h1; rw [h1]
 rw [this]

theorem cb_eq : ∀ a b : List UInt8, Lib.compareBytes a b = if leS a b = true then (if leS b a = true then 0 else -1) else 1
 | [], [] => by simp [Lib.compareBytes, leS]
 | [], _ :: _ => by simp [Lib.compareBytes, leS]
 | _ :: _, [] => by simp [Lib.compareBytes, leS]
 | a :: xs, b :: ys => by
   have ih := cb_eq xs ys
   simp only [Lib.compareBytes, leS]
   by_cases h1 : a < b
   · have h1' : a.toNat < b.toNat := UInt8.lt_iff_toNat_lt.1 h1
     have h2 : Nat.blt a.toNat b.toNat = true := (by rw [Nat.blt_eq]; exact h1')
     have h3 : Nat.blt b.toNat a.toNat = false := by rw [← Bool.not_eq_true, Nat.blt_eq]; omega
     have h4 : Nat.beq b.toNat a.toNat = false := by rw [← Bool.not_eq_true, Nat.beq_eq]; omega
     simp [h1, h2, h3, h4]
   · by_cases h5 : b < a
     · have h1' : b.toNat < a.toNat := UInt8.lt_iff_toNat_lt.1 h5
       have h2 : Nat.blt b.toNat a.toNat = true := (by rw [Nat.blt_eq]; exact h1')
       have h3 : Nat.blt a.toNat b.toNat = false := by rw [← Bool.not_eq_true, Nat.blt_eq]; omega
       have h4 : Nat.beq a.toNat b.toNat = false := by rw [← Bool.not_eq_true, Nat.beq_eq]; omega
       simp [h1, h5, h3, h4]
     · have h6 : ¬ a.toNat < b.toNat := fun h => h1 (UInt8.lt_iff_toNat_lt.2 h)
       have h7 : ¬ b.toNat < a.toNat := fun h => h5 (UInt8.lt_iff_toNat_lt.2 h)
       have h8 : Nat.blt a.toNat b.toNat = false := by rw [← Bool.not_eq_true, Nat.blt_eq]; omega
       have h9 : Nat.blt b.toNat a.toNat = false := by rw [← Bool.not_eq_true, Nat.blt_eq]; omega
       have h10 : Nat.beq a.toNat b.toNat = true := by rw [Nat.beq_eq]; omega
       have h11 : Nat.beq b.toNat a.toNat = true := by rw [Nat.beq_eq]; omega
       simp [h1, h5, h8, h9, h10, h11, ih]

theorem lt_cfK (x y : K3) : ltOf cfK x y = !leSh (shK y) (shK x) := by
 have hl := leSh_iff (x := shK y) (y := shK x)
 unfold ltOf cfK orI
 rw [cb_eq]
 have key : (decide ((if (if leS x.s.data.toList y.s.data.toList = true then (if leS y.s.data.toList x.s.data.toList = true then (0 : Int) else -1) else 1) = 0 then (if Lib.compareInt x.a y.a = 0 then Lib.compareInt x.b y.b else Lib.compareInt x.a y.a) else (if leS x.s.data.toList y.s.data.toList = true then (if leS y.s.data.toList x.s.data.toList = true then (0 : Int) else -1) else 1)) < 0) = true) ↔ ¬ leSh (shK y) (shK x) = true := by
   rw [decide_eq_true_eq, hl]
   simp only [shK]
   have ht := leS_total x.s.data.toList y.s.data.toList
   rw [Bool.or_eq_true] at ht
   cases h1 : leS x.s.data.toList y.s.data.toList with
   | false =>
     rw [h1] at ht
     have h2 : leS y.s.data.toList x.s.data.toList = true := ht.resolve_left (by simp)
     simp [h2]
   | true =>
     cases h2 : leS y.s.data.toList x.s.data.toList with
     | false =>
       have hne : ¬ y.s.data.toList = x.s.data.toList := fun e => by rw [e, leS_refl] at h2; cases h2
       simp [hne]
     | true =>
       have he := leS_anti h2 h1
       simp only [if_true, he, Bool.true_eq_false, and_false, false_or, true_and]
       unfold Lib.compareInt
       by_cases a1 : x.a < y.a
       · have : ¬ x.a > y.a := by omega
         simp [a1]; omega
       · by_cases a2 : x.a > y.a
         · simp [a1, a2]
         · have a3 : x.a = y.a := by omega
           by_cases b1 : x.b < y.b
           · simp [a3, b1]
           · by_cases b2 : x.b > y.b
             · simp [a3, b1, b2]
             · simp [a3, b1, b2]
 cases h : leSh (shK y) (shK x) with
 | true =>
   rw [h] at key
   simp only [Bool.not_true]
   rw [← Bool.not_eq_true]
   intro h'; exact key.1 h' rfl
 | false =>
   rw [h] at key
   simp only [Bool.not_false]
   exact key.2 (by simp)

theorem swoK : SWO (ltOf cfK) where
 irrefl x := by
   rw [lt_cfK]
   have := leSh_total (shK x) (shK x)
   rw [Bool.or_self] at this
   simp [this]
 trans x y z h1 h2 := by
   rw [lt_cfK] at *
   simp only [Bool.not_eq_true'] at *
   cases h : leSh (shK z) (shK x) with
   | false => rfl
   | true =>
     have h3 := leSh_total (shK z) (shK y)
     rw [h2] at h3
     have := leSh_trans _ _ _ (by simpa using h3) h
     rw [h1] at this; cases this
 ntrans x y z h1 h2 := by
   rw [lt_cfK] at *
   simp only [Bool.not_eq_false'] at *
   exact leSh_trans _ _ _ h2 h1

theorem totK (x y : K3) (h1 : ltOf cfK x y = false) (h2 : ltOf cfK y x = false) : x = y := by
 rw [lt_cfK] at *
 simp only [Bool.not_eq_false'] at *
 exact shK_inj (leSh_anti h2 h1)

theorem cmpLaysK (blk off size : Nat) (w : World) : CmpLays Try.prog 96 #[] encK 3 cfK blk off size w :=
 fun _ _ _ _ x y => closure x y _

theorem sorted_sh (l : List K3) : (l.mergeSort fun x y => !(ltOf cfK) y x).map shK = sortSh (l.map shK) := by
 apply sortSh_unique
 · exact (List.mergeSort_perm _ _).map _
 · rw [List.pairwise_map]
   have h := List.pairwise_mergeSort (le := fun x y : K3 => !(ltOf cfK) y x) (fun a b c h1 h2 => by
     rw [lt_cfK] at *; simp only [Bool.not_not] at *; exact leSh_trans _ _ _ h1 h2) (fun a b => by
     rw [lt_cfK, lt_cfK]; simp only [Bool.not_not]; exact leSh_total _ _) l
   exact h.imp fun {a b} h => by rw [lt_cfK] at h; simpa using h
end Go.Proofs.Ytigdmkhdmbbfiaa

/- 'slices.SortedFunc(maps.Keys(s), cmp)' at this program, 3: the iterator of 'maps.Keys'. No conditions. -/
namespace Go.Proofs.Ytigdmkhdmbbfiaa
open Go Go.Proofs Go.RowKit Go.Shelf Go.Sort Go.Pv

def rawLeft (W : World) (r m : Nat) : Nat := match W.heap[r]? with
 | some (.mapIter _ _ seen _) => m - seen.size
 | _ => 0
theorem rawLeft_eq {W : World} {b r m : Nat} {ents : Array MapEntry} {since : Nat} {seen : Array Nat} (h : RawIter W b r ents since seen) : rawLeft W r m = m - seen.size := by
 unfold rawLeft; rw [h.it]

set_option maxRecDepth 100000 in
set_option maxHeartbeats 1000000 in
theorem keys_in (F : Fence) (n : Nat) (h111 : F.fn 111) (hro : F.round = none) (hn : 1 ≤ n) (l Bm ad b since : Nat) (ents : Array MapEntry) (key : MapEntry → K3) (hkey : ∀ e ∈ ents.toList, e.key = .agg #[.string (key e).s, .int .i64 (key e).a, .int .i64 (key e).b])
   (J : List K3 → World → Prop)
   (hY : ∀ pre x W, J pre W → pre.length < ents.size → YieldAt F (n - 1) Try.prog l #[.agg #[.string x.s, .int .i64 x.a, .int .i64 x.b]] W fun e W' => e = .returned (.bool true) ∧ J (pre ++ [x]) W' ∧ KeepsWalks W W')
   (W : World) (hJ : AbidesFrom W.heap.size J) (hm : W.cell? ⟨Bm, ad, none⟩ = some (.map (some b))) (hb : W.heap[b]? = some (.map ents since)) (hst : Stamps ents since) (h0 : J [] W) :
   CallsIn F n Try.prog 111 #[.func (.yield l) #[] #[], .pointer (some ⟨Bm, ad, none⟩)] W fun e W' => (∃ v, e = .returned v) ∧ ∃ ss : List K3, ss.Perm (ents.toList.map key) ∧ J ss W' := by
 refine callsIn_of_wp Try.func111 rfl h111 ?_ hro
 simp only [Try.ntmps111, List.size_toArray, List.length_cons, List.length_nil, Nat.reduceAdd, Nat.reduceSub, Array.replicate_succ, Array.replicate_zero, List.push_toArray, List.append_toArray, List.nil_append, List.cons_append]
 gi_wp2_with (first
   | (gi_at_range; refine wpListIn_range_raw _ rfl _ 120 rfl Try.underlying120 rfl hb ?_; intro w0 hrg0 hg0 hs0)
   | gi_in)
 go_frame
 gi_loopw [3] (fun _ wr => ∃ (seen : Array Nat) (vis : List MapEntry), RawIter wr b W.heap.size ents since seen ∧ Came ents seen vis ∧ J (vis.map key) wr)
   (fun _ wr => rawLeft wr W.heap.size ents.size)
 case atStart =>
   exact ⟨#[], [], hrg0, .start _, hJ [] W w0 none h0 hg0 (fun r e => by cases e)⟩
 case round =>
   obtain ⟨seen, vis, hrg, hC, hJs⟩ := hrel
   gi_wp2_with (first
     | (gi_at_next; refine wpListIn_next_raw _ rfl _ rfl rfl hrg hst.1 ?_ ?_)
     | gi_in)
   · intro hall
     gi_wp2
     go_end0
     exact ⟨⟨_, rfl⟩, vis.map key, (hC.perm hst.2.1 fun e he => by simpa using hall e (by simpa using he)).map key, hJs⟩
   · intro e w2 he hs hrg2 hg2 hs2
     have he' : e ∈ ents.toList := by simpa using he
     have hsn : seen.contains e.born = false := by simpa using hs
     have hk := hkey e he'
     have hen := raw_entry (P := Try.prog) hrg2 he' hst.2.1
     rw [hk]
     rw [hk] at hen
     have hJ2 : J (vis.map key) w2 := hJ _ wr w2 (some W.heap.size) hJs hg2 (fun r e => by cases e; exact ⟨Nat.le_refl _, _, hrg.it, rfl⟩)
     have hJ3 : J (vis.map key) (w2.alloc (.cells #[.string (key e).s, .int .i64 (key e).a, .int .i64 (key e).b] 124)) := hJ _ w2 _ none hJ2 (World.grownBy_alloc w2 _ none) (fun r e => by cases e)
     obtain ⟨fn, tmps, assign, body, hy, hR⟩ := hY (vis.map key) (key e) _ hJ3 (by rw [List.length_map]; exact hC.lt he' hsn)
     clear hs2
     gi_wp2
     refine hR.mono ?_
     rintro e3 W3 ⟨rfl, hJ4, hk3⟩
     gi_wp2
     have hrg3 := (hrg2.of_walks (KeepsWalks.alloc _ _)).of_walks hk3
     have hC2 := hC.step he' hsn
     go_roundw
     case rel => exact ⟨_, vis ++ [e], hrg3, hC2, by simpa using hJ4⟩
     case measure =>
       rw [rawLeft_eq hrg3, rawLeft_eq hrg]
       have h1 := hC.lt he' hsn
       have h2 : seen.size = vis.length := by have := congrArg List.length hC.born; simpa using this
       simp; omega

end Go.Proofs.Ytigdmkhdmbbfiaa

/- 'slices.SortedFunc(maps.Keys(s), cmp)' at this program, 4: 'slices.AppendSeq' of nothing, 'slices.Collect', at keys of three cells. No conditions. -/
namespace Go.Proofs.Ytigdmkhdmbbfiaa
open Go Go.Proofs Go.RowKit Go.Shelf Go.Sort Go.Pv

def rfParts : Code → Option (Code × Code)
 | .seq _ (.seq (.seq _ (.block _ (.rangeFunc _ _ a b))) _) => some (a, b)
 | _ => none

noncomputable def apA : Code := match (Try.f127.body).bind rfParts with | some p => p.1 | none => .skip
noncomputable def apB : Code := match (Try.f127.body).bind rfParts with | some p => p.2 | none => .skip

/-- The loop's record: the temporaries as they stood at the entering. -/
noncomputable def apRec (fn : FuncId) (sv : Value) (Bs D : Nat) (st : LoopState) (pend : Option Code) : Loop :=
 { state := st, pending := pend, fn, tmps := #[.slice none 0 0, sv, .pointer (some ⟨Bs, 0, none⟩), undef, .slice none 0 0, undef, sv, undef, undef, undef, undef, undef, undef], params := #[7], assign := apA, body := apB, defers := D }

def cellsK (l : List K3) : List Value := l.flatMap encK
theorem cellsK_length : ∀ l : List K3, (cellsK l).length = l.length * 3
 | [] => rfl
 | x :: l => by
   have := cellsK_length l
   show (encK x ++ cellsK l).length = _
   rw [List.length_append, this]
   simp [encK]; omega
theorem cellsK_snoc (l : List K3) (x : K3) : cellsK (l ++ [x]) = cellsK l ++ encK x := by simp [cellsK]

/-- Between two rounds: the box holds a slice that owns what has come so far; nothing that lay before the call has turned. -/
structure ApAt (w0 : World) (fn : FuncId) (sv : Value) (Bs l D : Nat) (ss : List K3) (W : World) : Prop where
 box : ∃ v, W.heap[Bs]? = some (.cells #[v] 175 (0, 0)) ∧ W.ownsRow w0.heap.size 124 3 v ss.length (cellsK ss) ∧ (v = .slice none 0 0 ↔ ss = [])
 L : W.heap[l]? = some (.loop (apRec fn sv Bs D .ready none))
 K : W.heap[D]? = some (.deferred (some []))
 below : Below w0.heap.size w0 W

theorem ap_abides (w0 : World) (fn : FuncId) (sv : Value) (Bs l D Bn : Nat) (hB : w0.heap.size ≤ Bn) : AbidesFrom Bn (ApAt w0 fn sv Bs l D) := fun s W W' row h hg hrow => by
 have hrow' : ∀ r, row = some r → ∃ o : Obj, W.heap[r]? = some o ∧ o.isWalk = true := fun r e => (hrow r e).2
 obtain ⟨v, hv, hr, hn⟩ := h.box
 exact ⟨⟨v, (grownBy_keeps hg hrow' hv rfl).trans hv, ownsRow_abides_a hr hg hrow', hn⟩, (grownBy_keeps hg hrow' h.L rfl).trans h.L, (grownBy_keeps hg hrow' h.K rfl).trans h.K,
   h.below.grown hg h.below.size (fun k e => Nat.le_trans hB (hrow k e).1)⟩

theorem cells_new (w : World) (cs : List Value) (t : TypeId) : ∀ j u, cs[j]? = some u → (w.alloc (.cells cs.toArray t)).cell? ((⟨w.heap.size, 0, none⟩ : Addr).add j) = some u := by
 intro j u h
 rw [Addr.add_at, Nat.zero_add]
 rw [cell_of_heap (w := w.alloc (.cells cs.toArray t)) (World.alloc_heap_new w _) j]
 simpa using h

theorem cells_new' (w : World) (cs : List Value) (t : TypeId) (n : Nat) (h : w.heap.size = n) : ∀ j u, cs[j]? = some u → (w.alloc (.cells cs.toArray t)).cell? ((⟨n, 0, none⟩ : Addr).add j) = some u := by
 subst h; exact cells_new w cs t

theorem info124 : (Try.prog.info? 124).map (fun i => (i.zero, i.size, i.bytes)) = some (some (.agg #[.string ⟨#[]⟩, .int .i64 0, .int .i64 0]), 3, 32) := by kernel_rfl

set_option maxRecDepth 100000 in
set_option maxHeartbeats 2000000 in
theorem apYield (F : Fence) (m : Nat) (w0 : World) (fn : FuncId) (hfn : F.fn fn) (sv : Value) (Bs l D : Nat) (hBl : Bs ≠ l) (hDl : D ≠ l) (hDB : D ≠ Bs) (h0B : w0.heap.size ≤ Bs) (h0l : w0.heap.size ≤ l)
   (N : Nat) (hN : N ≤ maxLen) (hNb : N * 32 ≤ 140737488355328) (ss : List K3) (x : K3) (W : World) (h : ApAt w0 fn sv Bs l D ss W) (hlen : ss.length < N) :
   YieldAt F m Try.prog l #[.agg #[.string x.s, .int .i64 x.a, .int .i64 x.b]] W fun e W' => e = .returned (.bool true) ∧ ApAt w0 fn sv Bs l D (ss ++ [x]) W' ∧ KeepsWalks W W' := by
 obtain ⟨i0, hi, hz0, hz1, hz2⟩ := info_parts info124
 obtain ⟨v, hv, hrow, _⟩ := h.box
 refine ⟨fn, #[.slice none 0 0, sv, .pointer (some ⟨Bs, 0, none⟩), undef, .slice none 0 0, undef, sv, .agg #[.string x.s, .int .i64 x.a, .int .i64 x.b], undef, undef, undef, undef, undef], apA, apB, by simpa [apRec] using run_yield (P := Try.prog) (args := #[.agg #[.string x.s, .int .i64 x.a, .int .i64 x.b]]) h.L rfl, roundIn_of_wpIn hfn ?_⟩
 have hl0 : l < W.heap.size := (Array.getElem?_eq_some_iff.1 h.L).1
 have hBl0 : Bs < W.heap.size := (Array.getElem?_eq_some_iff.1 hv).1
 have hDl0 : D < W.heap.size := (Array.getElem?_eq_some_iff.1 h.K).1
 simp only [apA, Try.f127, Option.bind, rfParts]
 gi_wp2_with gi_round_op_a
 obtain ⟨X1, hX1⟩ : ∃ X1, W.alloc (.cells #[.string x.s, .int .i64 x.a, .int .i64 x.b] 124) = X1 := ⟨_, rfl⟩
 have hx5 : X1.cell? ⟨W.heap.size, 0, none⟩ = some (.string x.s) ∧ X1.cell? ⟨W.heap.size, 1, none⟩ = some (.int .i64 x.a) ∧ X1.cell? ⟨W.heap.size, 2, none⟩ = some (.int .i64 x.b) := by
   rw [← hX1]
   have := cell_of_heap (World.alloc_heap_new W (.cells #[.string x.s, .int .i64 x.a, .int .i64 x.b] 124))
   exact ⟨this 0, this 1, this 2⟩
 have hs1 : X1.heap.size = W.heap.size + 1 := by rw [← hX1]; simp
 have hold : ∀ k, k < W.heap.size → X1.heap[k]? = W.heap[k]? := fun k hk => by rw [← hX1]; exact Below.heap_alloc _ _ k hk
 have hL1 : X1.heap[l]? = some (.loop (apRec fn sv Bs D .ready none)) := (hold l hl0).trans h.L
 have hv1 : X1.heap[Bs]? = some (.cells #[v] 175 (0, 0)) := (hold Bs hBl0).trans hv
 have hK1 : X1.heap[D]? = some (.deferred (some [])) := (hold D hDl0).trans h.K
 have hrow1 : X1.ownsRow w0.heap.size 124 3 v ss.length (cellsK ss) := by rw [← hX1]; exact hrow.alloc _
 have hb1 : Below w0.heap.size w0 X1 := by rw [← hX1]; exact h.below.alloc h.below.size _
 have hk1 : KeepsWalks W X1 := by rw [← hX1]; exact KeepsWalks.alloc _ _
 rw [hX1]
 clear hX1 hold
 have hl : l < X1.heap.size := (Array.getElem?_eq_some_iff.1 hL1).1
 have hbr := run_beginRound (P := Try.prog) hL1 rfl
 obtain ⟨W2, hW2⟩ : ∃ W2, X1.putObj l (.loop { apRec fn sv Bs D .ready none with state := .busy }) = W2 := ⟨_, rfl⟩
 rw [hW2] at hbr
 have hg2 : X1.grownBy W2 (some l) := by rw [← hW2]; exact grownBy_putObj_a _ _ _
 have hk2 : KeepsWalks W W2 := by rw [← hW2]; exact hk1.trans (KeepsWalks.putObj _ hL1 rfl)
 have hv2 : W2.heap[Bs]? = some (.cells #[v] 175 (0, 0)) := by rw [← hW2]; exact (World.putObj_heap_other hBl).trans hv1
 have hK2 : W2.heap[D]? = some (.deferred (some [])) := by rw [← hW2]; exact (World.putObj_heap_other hDl).trans hK1
 have hL2 : W2.heap[l]? = some (.loop { apRec fn sv Bs D .ready none with state := .busy }) := by rw [← hW2]; exact World.putObj_heap_same hl
 have hrow2 : W2.ownsRow w0.heap.size 124 3 v ss.length (cellsK ss) := hrow1.kept hg2 (ownsRow_ne_a hrow1 hL1 (fun cur e => by cases e))
 have hb2 : Below w0.heap.size w0 W2 := hb1.grown hg2 hb1.size (fun k e => by cases e; exact h0l)
 obtain ⟨hc2, hf2⟩ := cell_of_box_a hv2
 have hBlt : Bs < W2.heap.size := (Array.getElem?_eq_some_iff.1 hv2).1
 have hl2 : l < W2.heap.size := (Array.getElem?_eq_some_iff.1 hL2).1
 have hDlt : D < W2.heap.size := (Array.getElem?_eq_some_iff.1 hK2).1
 have ne_of : ∀ {j : Nat} {o : Obj}, W2.heap[j]? = some o → (∀ cur, o ≠ .cells cur 124 (0, 0)) → some j ≠ v.ownBlock := fun hj hno => by
   rcases ownsRow_ne_a hrow2 hj hno with e | e
   · rw [e]; simp
   · exact fun e' => e e'.symm
 have hs2 : W2.heap.size = W.heap.size + 1 := by rw [← hW2]; simp [hs1]
 have hx2 : W2.cell? ⟨W.heap.size, 0, none⟩ = some (.string x.s) ∧ W2.cell? ⟨W.heap.size, 1, none⟩ = some (.int .i64 x.a) ∧ W2.cell? ⟨W.heap.size, 2, none⟩ = some (.int .i64 x.b) := by
   have hb : W2.heap[W.heap.size]? = X1.heap[W.heap.size]? := by rw [← hW2]; exact World.putObj_heap_other (by omega)
   have hc : ∀ j, W2.cell? ⟨W.heap.size, j, none⟩ = X1.cell? ⟨W.heap.size, j, none⟩ := fun j => World.cell?_of_block hb
   rw [hc, hc, hc]; exact hx5
 obtain ⟨hx20, hx21, hx22⟩ := hx2
 clear hW2 hx5
 refine ⟨W2, hbr, ?_⟩
 simp only [apB, Try.f127, Option.bind, rfParts]
 gi_wp2_with (first
   | (gi_at_builtin; refine wpListIn_append_own _ rfl _ _ 175 rfl w0.heap.size 124 i0 (.agg #[.string ⟨#[]⟩, .int .i64 0, .int .i64 0]) 3 32 Try.underlying175 hi hz0 hz1 hz2 rfl (by decide) _ _ _ rfl (hrow2.alloc _) ⟨W.heap.size + 1, 0, none⟩ 1 1 (encK x) rfl rfl (cells_new' _ _ _ _ hs2) (by intro u hu; simp [encK] at hu; rcases hu with rfl | rfl | rfl <;> rfl) (by omega) (by omega) (by have := hb2.size; simp; omega) ?_; intro v' w3 hown' hg3 hnil3
      have hv3 : w3.heap[Bs]? = some (.cells #[v] 175 (0, 0)) := (hg3.block Bs (by simp; omega) (ne_of hv2 (fun cur e => by cases e))).trans ((Below.heap_alloc _ _ Bs hBlt).trans hv2)
      obtain ⟨hc3, hf3⟩ := cell_of_box_a hv3
      obtain ⟨g', cap', cur', rfl, hbase', hgb', hr1, hr2, hr3, hr4⟩ : ∃ g' cap' cur', v' = .slice (some ⟨g', 0, none⟩) (ss.length + 1) cap' ∧ w0.heap.size ≤ g' ∧ w3.heap[g']? = some (.cells cur' 124 (0, 0)) ∧ ss.length + 1 ≤ cap' ∧ cap' ≤ maxLen ∧ cur'.size = cap' * 3 ∧ cur'.toList.take ((ss.length + 1) * 3) = cellsK ss ++ encK x := by
        rcases hown'.2 with ⟨_, h0⟩ | h'
        · exact absurd h0 (by omega)
        · exact h'
      go_frame)
   | gi_round_op_a)
 have hg3' : (W2.alloc (.cells (encK x).toArray 124)).grownBy w3 v.ownBlock := hg3
 have hL3 : w3.heap[l]? = some (.loop { apRec fn sv Bs D .ready none with state := .busy }) := (hg3'.block l (by simp; omega) (ne_of hL2 (fun cur e => by cases e))).trans ((Below.heap_alloc _ _ l hl2).trans hL2)
 have hK3 : w3.heap[D]? = some (.deferred (some [])) := (hg3'.block D (by simp; omega) (ne_of hK2 (fun cur e => by cases e))).trans ((Below.heap_alloc _ _ D hDlt).trans hK2)
 obtain ⟨w4, hw4⟩ : ∃ w4, w3.setCell ⟨Bs, 0, none⟩ (.slice (some ⟨g', 0, none⟩) (ss.length + 1) cap') = w4 := ⟨_, rfl⟩
 rw [hw4]
 have hg4 : w3.grownBy w4 (some Bs) := by rw [← hw4]; exact grownBy_setCell0_a _ _ _
 have hv4 : w4.heap[Bs]? = some (.cells #[.slice (some ⟨g', 0, none⟩) (ss.length + 1) cap'] 175 (0, 0)) := by rw [← hw4]; exact heap_setCell_box_a _ hv3
 have hL4 : w4.heap[l]? = some (.loop { apRec fn sv Bs D .ready none with state := .busy }) := (hg4.block l (Array.getElem?_eq_some_iff.1 hL3).1 (fun e => hBl (by cases e; rfl))).trans hL3
 have hK4 : w4.heap[D]? = some (.deferred (some [])) := (hg4.block D (Array.getElem?_eq_some_iff.1 hK3).1 (fun e => hDB (by cases e; rfl))).trans hK3
 have hrow4 := hown'.kept hg4 (ownsRow_ne_a hown' hv3 (fun cur e => by cases e))
 have hl4 : l < w4.heap.size := (Array.getElem?_eq_some_iff.1 hL4).1
 have hb3 : Below w0.heap.size w0 w3 := (hb2.alloc hb2.size _).grown hg3' (by have := hb2.size; simp; omega) (fun k e => (hrow2.lt k e).1)
 have hb4 : Below w0.heap.size w0 w4 := hb3.grown hg4 hb3.size (fun k e => by cases e; exact h0B)
 have hk4 : KeepsWalks W w4 := ((hk2.trans (KeepsWalks.alloc _ _)).trans (KeepsWalks.of_grownBy hg3' (ownsRow_not_walk_a (hrow2.alloc _)))).trans (by rw [← hw4]; exact KeepsWalks.setCell _ _ _)
 clear hw4
 refine ⟨_, _, run_endRound none hL4, rfl, ⟨⟨_, (World.putObj_heap_other hBl).trans hv4, ?_, by simp⟩, World.putObj_heap_same hl4, (World.putObj_heap_other hDl).trans hK4, hb4.grown (grownBy_putObj_a _ _ _) hb4.size (fun k e => by cases e; exact h0l)⟩, hk4.trans (KeepsWalks.putObj _ hL4 rfl)⟩
 have := hrow4.kept (grownBy_putObj_a w4 l (.loop { { apRec fn sv Bs D .ready none with state := .busy } with state := if (none : Option Code).isNone then .ready else .done, pending := none })) (ownsRow_ne_a hrow4 hL4 (fun cur e => by cases e))
 rw [cellsK_snoc, List.length_append]
 exact this

end Go.Proofs.Ytigdmkhdmbbfiaa
