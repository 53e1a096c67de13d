import Derived.Deep.RegionHeld3
import Derived.Test.YtjihcgcbnbaclaaGreatDoorEOrc
import Derived.Test.YtjihcgcbnbaclaaGreatDoorPvGx
set_option linter.unusedSimpArgs false
set_option linter.unusedVariables false
namespace Go.Proofs.YtjihcgcbnbaclaaGreatDoor.Y8
open Go Go.Proofs Go.RowKit Go.Shelf Go.Sort Go.Pv
def orI (a b c : Int) : Int := if a = 0 then (if b = 0 then c else b) else a
set_option maxHeartbeats 1000000 in
theorem cmpOr (a b c : Int) (B : Nat) (w : World) (h0 : w.cell? ⟨B, 0, none⟩ = some (.int .i64 a)) (h1 : w.cell? ⟨B, 1, none⟩ = some (.int .i64 b)) (h2 : w.cell? ⟨B, 2, none⟩ = some (.int .i64 c)) :
   Calls Tryz.prog 50 #[.slice (some ⟨B, 0, none⟩) 3 3] w fun e w' => e = .returned (.int .i64 (orI a b c)) ∧ w' = w := by
 unfold orI;by_cases ha : a = 0
 · by_cases hb : b = 0
   · by_cases hc : c = 0
     all_goals
       go_enter Tryz.func50, Tryz.ntmps50
       go_wp2
       refine wp_loop_rounds 4 ?_;rw [rounds_succ]
       go_wp2
       rw [rounds_succ]
       go_wp2
       rw [rounds_succ]
       go_wp2
     · rw [rounds_succ]
       go_wp2
       go_ret
       exact ⟨by simp [ha, hb, hc], rfl⟩
     · go_ret
       exact ⟨by simp [ha, hb], rfl⟩
   · go_enter Tryz.func50, Tryz.ntmps50
     go_wp2
     refine wp_loop_rounds 4 ?_;rw [rounds_succ]
     go_wp2
     rw [rounds_succ]
     go_wp2
     go_ret
     exact ⟨by simp [ha, hb], rfl⟩
 · go_enter Tryz.func50, Tryz.ntmps50
   go_wp2
   refine wp_loop_rounds 4 ?_;rw [rounds_succ]
   go_wp2
   go_ret
   exact ⟨by simp [ha], rfl⟩
theorem cell_new (w : World) {n : Nat} (h : w.heap.size = n) (cs : Array Value) (T : TypeId) (j : Nat) : ((w.alloc (.cells cs T)).drew).cell? ⟨n, j, none⟩ = cs[j]? := by
 subst h;exact cell_of_heap (w := w.alloc (.cells cs T)) (World.alloc_heap_new w _) j
structure K3 where
 s : ByteArray
 a : Int
 b : Int
 deriving Inhabited
def encK (x : K3) : List Value := [.string x.s, .int .i64 x.a, .int .i64 x.b]
def cfK (x y : K3) : Int := orI (Lib.compareBytes x.s.data.toList y.s.data.toList) (Lib.compareInt x.a y.a) (Lib.compareInt x.b y.b)
set_option maxHeartbeats 4000000 in
set_option maxRecDepth 100000 in
theorem closure (x y : K3) (W : World) : Calls Tryz.prog 49 #[.agg #[.string x.s, .int .i64 x.a, .int .i64 x.b], .agg #[.string y.s, .int .i64 y.a, .int .i64 y.b]] W fun e w' => e = .returned (.int .i64 (cfK x y)) ∧ ∃ q os', w' = grow (W.drewN q) os' := by
 have hS := fun a b W' => Any.strings_Compare Tryz.cmpStr a b W';change ∀ a b W', Calls Tryz.prog 51 _ _ _ at hS;have hI := fun a b W' => AnyG.cmp_Compare_int Tryz.cmpInt a b W';change ∀ a b W', Calls Tryz.prog 52 _ _ _ at hI;obtain ⟨xs, xa, xb⟩ := x;obtain ⟨ys, ya, yb⟩ := y;show Calls Tryz.prog 49 _ W fun e w' => e = .returned (.int .i64 (orI (Lib.compareBytes xs.data.toList ys.data.toList) (Lib.compareInt xa ya) (Lib.compareInt xb yb))) ∧ _;have hO := fun a b c B w h0 h1 h2 => cmpOr a b c B w h0 h1 h2;have hSS := hS xs ys;have hA := hI xa ya;have hB := hI xb yb;clear hS hI;generalize Lib.compareBytes xs.data.toList ys.data.toList = r1 at hSS ⊢;generalize Lib.compareInt xa ya = r2 at hA ⊢;generalize Lib.compareInt xb yb = r3 at hB ⊢
 go_enter Tryz.func49, Tryz.ntmps49
 go_wp2
 go_region_held3 (fun w' => w'.cell? ⟨W.heap.size, 0, none⟩ = some (.string xs) ∧ w'.cell? ⟨W.heap.size, 1, none⟩ = some (.int .i64 xa) ∧ w'.cell? ⟨W.heap.size, 2, none⟩ = some (.int .i64 xb) ∧ w'.cell? ⟨W.heap.size + 1, 0, none⟩ = some (.string ys) ∧ w'.cell? ⟨W.heap.size + 1, 1, none⟩ = some (.int .i64 ya) ∧ w'.cell? ⟨W.heap.size + 1, 2, none⟩ = some (.int .i64 yb)) (go_keep)
   (first
     | (go_at_call 51; refine (hSS _).mono ?_; rintro e w' ⟨rfl, rfl⟩)
     | (go_at_call_has 52 xa; refine (hA _).mono ?_; rintro e w' ⟨rfl, rfl⟩)
     | (go_at_call_has 52 xb; refine (hB _).mono ?_; rintro e w' ⟨rfl, rfl⟩)
     | (go_at_call 50; refine (hO r1 r2 r3 _ _ (cell_new _ (by simp) _ _ 0) (cell_new _ (by simp) _ _ 1) (cell_new _ (by simp) _ _ 2)).mono ?_; rintro e w' ⟨rfl, rfl⟩))
 all_goals go_wp2
 go_ret
 exact ⟨rfl, 1, _, by
   show ((((W.drewN 1).alloc _).alloc _).alloc _) = _;rw [alloc_eq_grow, alloc_eq_grow, alloc_eq_grow, grow_grow, grow_grow]⟩
def shK (x : K3) : Sh := (x.s.data.toList, x.a, x.b)
theorem shK_inj {x y : K3} (h : shK x = shK y) : x = y := by
 obtain ⟨xs, xa, xb⟩ := x;obtain ⟨ys, ya, yb⟩ := y;simp only [shK, Prod.mk.injEq] at h;obtain ⟨h1, rfl, rfl⟩ := h
 have : xs = ys := by
   obtain ⟨⟨a⟩⟩ := xs; obtain ⟨⟨b⟩⟩ := ys;simp at h1; rw [h1]
 rw [this]
theorem cb_eq : ∀ a b : List UInt8, Lib.compareBytes a b = if leS a b = true then (if leS b a = true then 0 else -1) else 1
 | [], [] => by simp [Lib.compareBytes, leS]
 | [], _ :: _ => by simp [Lib.compareBytes, leS]
 | _ :: _, [] => by simp [Lib.compareBytes, leS]
 | a :: xs, b :: ys => by
   have ih := cb_eq xs ys;simp only [Lib.compareBytes, leS];by_cases h1 : a < b
   · have h1' : a.toNat < b.toNat := UInt8.lt_iff_toNat_lt.1 h1;have h2 : Nat.blt a.toNat b.toNat = true := (by rw [Nat.blt_eq]; exact h1')
     have h3 : Nat.blt b.toNat a.toNat = false := by rw [← Bool.not_eq_true, Nat.blt_eq]; omega
     have h4 : Nat.beq b.toNat a.toNat = false := by rw [← Bool.not_eq_true, Nat.beq_eq]; omega
     simp [h1, h2, h3, h4]
   · by_cases h5 : b < a
     · have h1' : b.toNat < a.toNat := UInt8.lt_iff_toNat_lt.1 h5;have h2 : Nat.blt b.toNat a.toNat = true := (by rw [Nat.blt_eq]; exact h1')
       have h3 : Nat.blt a.toNat b.toNat = false := by rw [← Bool.not_eq_true, Nat.blt_eq]; omega
       have h4 : Nat.beq a.toNat b.toNat = false := by rw [← Bool.not_eq_true, Nat.beq_eq]; omega
       simp [h1, h5, h3, h4]
     · have h6 : ¬ a.toNat < b.toNat := fun h => h1 (UInt8.lt_iff_toNat_lt.2 h);have h7 : ¬ b.toNat < a.toNat := fun h => h5 (UInt8.lt_iff_toNat_lt.2 h);have h8 : Nat.blt a.toNat b.toNat = false := by rw [← Bool.not_eq_true, Nat.blt_eq]; omega
       have h9 : Nat.blt b.toNat a.toNat = false := by rw [← Bool.not_eq_true, Nat.blt_eq]; omega
       have h10 : Nat.beq a.toNat b.toNat = true := by rw [Nat.beq_eq]; omega
       have h11 : Nat.beq b.toNat a.toNat = true := by rw [Nat.beq_eq]; omega
       simp [h1, h5, h8, h9, h10, h11, ih]
theorem lt_cfK (x y : K3) : ltOf cfK x y = !leSh (shK y) (shK x) := by
 have hl := leSh_iff (x := shK y) (y := shK x);unfold ltOf cfK orI;rw [cb_eq]
 have key : (decide ((if (if leS x.s.data.toList y.s.data.toList = true then (if leS y.s.data.toList x.s.data.toList = true then (0 : Int) else -1) else 1) = 0 then (if Lib.compareInt x.a y.a = 0 then Lib.compareInt x.b y.b else Lib.compareInt x.a y.a) else (if leS x.s.data.toList y.s.data.toList = true then (if leS y.s.data.toList x.s.data.toList = true then (0 : Int) else -1) else 1)) < 0) = true) ↔ ¬ leSh (shK y) (shK x) = true := by
   rw [decide_eq_true_eq, hl];simp only [shK];have ht := leS_total x.s.data.toList y.s.data.toList;rw [Bool.or_eq_true] at ht;cases h1 : leS x.s.data.toList y.s.data.toList with
   | false =>
     rw [h1] at ht;have h2 : leS y.s.data.toList x.s.data.toList = true := ht.resolve_left (by simp);simp [h2]
   | true =>
     cases h2 : leS y.s.data.toList x.s.data.toList with
     | false =>
       have hne : ¬ y.s.data.toList = x.s.data.toList := fun e => by rw [e, leS_refl] at h2; cases h2
       simp [hne]
     | true =>
       have he := leS_anti h2 h1;simp only [if_true, he, Bool.true_eq_false, and_false, false_or, true_and];unfold Lib.compareInt;by_cases a1 : x.a < y.a
       · have : ¬ x.a > y.a := by omega
         simp [a1]; omega
       · by_cases a2 : x.a > y.a
         · simp [a1, a2]
         · have a3 : x.a = y.a := by omega
           by_cases b1 : x.b < y.b
           · simp [a3, b1]
           · by_cases b2 : x.b > y.b
             · simp [a3, b1, b2]
             · simp [a3, b1, b2]
 cases h : leSh (shK y) (shK x) with
 | true =>
   rw [h] at key;simp only [Bool.not_true];rw [← Bool.not_eq_true];intro h'; exact key.1 h' rfl
 | false =>
   rw [h] at key;simp only [Bool.not_false];exact key.2 (by simp)
theorem swoK : SWO (ltOf cfK) where
 irrefl x := by
   rw [lt_cfK];have := leSh_total (shK x) (shK x);rw [Bool.or_self] at this;simp [this]
 trans x y z h1 h2 := by
   rw [lt_cfK] at *;simp only [Bool.not_eq_true'] at *;cases h : leSh (shK z) (shK x) with
   | false => rfl
   | true =>
     have h3 := leSh_total (shK z) (shK y);rw [h2] at h3;have := leSh_trans _ _ _ (by simpa using h3) h;rw [h1] at this; cases this
 ntrans x y z h1 h2 := by
   rw [lt_cfK] at *;simp only [Bool.not_eq_false'] at *;exact leSh_trans _ _ _ h2 h1
theorem totK (x y : K3) (h1 : ltOf cfK x y = false) (h2 : ltOf cfK y x = false) : x = y := by
 rw [lt_cfK] at *;simp only [Bool.not_eq_false'] at *;exact shK_inj (leSh_anti h2 h1)
theorem cmpLaysK (blk off size : Nat) (w : World) : CmpLays Tryz.prog 49 #[] encK 3 cfK blk off size w :=
 fun _ _ _ _ x y => closure x y _
theorem sorted_sh (l : List K3) : (l.mergeSort fun x y => !(ltOf cfK) y x).map shK = sortSh (l.map shK) := by
 apply sortSh_unique
 · exact (List.mergeSort_perm _ _).map _
 · rw [List.pairwise_map]
   have h := List.pairwise_mergeSort (le := fun x y : K3 => !(ltOf cfK) y x) (fun a b c h1 h2 => by
     rw [lt_cfK] at *; simp only [Bool.not_not] at *; exact leSh_trans _ _ _ h1 h2) (fun a b => by
     rw [lt_cfK, lt_cfK]; simp only [Bool.not_not]; exact leSh_total _ _) l
   exact h.imp fun {a b} h => by rw [lt_cfK] at h; simpa using h
end Go.Proofs.YtjihcgcbnbaclaaGreatDoor.Y8
