import Derived.Shelf.SlIter.Nil
import Derived.Test.YtjihcgcbnbaclaaGreatDoorPvGy
set_option linter.unusedSimpArgs false
set_option linter.unusedVariables false
namespace Go.Pv
open Go Go.RowKit Go.Maps Go.Proofs Go.Sort
open Go.WideMaps (keyOf_string_mk)
theorem arr1 {a : Array Value} (h : a.size = 1) : ∃ x, a = #[x] := by
 obtain ⟨l⟩ := a
 match l, h with
 | [x], _ => exact ⟨x, rfl⟩
def leS : List UInt8 → List UInt8 → Bool
 | [], _ => true
 | _ :: _, [] => false
 | a :: xs, b :: ys => bif Nat.blt a.toNat b.toNat then true else bif Nat.beq a.toNat b.toNat then leS xs ys else false
theorem leS_eq : ∀ (x y : List UInt8), leS x y = decide (x ≤ y)
 | [], y => by simp [leS]
 | a :: xs, [] => by simp [leS]
 | a :: xs, b :: ys => by
   have ih := leS_eq xs ys;unfold leS;cases h1 : Nat.blt a.toNat b.toNat with
   | true =>
     have : a < b := by rw [Nat.blt_eq] at h1; exact UInt8.lt_iff_toNat_lt.2 h1
     simp only [cond_true];symm;rw [decide_eq_true_eq, List.cons_le_cons_iff];exact .inl this
   | false =>
     have hn : ¬ a < b := fun h => by
       have := UInt8.lt_iff_toNat_lt.1 h;rw [← Nat.blt_eq, h1] at this; cases this
     cases h2 : Nat.beq a.toNat b.toNat with
     | true =>
       have he : a = b := UInt8.toNat_inj.1 (Nat.eq_of_beq_eq_true h2);subst he;simp only [cond_false, cond_true];rw [ih];simp [List.cons_le_cons_iff]
     | false =>
       have hne : a ≠ b := fun e => by subst e; simp at h2
       simp only [cond_false];symm;rw [decide_eq_false_iff_not, List.cons_le_cons_iff]
       rintro (h | ⟨h, _⟩)
       · exact hn h
       · exact hne h
def insS (x : List UInt8) : List (List UInt8) → List (List UInt8)
 | [] => [x]
 | y :: l => bif leS x y then x :: y :: l else y :: insS x l
def sortS (l : List (List UInt8)) : List (List UInt8) := l.foldr insS []
theorem leS_trans (a b c : List UInt8) (h1 : leS a b = true) (h2 : leS b c = true) : leS a c = true := by
 rw [leS_eq, decide_eq_true_eq] at *;exact List.le_trans h1 h2
theorem leS_total (a b : List UInt8) : (leS a b || leS b a) = true := by
 rw [leS_eq, leS_eq, Bool.or_eq_true, decide_eq_true_eq, decide_eq_true_eq];exact List.le_total a b
theorem insS_perm (x : List UInt8) : ∀ l, (insS x l).Perm (x :: l)
 | [] => .refl _
 | y :: l => by
   unfold insS;cases leS x y with
   | true => exact .refl _
   | false => exact ((insS_perm x l).cons y).trans (.swap x y l)
theorem sortS_perm : ∀ l, (sortS l).Perm l
 | [] => .refl _
 | x :: l => (insS_perm x (sortS l)).trans ((sortS_perm l).cons x)
theorem insS_sorted (x : List UInt8) : ∀ l, l.Pairwise (fun a b => leS a b = true) → (insS x l).Pairwise (fun a b => leS a b = true)
 | [], _ => by simp [insS]
 | y :: l, h => by
   unfold insS;cases hx : leS x y with
   | true =>
     simp only [cond_true];refine List.pairwise_cons.2 ⟨fun z hz => ?_, h⟩;rcases List.mem_cons.1 hz with rfl | hz
     · exact hx
     · exact leS_trans _ _ _ hx ((List.pairwise_cons.1 h).1 z hz)
   | false =>
     simp only [cond_false];have hyx : leS y x = true := by have := leS_total x y; rw [hx] at this; simpa using this
     refine List.pairwise_cons.2 ⟨fun z hz => ?_, insS_sorted x l (List.pairwise_cons.1 h).2⟩;rcases List.mem_cons.1 ((insS_perm x l).mem_iff.1 hz) with rfl | hz
     · exact hyx
     · exact (List.pairwise_cons.1 h).1 z hz
theorem sortS_sorted : ∀ l, (sortS l).Pairwise (fun a b => leS a b = true)
 | [] => .nil
 | x :: l => insS_sorted x _ (sortS_sorted l)
theorem sortS_merge {l l' : List (List UInt8)} (h : l'.Perm l) : (l'.mergeSort fun x y => decide (x ≤ y)) = sortS l := by
 refine List.Perm.eq_of_pairwise (le := fun a b => leS a b = true) (fun a b _ _ h1 h2 => ?_) ?_ (sortS_sorted l) (((List.mergeSort_perm _ _).trans h).trans (sortS_perm l).symm)
 · rw [leS_eq, decide_eq_true_eq] at h1 h2;exact List.le_antisymm h1 h2
 · have := List.pairwise_mergeSort (le := leS) leS_trans leS_total l';rw [show (fun x y : List UInt8 => decide (x ≤ y)) = leS from by funext x y; rw [leS_eq]];exact this
def strsOf : List (PV × PV) → Option (List (List UInt8))
 | [] => some []
 | p :: es => match p.1, strsOf es with
   | .sc (.string s), some l => bif Nat.ble s.data.size 1000000 then some (s.data.toList :: l) else none
   | _, _ => none
def strRows (l : List (List UInt8)) : Rows := l.map fun s => [.sc (encStr s)]
def sortedO (fS fK : FuncId) (f : FuncId) (args : List PV) (h : HL) (c : CL) : Option (PV × HL × CL) :=
 bif Nat.beq f fS then
   match args with
   | [.func (.func g) [] [.ptr kb 1 0 0]] => bif Nat.beq g fK then
       match hGet h kb with
       | some (.rows 1 [[.map km]]) => match hGet h km with
         | some (.map es _ _) => match strsOf es with
           | some ss => bif Nat.ble es.length 1000000 then some (.lit false 1 (strRows (sortS ss)), h, c) else none
           | none => none
         | _ => none
       | _ => none
     else none
   | _ => none
 else none
variable {P : Program}
end Go.Pv
