import Derived.Test.YtjihcgcbnbaclaaGreatDoorPvGu
import Derived.Test.YtjihcgcbnbaclaaGreatDoorPvGw
set_option linter.unusedSimpArgs false
set_option linter.unusedVariables false
namespace Go.Pv
open Go Go.RowKit
abbrev Sh := List UInt8 × Int × Int
def leSh (x y : Sh) : Bool :=
 bif leS x.1 y.1 then
   bif leS y.1 x.1 then (decide (x.2.1 < y.2.1) || (decide (x.2.1 = y.2.1) && decide (x.2.2 ≤ y.2.2))) else true
 else false
theorem leS_refl (a : List UInt8) : leS a a = true := by rw [leS_eq]; simp
theorem leS_anti {a b : List UInt8} (h1 : leS a b = true) (h2 : leS b a = true) : a = b := by
 rw [leS_eq, decide_eq_true_eq] at h1 h2; exact List.le_antisymm h1 h2
theorem leSh_iff {x y : Sh} : leSh x y = true ↔ (leS x.1 y.1 = true ∧ leS y.1 x.1 = false) ∨ (x.1 = y.1 ∧ (x.2.1 < y.2.1 ∨ (x.2.1 = y.2.1 ∧ x.2.2 ≤ y.2.2))) := by
 unfold leSh;cases h1 : leS x.1 y.1 with
 | false =>
   simp only [cond_false];constructor
   · intro h; cases h
   · rintro (⟨h, _⟩ | ⟨h, _⟩)
     · cases h
     · rw [h, leS_refl] at h1; cases h1
 | true =>
   simp only [cond_true];cases h2 : leS y.1 x.1 with
   | false => simp
   | true =>
     simp only [cond_true, Bool.or_eq_true, Bool.and_eq_true, decide_eq_true_eq];constructor
     · intro h; exact .inr ⟨leS_anti h1 h2, h⟩
     · rintro (⟨_, h⟩ | ⟨_, h⟩)
       · cases h
       · exact h
theorem leSh_total (x y : Sh) : (leSh x y || leSh y x) = true := by
 rw [Bool.or_eq_true, leSh_iff, leSh_iff];have ht := leS_total x.1 y.1;rw [Bool.or_eq_true] at ht;cases h1 : leS x.1 y.1 with
 | false => rw [h1] at ht; exact .inr (.inl ⟨ht.resolve_left (by simp), rfl⟩)
 | true => cases h2 : leS y.1 x.1 with
   | false => exact .inl (.inl ⟨rfl, rfl⟩)
   | true =>
     have he := leS_anti h1 h2;rcases Int.lt_trichotomy x.2.1 y.2.1 with h | h | h
     · exact .inl (.inr ⟨he, .inl h⟩)
     · rcases Int.le_total x.2.2 y.2.2 with h' | h'
       · exact .inl (.inr ⟨he, .inr ⟨h, h'⟩⟩)
       · exact .inr (.inr ⟨he.symm, .inr ⟨h.symm, h'⟩⟩)
     · exact .inr (.inr ⟨he.symm, .inl h⟩)
theorem leSh_trans (x y z : Sh) (h1 : leSh x y = true) (h2 : leSh y z = true) : leSh x z = true := by
 rw [leSh_iff] at *;rcases h1 with ⟨a1, a2⟩ | ⟨a1, a2⟩ <;> rcases h2 with ⟨b1, b2⟩ | ⟨b1, b2⟩
 · refine .inl ⟨leS_trans _ _ _ a1 b1, ?_⟩;cases hq : leS z.1 x.1 with
   | false => rfl
   | true => rw [leS_trans _ _ _ hq a1] at b2; cases b2
 · rw [← b1]; exact .inl ⟨a1, a2⟩
 · rw [a1]; exact .inl ⟨b1, b2⟩
 · refine .inr ⟨a1.trans b1, ?_⟩;omega
theorem leSh_anti {x y : Sh} (h1 : leSh x y = true) (h2 : leSh y x = true) : x = y := by
 rw [leSh_iff] at h1 h2;rcases h1 with ⟨a1, a2⟩ | ⟨a1, a2⟩
 · rcases h2 with ⟨b1, b2⟩ | ⟨b1, b2⟩
   · rw [b1] at a2; cases a2
   · rw [b1, leS_refl] at a2; cases a2
 · rcases h2 with ⟨b1, b2⟩ | ⟨b1, b2⟩
   · rw [a1, leS_refl] at b2; cases b2
   · exact Prod.ext a1 (Prod.ext (by omega) (by omega))
def insSh (x : Sh) : List Sh → List Sh
 | [] => [x]
 | y :: l => bif leSh x y then x :: y :: l else y :: insSh x l
def sortSh (l : List Sh) : List Sh := l.foldr insSh []
theorem insSh_perm (x : Sh) : ∀ l, (insSh x l).Perm (x :: l)
 | [] => .refl _
 | y :: l => by
   unfold insSh;cases leSh x y with
   | true => exact .refl _
   | false => exact ((insSh_perm x l).cons y).trans (.swap x y l)
theorem sortSh_perm : ∀ l, (sortSh l).Perm l
 | [] => .refl _
 | x :: l => (insSh_perm x (sortSh l)).trans ((sortSh_perm l).cons x)
theorem insSh_sorted (x : Sh) : ∀ l, l.Pairwise (fun a b => leSh a b = true) → (insSh x l).Pairwise (fun a b => leSh a b = true)
 | [], _ => by simp [insSh]
 | y :: l, h => by
   unfold insSh;cases hx : leSh x y with
   | true =>
     simp only [cond_true];refine List.pairwise_cons.2 ⟨fun z hz => ?_, h⟩;rcases List.mem_cons.1 hz with rfl | hz
     · exact hx
     · exact leSh_trans _ _ _ hx ((List.pairwise_cons.1 h).1 z hz)
   | false =>
     simp only [cond_false];have hyx : leSh y x = true := by have := leSh_total x y; rw [hx] at this; simpa using this
     refine List.pairwise_cons.2 ⟨fun z hz => ?_, insSh_sorted x l (List.pairwise_cons.1 h).2⟩;rcases List.mem_cons.1 ((insSh_perm x l).mem_iff.1 hz) with rfl | hz
     · exact hyx
     · exact (List.pairwise_cons.1 h).1 z hz
theorem sortSh_sorted : ∀ l, (sortSh l).Pairwise (fun a b => leSh a b = true)
 | [] => .nil
 | x :: l => insSh_sorted x _ (sortSh_sorted l)
theorem sortSh_unique {l l' : List Sh} (h : l'.Perm l) (hs : l'.Pairwise (fun a b => leSh a b = true)) : l' = sortSh l :=
 List.Perm.eq_of_pairwise (le := fun a b => leSh a b = true) (fun _ _ _ _ h1 h2 => leSh_anti h1 h2) hs (sortSh_sorted l) (h.trans (sortSh_perm l).symm)
def shOf : List (PV × PV) → Option (List Sh)
 | [] => some []
 | p :: es => match p.1, shOf es with
   | .agg [.sc (.string s), .sc (.int .i64 a), .sc (.int .i64 b)], some l => bif Nat.ble s.data.size 1000000 then some ((s.data.toList, a, b) :: l) else none
   | _, _ => none
def encSh (x : Sh) : List Value := [Go.Proofs.encStr x.1, .int .i64 x.2.1, .int .i64 x.2.2]
def shRows (l : List Sh) : Rows := l.map fun x => (encSh x).map .sc
def sortedFO (fS fK fC : FuncId) (f : FuncId) (args : List PV) (h : HL) (c : CL) : Option (PV × HL × CL) :=
 bif Nat.beq f fS then
   match args with
   | [.func (.func g) [] [.ptr kb 1 0 0], .func (.func gc) [] []] => bif Nat.beq g fK && Nat.beq gc fC then
       match hGet h kb with
       | some (.rows 1 [[.map km]]) => match hGet h km with
         | some (.map es _ _) => match shOf es with
           | some ss => bif Nat.ble es.length 1000000 then some (.lit false 3 (shRows (sortSh ss)), h, c) else none
           | none => none
         | _ => none
       | _ => none
     else none
   | _ => none
 else none
end Go.Pv
