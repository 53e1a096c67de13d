import Derived.Test.YtigdmkhdmbbfiaaPvGu
import Derived.Test.YtigdmkhdmbbfiaaPvGw
set_option linter.unusedSimpArgs false
set_option linter.unusedVariables false
namespace Go.Pv
open Go Go.RowKit
abbrev Sh := List UInt8 × Int × Int
def leSh (x y : Sh) : Bool :=
 bif leS x.1 y.1 then
   bif leS y.1 x.1 then (decide (x.2.1 < y.2.1) || (decide (x.2.1 = y.2.1) && decide (x.2.2 ≤ y.2.2))) else true
 else false
theorem zG5 (a : List UInt8) : leS a a = true := by rw [zJA]; simp
theorem zIu {a b : List UInt8} (h1 : leS a b = true) (h2 : leS b a = true) : a = b := by
 rw [zJA, decide_eq_true_eq] at h1 h2; exact List.le_antisymm h1 h2
theorem zFH {x y : Sh} : leSh x y = true ↔ (leS x.1 y.1 = true ∧ leS y.1 x.1 = false) ∨ (x.1 = y.1 ∧ (x.2.1 < y.2.1 ∨ (x.2.1 = y.2.1 ∧ x.2.2 ≤ y.2.2))) := by
 unfold leSh;cases h1 : leS x.1 y.1 with
 | false =>
   simp only [cond_false];constructor
   · intro h; cases h
   · rintro (⟨h, _⟩ | ⟨h, _⟩)
     · cases h
     · rw [h, zG5] at h1; cases h1
 | true =>
   simp only [cond_true];cases h2 : leS y.1 x.1 with
   | false => simp
   | true =>
     simp only [cond_true, Bool.or_eq_true, Bool.and_eq_true, decide_eq_true_eq];constructor
     · intro h; exact .inr ⟨zIu h1 h2, h⟩
     · rintro (⟨_, h⟩ | ⟨_, h⟩)
       · cases h
       · exact h
theorem zEA (x y : Sh) : (leSh x y || leSh y x) = true := by
 rw [Bool.or_eq_true, zFH, zFH];have ht := zJd x.1 y.1;rw [Bool.or_eq_true] at ht;cases h1 : leS x.1 y.1 with
 | false => rw [h1] at ht; exact .inr (.inl ⟨ht.resolve_left (by simp), rfl⟩)
 | true => cases h2 : leS y.1 x.1 with
   | false => exact .inl (.inl ⟨rfl, rfl⟩)
   | true =>
     have he := zIu h1 h2;rcases Int.lt_trichotomy x.2.1 y.2.1 with h | h | h
     · exact .inl (.inr ⟨he, .inl h⟩)
     · rcases Int.le_total x.2.2 y.2.2 with h' | h'
       · exact .inl (.inr ⟨he, .inr ⟨h, h'⟩⟩)
       · exact .inr (.inr ⟨he.symm, .inr ⟨h.symm, h'⟩⟩)
     · exact .inr (.inr ⟨he.symm, .inl h⟩)
theorem zEz (x y z : Sh) (h1 : leSh x y = true) (h2 : leSh y z = true) : leSh x z = true := by
 rw [zFH] at *;rcases h1 with ⟨a1, a2⟩ | ⟨a1, a2⟩ <;> rcases h2 with ⟨b1, b2⟩ | ⟨b1, b2⟩
 · refine .inl ⟨zJc _ _ _ a1 b1, ?_⟩;cases hq : leS z.1 x.1 with
   | false => rfl
   | true => rw [zJc _ _ _ hq a1] at b2; cases b2
 · rw [← b1]; exact .inl ⟨a1, a2⟩
 · rw [a1]; exact .inl ⟨b1, b2⟩
 · refine .inr ⟨a1.trans b1, ?_⟩;omega
theorem zJb {x y : Sh} (h1 : leSh x y = true) (h2 : leSh y x = true) : x = y := by
 rw [zFH] at h1 h2;rcases h1 with ⟨a1, a2⟩ | ⟨a1, a2⟩
 · rcases h2 with ⟨b1, b2⟩ | ⟨b1, b2⟩
   · rw [b1] at a2; cases a2
   · rw [b1, zG5] at a2; cases a2
 · rcases h2 with ⟨b1, b2⟩ | ⟨b1, b2⟩
   · rw [a1, zG5] at b2; cases b2
   · exact Prod.ext a1 (Prod.ext (by omega) (by omega))
def insSh (x : Sh) : List Sh → List Sh
 | [] => [x]
 | y :: l => bif leSh x y then x :: y :: l else y :: insSh x l
def zD2 (l : List Sh) : List Sh := l.foldr insSh []
theorem zFP (x : Sh) : ∀ l, (insSh x l).Perm (x :: l)
 | [] => .refl _
 | y :: l => by
   unfold insSh;cases leSh x y with
   | true => exact .refl _
   | false => exact ((zFP x l).cons y).trans (.swap x y l)
theorem zEN : ∀ l, (zD2 l).Perm l
 | [] => .refl _
 | x :: l => (zFP x (zD2 l)).trans ((zEN l).cons x)
theorem zFO (x : Sh) : ∀ l, l.Pairwise (fun a b => leSh a b = true) → (insSh x l).Pairwise (fun a b => leSh a b = true)
 | [], _ => by simp [insSh]
 | y :: l, h => by
   unfold insSh;cases hx : leSh x y with
   | true =>
     simp only [cond_true];refine List.pairwise_cons.2 ⟨fun z hz => ?_, h⟩;rcases List.mem_cons.1 hz with rfl | hz
     · exact hx
     · exact zEz _ _ _ hx ((List.pairwise_cons.1 h).1 z hz)
   | false =>
     simp only [cond_false];have hyx : leSh y x = true := by have := zEA x y; rw [hx] at this; simpa using this
     refine List.pairwise_cons.2 ⟨fun z hz => ?_, zFO x l (List.pairwise_cons.1 h).2⟩;rcases List.mem_cons.1 ((zFP x l).mem_iff.1 hz) with rfl | hz
     · exact hyx
     · exact (List.pairwise_cons.1 h).1 z hz
theorem zDF : ∀ l, (zD2 l).Pairwise (fun a b => leSh a b = true)
 | [] => .nil
 | x :: l => zFO x _ (zDF l)
theorem zDE {l l' : List Sh} (h : l'.Perm l) (hs : l'.Pairwise (fun a b => leSh a b = true)) : l' = zD2 l :=
 List.Perm.eq_of_pairwise (le := fun a b => leSh a b = true) (fun _ _ _ _ h1 h2 => zJb h1 h2) hs (zDF l) (h.trans (zEN l).symm)
def shOf : List (PV × PV) → Option (List Sh)
 | [] => some []
 | p :: es => match p.1, shOf es with
   | .agg [.sc (.string s), .sc (.int .i64 a), .sc (.int .i64 b)], some l => bif Nat.ble s.data.size 1000000 then some ((s.data.toList, a, b) :: l) else none
   | _, _ => none
def encSh (x : Sh) : List Value := [Go.Proofs.encStr x.1, .int .i64 x.2.1, .int .i64 x.2.2]
def zFg (l : List Sh) : Rows := l.map fun x => (encSh x).map .sc
def zIm (fS fK fC : FuncId) (f : FuncId) (args : List PV) (h : HL) (c : CL) : Option (PV × HL × CL) :=
 bif Nat.beq f fS then
   match args with
   | [.func (.func g) [] [.ptr kb 1 0 0], .func (.func gc) [] []] => bif Nat.beq g fK && Nat.beq gc fC then
       match hGet h kb with
       | some (.rows 1 [[.map km]]) => match hGet h km with
         | some (.map es _ _) => match shOf es with
           | some ss => bif Nat.ble es.length 1000000 then some (.lit false 3 (zFg (zD2 ss)), h, c) else none
           | none => none
         | _ => none
       | _ => none
     else none
   | _ => none
 else none
end Go.Pv
