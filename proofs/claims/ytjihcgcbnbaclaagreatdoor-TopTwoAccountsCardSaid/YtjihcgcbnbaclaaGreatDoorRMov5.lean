import Derived.Test.YtjihcgcbnbaclaaGreatDoorRMov2
set_option linter.unusedSimpArgs false
set_option linter.unusedVariables false
set_option maxRecDepth 100000
namespace Go.Proofs.YtjihcgcbnbaclaaGreatDoor.Y9
open Go Go.Pv Go.Proofs.YtjihcgcbnbaclaaGreatDoor
def goneR (p : ByteArray) (f e d : Int) : Int → List Move → List Lot
 | _, [] => []
 | w, m :: l => if m.part = p ∧ ¬ m.kind = 0 then (if 0 < min e (w + m.count) - max f w then [⟨p, min e (w + m.count) - max f w, d, m.day, m.kind⟩] else []) ++ goneR p f e d (w + m.count) l else goneR p f e d w l
def wentR (p : ByteArray) : Int → List Move → Int
 | w, [] => w
 | w, m :: l => if m.part = p ∧ ¬ m.kind = 0 then wentR p (w + m.count) l else wentR p w l
def leftR (p : ByteArray) (f e d w : Int) : List Lot := if 0 < e - max f w then [⟨p, e - max f w, d, -1, -1⟩] else []
def lotsGo (p : ByteArray) (ms : List Move) : Int → List Move → List Lot
 | _, [] => []
 | c, m :: l => if m.part = p ∧ m.kind = 0 then goneR p c (c + m.count) m.day 0 ms ++ leftR p c (c + m.count) m.day (wentR p 0 ms) ++ lotsGo p ms (c + m.count) l else lotsGo p ms c l
def lotsR (p : ByteArray) (ms : List Move) : List Lot := lotsGo p ms 0 ms
section
variable {p : ByteArray} {ms l : List Move} {m : Move} {acc A B : List Lot} {f e d w c W : Int}
end
theorem gone_len (p : ByteArray) (f e d : Int) : ∀ (l : List Move) (w : Int), (goneR p f e d w l).length ≤ l.length
 | [], _ => Nat.le_refl _
 | m :: l, w => by
   have h1 := gone_len p f e d l (w + m.count);have h2 := gone_len p f e d l w;unfold goneR;split
   · split
     · rw [List.length_append, List.length_cons, List.length_cons, List.length_nil]; omega
     · rw [List.nil_append, List.length_cons]; omega
   · rw [List.length_cons]; omega
theorem lotsGo_len (p : ByteArray) (ms : List Move) : ∀ (l : List Move) (c : Int), (lotsGo p ms c l).length ≤ l.length * (ms.length + 1)
 | [], _ => Nat.zero_le _
 | m :: l, c => by
   have h1 := lotsGo_len p ms l (c + m.count);have h2 := lotsGo_len p ms l c;have h3 := gone_len p c (c + m.count) m.day ms 0;have h4 : (leftR p c (c + m.count) m.day (wentR p 0 ms)).length ≤ 1 := by unfold leftR; split <;> simp
   unfold lotsGo;rw [List.length_cons, Nat.succ_mul];split
   · rw [List.length_append, List.length_append]; omega
   · omega
theorem lotsR_len (p : ByteArray) (ms : List Move) (h : ms.length ≤ 305) : (lotsR p ms).length ≤ 93330 := by
 have h1 := lotsGo_len p ms ms 0;have h2 : ms.length * (ms.length + 1) ≤ 305 * 306 := Nat.mul_le_mul h (by omega);unfold lotsR; omega
def lotsT (ts : List Term) (ms : List Move) : List Lot := ts.flatMap fun t => lotsR t.part ms
theorem lotsT_len (ts : List Term) (ms : List Move) (h : ms.length ≤ 305) : (lotsT ts ms).length ≤ ts.length * 93330 := by
 unfold lotsT;induction ts with
 | nil => simp
 | cons t ts ih =>
   have := lotsR_len t.part ms h;rw [List.flatMap_cons, List.length_append, List.length_cons, Nat.succ_mul]; omega
end Go.Proofs.YtjihcgcbnbaclaaGreatDoor.Y9
