/- Ends of functions; results. -/
import Derived.Test.YtjmjiegplnfiiaaPvY
namespace Go.Pv
open Go
section
variable {P : Program} {R : PV → Heap → (Nat → Nat) → Prop} {r : Nat → PV} {h : Heap} {cnt : Nat → Nat}

theorem end1 {t : Nat} {v : PV} (hv : r t = v) (hR : R v h cnt) : endQ P [.tmp t] R .ret ⟨r, h, cnt⟩ := by
 subst hv; exact ⟨trivial, hR⟩
theorem end2 {t u : Nat} {v w : PV} (hv : r t = v) (hw : r u = w) (hR : R (.tup [v, w]) h cnt) : endQ P [.tmp t, .tmp u] R .ret ⟨r, h, cnt⟩ := by
 subst hv; subst hw
 exact ⟨fun x hx => by simp at hx; rcases hx with rfl | rfl <;> trivial, hR⟩
theorem end3 {t u s : Nat} {v w x : PV} (hv : r t = v) (hw : r u = w) (hx : r s = x) (hR : R (.tup [v, w, x]) h cnt) : endQ P [.tmp t, .tmp u, .tmp s] R .ret ⟨r, h, cnt⟩ := by
 subst hv; subst hw; subst hx
 exact ⟨fun x hx => by simp at hx; rcases hx with rfl | rfl | rfl <;> trivial, hR⟩
theorem end0 (hR : R (.tup []) h cnt) : endQ P [] R .ret ⟨r, h, cnt⟩ := ⟨fun x hx => by simp at hx, hR⟩
theorem end0n (hR : R (.tup []) h cnt) : endQ P [] R .normal ⟨r, h, cnt⟩ := ⟨fun x hx => by simp at hx, hR⟩

theorem ret_seq {K : PS → Prop} {Q : Exit → PS → Prop} {s : PS} (h : Q .ret s) : seqQ K Q .ret s := h
theorem ret_block {id : Nat} {Q : Exit → PS → Prop} {s : PS} (h : Q .ret s) : blockQ id Q .ret s := h
theorem ret_loop {I : Nat → PS → Prop} {n : Nat} {Q : Exit → PS → Prop} {s : PS} (h : Q .ret s) : loopQ I n Q .ret s := h
theorem seq_norm {K : PS → Prop} {Q : Exit → PS → Prop} {s : PS} (h : K s) : seqQ K Q .normal s := h
theorem block_norm {id : Nat} {Q : Exit → PS → Prop} {s : PS} (h : Q .normal s) : blockQ id Q .normal s := h
theorem exit_seq {K : PS → Prop} {Q : Exit → PS → Prop} {i : Nat} {s : PS} (h : Q (.exit i) s) : seqQ K Q (.exit i) s := h
theorem exit_loop {I : Nat → PS → Prop} {n : Nat} {Q : Exit → PS → Prop} {i : Nat} {s : PS} (h : Q (.exit i) s) : loopQ I n Q (.exit i) s := h
theorem exit_here {i : Nat} {Q : Exit → PS → Prop} {s : PS} (h : Q .normal s) : blockQ i Q (.exit i) s := by show (if i = i then _ else _); rw [if_pos rfl]; exact h
theorem exit_block {i id : Nat} {Q : Exit → PS → Prop} {s : PS} (hn : i ≠ id) (h : Q (.exit i) s) : blockQ id Q (.exit i) s := by show (if i = id then _ else _); rw [if_neg hn]; exact h

theorem out_b {a b : Bool} (hab : a = b) : Out h (.bool a) (.bool b) := by subst hab; exact .clean (.sc _)
theorem out_i {k : IntKind} {a b : Int} (hab : a = b) : Out h (.sc (.int k a)) (.sc (.int k b)) := by subst hab; exact .clean (.sc _)
theorem out_2 {a b a' b' : PV} (h1 : Out h a a') (h2 : Out h b b') : Out h (.tup [a, b]) (.tup [a', b']) := by
 refine .tup rfl fun i p q hp hq => ?_
 match i with
 | 0 => simp at hp hq; subst hp; subst hq; exact h1
 | 1 => simp at hp hq; subst hp; subst hq; exact h2
 | i + 2 => simp at hp
theorem out_3 {a b c a' b' c' : PV} (h1 : Out h a a') (h2 : Out h b b') (h3 : Out h c c') : Out h (.tup [a, b, c]) (.tup [a', b', c']) := by
 refine .tup rfl fun i p q hp hq => ?_
 match i with
 | 0 => simp at hp hq; subst hp; subst hq; exact h1
 | 1 => simp at hp hq; subst hp; subst hq; exact h2
 | 2 => simp at hp hq; subst hp; subst hq; exact h3
 | i + 3 => simp at hp

theorem inn_sc {x : Value} : Inn h (.sc x) (.sc x) := .base (.pure (.sc x))
theorem inn_lit {t : Bool} {sz : Nat} {rows : Rows} : Inn h (.lit t sz rows) (.lit true sz rows) := .base (.lit fun _ => rfl)
theorem inn_nil {sz : Nat} : Inn h .nil (.lit true sz []) := .base (.nil true sz)
theorem pure_2 {a b : PV} (h1 : Pure a) (h2 : Pure b) : Pure (.tup [a, b]) := .tup _ fun p hp => by
 simp at hp; rcases hp with rfl | rfl <;> assumption
theorem pure_3 {a b c : PV} (h1 : Pure a) (h2 : Pure b) (h3 : Pure c) : Pure (.tup [a, b, c]) := .tup _ fun p hp => by
 simp at hp; rcases hp with rfl | rfl | rfl <;> assumption
end
end Go.Pv
