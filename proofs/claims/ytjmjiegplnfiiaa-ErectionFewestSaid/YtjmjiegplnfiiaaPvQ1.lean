/- The P level in rounds of a range over a function; the rule for such a range. -/
import Derived.Test.YtjmjiegplnfiiaaPvQ
import Derived.RangeFuncIn
import Derived.RangeFuncSeq
import Derived.OrdersIn
import Derived.TacticsIn
import Derived.LoopNIn
namespace Go.Pv
open Go Go.RowKit
section
variable {P : Program}

/-- The fence that asks nothing, in a frame of whatever kind. -/
def openF (ro : Option Nat) : Fence := { Fence.wide with round := ro }

theorem calls_open {ro : Option Nat} {n : Nat} {f : FuncId} {args : Array Value} {w : World} {R : Ending → World → Prop} (h : Calls P f args w R) : CallsIn (openF ro) n P f args w R := callsIn_wide (n := n).2 h

def noDeferB : Op → Bool
 | .defer _ => false
 | _ => true

theorem noDefer_spec {o : Op} (h : noDeferB o = true) : ∀ c, o ≠ .defer c := fun c e => by subst e; cases h

theorem open_depth {ro : Option Nat} {n : Nat} : (openF ro).depth.isSome = true → 1 ≤ n := fun h => by cases h

theorem rows_open {ro : Option Nat} {n : Nat} {row : String} {args : Array Value} {w : World} {R : Value → World → Prop} (h : Go.Rows P row args w R) : RowsIn (openF ro) n P row args w R := fun c cs _ =>
 let ⟨v, w', r, s⟩ := h c cs
 ⟨v, w', r, stepsIn_wide.2 s⟩

theorem op_in {ro : Option Nat} {n : Nat} {o : Oper} {a : Act} {w : World} {K K' : Act → World → Prop} {Q : Exit → Act → World → Prop} (hd : noDeferB o.op = true) (hno : ∀ a w, ¬ Q .outgrown a w) (hk : ∀ a w, K a w → K' a w) (h : o.wp P a w K Q) : o.wpIn (openF ro) n P a w K' Q := by
 refine ⟨fun _ _ => trivial, ?_⟩
 rw [Oper.semAt_eq _ _ _ (noDefer_spec hd)]
 unfold Oper.wp at h
 generalize (execOp a.eval o).run P w = r at h
 cases r with
 | ok x w' =>
   cases x with
   | enter f args =>
     rw [Oper.upon_enter] at h
     rw [Oper.uponIn_enter]
     refine ⟨open_depth, (calls_open h).mono fun e w'' he => ?_⟩
     cases e with
     | returned v => exact hk _ _ he
     | panicked c => exact he
     | outgrown => exact he
   | row row args =>
     rw [Oper.upon_row] at h
     rw [Oper.uponIn_row]
     exact ⟨open_depth, (rows_open h).mono fun v w'' he => hk _ _ he⟩
   | value v => exact hk _ _ h
   | skip => exact hk _ _ h
   | defer d => exact hk _ _ h
   | _ => exact h.elim
 | halt x w' =>
   cases x with
   | panic v => exact h
   | _ => exact h.elim

theorem list_in {ro : Option Nat} {n : Nat} {ops : Array Oper} {Q : Exit → Act → World → Prop} {Q' : Exit → Act → World → Prop} (hno : ∀ a w, ¬ Q .outgrown a w) (hq : ∀ a w c, Q (.panic c) a w → Q' (.panic c) a w) (tail : List Oper) (ht : ∀ a w, Q .normal a w → wpListIn (openF ro) n P ops Q' tail a w) :
   ∀ (l : List Oper) (a : Act) (w : World), (∀ o ∈ l, noDeferB o.op = true) → wpList P ops Q l a w → wpListIn (openF ro) n P ops Q' (l ++ tail) a w
 | [], a, w, _, h => ht a w h
 | o :: l, a, w, hd, h => by
   have ih := list_in hno hq tail ht l
   unfold wpList at h
   rw [List.cons_append]
   unfold wpListIn
   split at h
   · rename_i hw
     rw [if_pos hw]
     rcases h with h | ⟨_, a', w', h⟩
     · have := op_in (ro := ro) (n := n) (hd o (by simp)) hno (fun a w h' => ih a w (fun o ho => hd o (by simp [ho])) h') h
       refine ⟨this.1, ?_⟩
       have h2 := this.2
       revert h2
       generalize (o.semAt (openF ro).round a.eval).run P w = r
       intro h2
       cases r with
       | ok x w' =>
         cases x with
         | enter f args => rw [Oper.uponIn_enter] at h2 ⊢; exact ⟨h2.1, h2.2.mono fun e w'' he => by
             cases e with
             | returned v => exact he
             | panicked c => exact hq _ _ _ he
             | outgrown => obtain ⟨a', w', h⟩ := he; exact absurd h (hno a' w')⟩
         | round l f tmps x y => rw [Oper.uponIn_round] at h2 ⊢; exact ⟨h2.1, h2.2.mono fun e w'' he => by
             cases e with
             | returned v => exact he
             | panicked c => exact hq _ _ _ he
             | outgrown => obtain ⟨a', w', h⟩ := he; exact absurd h (hno a' w')⟩
         | row row args => exact h2
         | value v => exact h2
         | skip => exact h2
         | defer d => exact h2
         | _ => exact h2.elim
       | halt x w' =>
         cases x with
         | panic v => exact hq _ _ _ h2
         | _ => exact h2.elim
     · exact absurd h (hno a' w')
   · rename_i hw
     rw [if_neg hw]
     exact ⟨fun _ _ => trivial, ih _ _ (fun o ho => hd o (by simp [ho])) h⟩

theorem ops_in {ro : Option Nat} {n : Nat} {ops : Array Oper} {Q : Exit → Act → World → Prop} (hno : ∀ a w, ¬ Q .outgrown a w) (hd : ∀ o ∈ ops, noDeferB o.op = true) :
   ∀ (l : List Nat) (a : Act) (w : World), wpOps P ops Q l a w → wpOpsIn (openF ro) n P ops Q l a w
 | [], _, _, h => h
 | i :: l, a, w, h => by
   have ih := ops_in (ro := ro) (n := n) hno hd l
   unfold wpOps at h
   unfold wpOpsIn
   split at h
   · rename_i ho; rw [ho]; exact ih _ _ h
   · rename_i o ho
     rw [ho]
     dsimp only
     split at h
     · rename_i hw
       rw [if_pos hw]
       rcases h with h | ⟨_, a', w', h⟩
       · exact op_in (hd o (Array.mem_of_getElem? ho)) hno ih h
       · exact absurd h (hno a' w')
     · rename_i hw
       rw [if_neg hw]
       exact ⟨fun _ _ => trivial, ih _ _ h⟩

theorem any_in {ro : Option Nat} {n : Nat} {ops : Array Oper} {Q : Exit → Act → World → Prop} (hno : ∀ a w, ¬ Q .outgrown a w) (hd : ∀ o ∈ ops, noDeferB o.op = true) :
   ∀ (fuel : Nat) (listed : Array Bool) (a : Act) (w : World), wpAny P .any ops Q fuel listed a w → wpAnyIn (openF ro) n P .any ops Q fuel listed a w
 | 0, _, _, _, h => h
 | fuel + 1, listed, a, w, h => by
   refine ⟨h.1, fun i hi => ?_⟩
   have ih := any_in (ro := ro) (n := n) hno hd fuel (listed.setIfInBounds i true)
   have h2 := h.2 i hi
   unfold wpOp at h2
   unfold wpOpIn
   split at h2
   · rename_i ho; rw [ho]; exact ih _ _ h2
   · rename_i o ho
     rw [ho]
     dsimp only
     split at h2
     · rename_i hw
       rw [if_pos hw]
       rcases h2 with h | ⟨_, a', w', h⟩
       · exact op_in (hd o (Array.mem_of_getElem? ho)) hno ih h
       · exact absurd h (hno a' w')
     · rename_i hw
       rw [if_neg hw]
       exact ⟨fun _ _ => trivial, ih _ _ h2⟩

theorem regW_in {ro : Option Nat} {n : Nat} {id : Nat} {ops : Array Oper} {draw : Bool} {Q : Exit → Act → World → Prop} {a : Act} {w : World} (hm : P.follows .mixedOrders = true) (hno : ∀ a w, ¬ Q .outgrown a w) (hd : ∀ o ∈ ops, noDeferB o.op = true)
   (h : RegW P ops draw Q a w) : (Code.region id ops draw).wpIn (openF ro) n P Q a w := by
 rcases h with ⟨rfl, h | h⟩ | ⟨rfl, h⟩
 · refine wpIn_region_list ?_
   have := list_in (ro := ro) (n := n) (ops := ops) (Q := Q) (Q' := Q) hno (fun _ _ _ h => h) [] (fun a w h => by unfold wpListIn; exact h) ops.toList a w (fun o ho => hd o (by simpa using ho)) h
   rwa [List.append_nil] at this
 · exact wpIn_region (ops_in hno hd _ _ _ h)
 · exact wpIn_region_any hm (any_in hno hd _ _ _ _ h)

/-- Code that may stand in a round. -/
def roundOK : Code → Bool
 | .skip => true
 | .region _ ops _ => ops.all fun o => noDeferB o.op
 | .seq a b => roundOK a && roundOK b
 | .cond _ x y => roundOK x && roundOK y
 | .block _ c => roundOK c
 | .loop c => roundOK c
 | .exit _ => true
 | .ret => true
 | _ => false

theorem pwp_soundIn (hm : P.follows .mixedOrders = true) {E0 : Env} {n : Nat} {ro : Option Nat} {m : Nat} : ∀ (c : Code) (Q : Exit → PS → Prop) (s : PS) (a : Act) (w : World), inFrame n c = true → roundOK c = true → pwp P c Q s → St E0 n s a w →
   c.wpIn (openF ro) m P (fun e a' w' => ∃ s', Q e s' ∧ St E0 n s' a' w') a w
 | .skip, Q, s, a, w, _, _, h, st => wpIn_skip ⟨s, h, st⟩
 | .region id ops draw, Q, s, a, w, hf, hr, h, st => by
   simp only [inFrame, Bool.and_eq_true, Bool.or_eq_true, Bool.not_eq_true'] at hf
   have h1 : RegW P ops draw (fun e a' w' => e = .normal ∧ ∃ s', Q .normal s' ∧ St E0 n s' a' w') a w := region_shape (fun o ho => (Array.all_eq_true_iff_forall_mem.1 hf.1) o ho) (fun hd => by
     rcases hf.2 with h1 | h1
     · rw [hd] at h1; cases h1
     · exact h1) h st fun s' a' w' h' st' => ⟨rfl, s', h', st'⟩
   refine wpIn_mono (regW_in hm (fun _ _ h => by cases h.1) (fun o ho => (Array.all_eq_true_iff_forall_mem.1 hr) o ho) h1) fun e a' w' h2 => ?_
   obtain ⟨rfl, h2⟩ := h2
   exact h2
 | .seq x y, Q, s, a, w, hf, hr, h, st => by
   simp only [inFrame, Bool.and_eq_true] at hf
   simp only [roundOK, Bool.and_eq_true] at hr
   refine wpIn_seq (wpIn_mono (pwp_soundIn hm x _ s a w hf.1 hr.1 h st) fun e a' w' hq => ?_)
   obtain ⟨s', h1, st'⟩ := hq
   cases e <;> first | exact pwp_soundIn hm y Q s' a' w' hf.2 hr.2 h1 st' | exact ⟨s', h1, st'⟩
 | .cond c x y, Q, s, a, w, hf, hr, h, st => by
   simp only [inFrame, Bool.and_eq_true] at hf
   simp only [roundOK, Bool.and_eq_true] at hr
   obtain ⟨b, h1, h2, h3⟩ := h
   have hc : a.eval c = .bool b := by
     obtain ⟨E, rfl, S, _⟩ := st
     have := S.eval hf.1.1
     rw [h1] at this
     exact this.sc_inv
   refine wpIn_cond hc ?_
   cases b with
   | true => exact pwp_soundIn hm x Q s a w hf.1.2 hr.1 (h2 rfl) st
   | false => exact pwp_soundIn hm y Q s a w hf.2 hr.2 (h3 rfl) st
 | .block id c, Q, s, a, w, hf, hr, h, st => by
   simp only [inFrame] at hf
   simp only [roundOK] at hr
   refine wpIn_block (wpIn_mono (pwp_soundIn hm c _ s a w hf hr h st) fun e a' w' hq => ?_)
   obtain ⟨s', h1, st'⟩ := hq
   cases e with
   | exit i =>
     simp only [Exit.inBlock] at h1 ⊢
     split
     · rename_i hi; rw [if_pos hi] at h1; exact ⟨s', h1, st'⟩
     · rename_i hi; rw [if_neg hi] at h1; exact ⟨s', h1, st'⟩
   | _ => exact ⟨s', h1, st'⟩
 | .loop c, Q, s, a, w, hf, hr, h, st => by
   simp only [inFrame] at hf
   simp only [roundOK] at hr
   obtain ⟨I, k, h1, h2⟩ := h
   have key : ∀ (j k : Nat) (s : PS) (a : Act) (w : World), k < j → I k s → St E0 n s a w → Code.roundsIn (openF ro) m P c (fun e a' w' => ∃ s', Q e s' ∧ St E0 n s' a' w') j a w := by
     intro j
     induction j with
     | zero => intro k s a w hk _ _; omega
     | succ j ih =>
       intro k s a w hk hI st
       rw [roundsIn_succ]
       refine wpIn_mono (pwp_soundIn hm c _ s a w hf hr (h2 k s hI) st) fun e a' w' hq => ?_
       obtain ⟨s', h4, st''⟩ := hq
       cases e with
       | normal =>
         obtain ⟨k', h5, h6⟩ := h4
         exact ih k' s' a' w' (by omega) h6 st''
       | _ => exact ⟨s', h4, st''⟩
   exact wpIn_loop_rounds (k + 1) (key (k + 1) k s a w (by omega) h1 st)
 | .exit id, Q, s, a, w, _, _, h, st => wpIn_exit ⟨s, h, st⟩
 | .ret, Q, s, a, w, _, _, h, st => wpIn_ret ⟨s, h, st⟩
 | .rangeFunc .., _, _, _, _, _, hr, _, _ => by cases hr
 | .scope _, _, _, _, _, _, hr, _, _ => by cases hr
 | .label _, _, _, _, _, _, hr, _, _ => by cases hr
 | .goto _, _, _, _, _, _, hr, _, _ => by cases hr
 | .refuse _, _, _, _, _, _, hr, _, _ => by cases hr

end
end Go.Pv
