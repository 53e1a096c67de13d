/- The search: words, what is left over. No conditions. -/
import Derived.Test.YtindehoegfiiaaaGreatDoorEs2
import Derived.Laws.BitsAllLaws
set_option linter.unusedSimpArgs false
set_option linter.unusedVariables false
set_option maxRecDepth 100000
namespace Go.Proofs.YtindehoegfiiaaaGreatDoor
open Go Go.Pv
/-! ### The search of a least set -/
def srch (ok : List Int → Bool) (n : Nat) : Nat → Nat → List Int → Option (List Int)
 | 0, _, c => if ok c = true then some c else none
 | left + 1, frm, c => (List.range' frm (n - frm)).findSome? fun i => srch ok n left (i + 1) (c ++ [(i : Int)])
abbrev InN (n : Nat) (c : List Int) : Prop := ∀ p ∈ c, 0 ≤ p ∧ p < (n : Int)
abbrev AscTo (c : List Int) (frm : Nat) : Prop := ∀ p ∈ c, 0 ≤ p ∧ p < (frm : Int)
section
variable {ok ok2 : List Int → Bool} {n left frm i k : Nat} {c r : List Int}
theorem srch_congr (h : ∀ c, InN n c → ok c = ok2 c) : ∀ {left frm : Nat} {c : List Int}, InN n c → srch ok n left frm c = srch ok2 n left frm c
 | 0, _, c, hc => by rw [srch, srch, h c hc]
 | left + 1, frm, c, hc => by
   rw [srch, srch]
   have : ∀ L : List Nat, (∀ i ∈ L, i < n) → L.findSome? (fun i => srch ok n left (i + 1) (c ++ [(i : Int)])) = L.findSome? (fun i => srch ok2 n left (i + 1) (c ++ [(i : Int)])) := fun L hL => by
     induction L with
     | nil => rfl
     | cons a L ih =>
       rw [List.findSome?_cons, List.findSome?_cons, ih fun i hi => hL i (List.mem_cons_of_mem _ hi),
         srch_congr h (fun p hp => by
           rcases List.mem_append.1 hp with q | q
           · exact hc p q
           · rw [List.mem_singleton] at q; have := hL a (List.mem_cons_self ..); omega)]
   exact this _ fun i hi => by rw [List.mem_range'_1] at hi; omega
theorem srch_none : ∀ {left frm : Nat} {c : List Int}, 1 ≤ left → n < frm + left → srch ok n left frm c = none
 | left + 1, frm, c, _, h => by
   rw [srch, List.findSome?_eq_none_iff]
   intro i hi
   rw [List.mem_range'_1] at hi
   exact srch_none (by omega) (by omega)
/-- what is found extends what is chosen -/
theorem srch_some : ∀ {left frm : Nat} {c r : List Int}, srch ok n left frm c = some r → ∃ E : List Int, r = c ++ E ∧ E.length = left ∧ (∀ p ∈ E, (frm : Int) ≤ p ∧ p < (n : Int)) ∧ E.Pairwise (· < ·) ∧ ok r = true
 | 0, frm, c, r, h => by
   rw [srch] at h
   by_cases q : ok c = true
   · rw [if_pos q] at h; cases h; exact ⟨[], by simp, rfl, fun p hp => (by cases hp), .nil, q⟩
   · rw [if_neg q] at h; cases h
 | left + 1, frm, c, r, h => by
   rw [srch] at h
   obtain ⟨i, hi, h2⟩ := List.exists_of_findSome?_eq_some h
   rw [List.mem_range'_1] at hi
   obtain ⟨E, e1, e2, e3, e4, e5⟩ := srch_some h2
   refine ⟨(i : Int) :: E, by rw [e1, List.append_assoc]; rfl, by rw [List.length_cons, e2], fun p hp => ?_, ?_, e5⟩
   · rcases List.mem_cons.1 hp with rfl | hp
     · omega
     · have := e3 p hp; omega
   · exact List.pairwise_cons.2 ⟨fun p hp => by have := e3 p hp; omega, e4⟩
theorem rng_cons (h : k < n) : List.range' k (n - k) = k :: List.range' (k + 1) (n - (k + 1)) := by
 rw [show n - k = (n - (k + 1)) + 1 by omega, List.range'_succ]
theorem rng_nil (h : n ≤ k) : List.range' k (n - k) = [] := by rw [show n - k = 0 by omega]; rfl
end
/-! ### Words of what is chosen -/
section
variable {c E : List Int} {frm i : Nat} {w : Nat}
theorem asc_lt (h : AscTo c frm) (hf : frm ≤ 64) : wdN c 0 < 2 ^ frm := by
 apply Nat.lt_pow_two_of_testBit
 intro b hb
 cases q : (wdN c 0).testBit b with
 | false => rfl
 | true =>
   obtain ⟨p, hp, _, q2⟩ := wdN_bit.1 q
   have := h p hp; omega
theorem asc_app (h : AscTo c i) : AscTo (c ++ [(i : Int)]) (i + 1) := fun p hp => by
 rcases List.mem_append.1 hp with q | q
 · have := h p q; omega
 · rw [List.mem_singleton] at q; omega
theorem asc_mono {j : Nat} (h : AscTo c i) (hj : i ≤ j) : AscTo c j := fun p hp => by have := h p hp; omega
theorem wd_snoc (hi : i < 64) : wdN (c ++ [(i : Int)]) 0 = wdN c 0 ||| 2 ^ i := by
 rw [wdN_app, if_pos (by omega), show ((i : Int)).toNat % 64 = i by omega]
theorem and_ne {a b : Nat} : a &&& b ≠ 0 ↔ ∃ i, a.testBit i = true ∧ b.testBit i = true := by
 constructor
 · intro h
   obtain ⟨i, hi⟩ := Nat.exists_testBit_of_ne_zero h
   rw [Nat.testBit_and, Bool.and_eq_true] at hi
   exact ⟨i, hi⟩
 · rintro ⟨i, h1, h2⟩ h
   have := congrArg (fun z => z.testBit i) h
   simp only [Nat.testBit_and, h1, h2, Nat.zero_testBit] at this
   cases this
theorem meet_iff {L : List Int} (hL : InN 64 L) (hc : InN 64 c) : wdN L 0 &&& wdN c 0 ≠ 0 ↔ ∃ p ∈ c, p ∈ L := by
 rw [and_ne]
 constructor
 · rintro ⟨b, h1, h2⟩
   obtain ⟨p, hp, _, p2⟩ := wdN_bit.1 h1
   obtain ⟨q, hq, _, q2⟩ := wdN_bit.1 h2
   have e1 := hL p hp; have e2 := hc q hq
   have : p = q := by omega
   subst this; exact ⟨p, hq, hp⟩
 · rintro ⟨p, h1, h2⟩
   have e := hc p h1
   exact ⟨p.toNat, wdN_bit.2 ⟨p, h2, by omega, by omega⟩, wdN_bit.2 ⟨p, h1, by omega, by omega⟩⟩
end
/-! ### What is left over -/
def rsX (ch frm left : Nat) : List Nat → List Nat → Nat → Nat → List Nat × Bool
 | [], out, ap, _ => (out, decide (ap ≤ left))
 | d :: ds, out, ap, us =>
   if d &&& ch ≠ 0 then rsX ch frm left ds out ap us
   else if d / 2 ^ frm * 2 ^ frm = 0 then ([], false)
   else if d / 2 ^ frm * 2 ^ frm &&& us = 0 then rsX ch frm left ds (out ++ [d / 2 ^ frm * 2 ^ frm]) (ap + 1) (us ||| d / 2 ^ frm * 2 ^ frm)
   else rsX ch frm left ds (out ++ [d / 2 ^ frm * 2 ^ frm]) ap us
def okW (ws : List Nat) (c : List Int) : Bool := ws.all fun w => decide (w &&& wdN c 0 ≠ 0)
section
variable {ch frm left ap us d : Nat} {ds out : List Nat} {E : List Nat}
theorem hi_bit {i : Nat} (h : d.testBit i = true) (hi : frm ≤ i) : (d / 2 ^ frm * 2 ^ frm).testBit i = true := by
 rw [Nat.mul_comm, Nat.testBit_two_pow_mul, decide_eq_true hi, Bool.true_and, Nat.testBit_div_two_pow, show i - frm + frm = i by omega]
 exact h
theorem rs_len : ∀ {ds out : List Nat} {ap us : Nat}, (rsX ch frm left ds out ap us).2 = true → ((rsX ch frm left ds out ap us).1.length = 0 ↔ out.length = 0 ∧ ∀ d ∈ ds, d &&& ch ≠ 0)
 | [], out, ap, us, h => by rw [rsX]; simp
 | d :: ds, out, ap, us, h => by
   rw [rsX] at h ⊢
   by_cases h1 : d &&& ch ≠ 0
   · rw [if_pos h1] at h ⊢
     rw [rs_len h]
     exact ⟨fun ⟨a, b⟩ => ⟨a, fun e he => by rcases List.mem_cons.1 he with rfl | he; exact h1; exact b e he⟩, fun ⟨a, b⟩ => ⟨a, fun e he => b e (List.mem_cons_of_mem _ he)⟩⟩
   · rw [if_neg h1] at h ⊢
     by_cases h2 : d / 2 ^ frm * 2 ^ frm = 0
     · rw [if_pos h2] at h; cases h
     · rw [if_neg h2] at h ⊢
       have no : ∀ x : Nat × Nat, ((out ++ [d / 2 ^ frm * 2 ^ frm]).length = 0 ∧ ∀ e ∈ ds, e &&& ch ≠ 0) ↔ (out.length = 0 ∧ ∀ e ∈ d :: ds, e &&& ch ≠ 0) := fun _ => by
         constructor
         · rintro ⟨a, _⟩; simp at a
         · rintro ⟨_, b⟩; exact absurd (b d (List.mem_cons_self ..)) h1
       split at h
       · rename_i h3; rw [if_pos h3, rs_len h]; exact no (0, 0)
       · rename_i h3; rw [if_neg h3, rs_len h]; exact no (0, 0)
theorem filter_or {a b : Nat} (hab : a &&& b = 0) : (E.filter fun e => (a ||| b).testBit e).length = (E.filter fun e => a.testBit e).length + (E.filter fun e => b.testBit e).length := by
 induction E with
 | nil => rfl
 | cons e E ih =>
   have hd : ¬ (a.testBit e = true ∧ b.testBit e = true) := fun ⟨h1, h2⟩ => and_ne.2 ⟨e, h1, h2⟩ hab
   simp only [Nat.testBit_or] at ih ⊢
   cases h1 : a.testBit e <;> cases h2 : b.testBit e
   · simp [h1, h2, ih]
   · simp [h1, h2, ih]; omega
   · simp [h1, h2, ih]; omega
   · exact absurd ⟨h1, h2⟩ hd
/-- if the check fails, no set of so many further places meets all -/
theorem rs_prune (hE : ∀ e ∈ E, frm ≤ e) (hl : E.length = left) : ∀ {ds out : List Nat} {ap us : Nat}, ap ≤ (E.filter fun e => us.testBit e).length → (∀ d ∈ ds, d &&& ch ≠ 0 ∨ ∃ e ∈ E, d.testBit e = true) → (rsX ch frm left ds out ap us).2 = true
 | [], out, ap, us, ha, _ => by
   rw [rsX]
   have := List.length_filter_le (fun e => us.testBit e) E
   exact decide_eq_true (by omega)
 | d :: ds, out, ap, us, ha, hm => by
   rw [rsX]
   have hm2 : ∀ d ∈ ds, d &&& ch ≠ 0 ∨ ∃ e ∈ E, d.testBit e = true := fun e he => hm e (List.mem_cons_of_mem _ he)
   by_cases h1 : d &&& ch ≠ 0
   · rw [if_pos h1]; exact rs_prune hE hl ha hm2
   · rw [if_neg h1]
     obtain ⟨e, he, hb⟩ := (hm d (List.mem_cons_self ..)).resolve_left h1
     have hb2 := hi_bit hb (hE e he)
     rw [if_neg (fun q => by rw [q, Nat.zero_testBit] at hb2; cases hb2)]
     by_cases h3 : d / 2 ^ frm * 2 ^ frm &&& us = 0
     · rw [if_pos h3]
       refine rs_prune hE hl ?_ hm2
       rw [filter_or (by rw [Nat.and_comm]; exact h3)]
       have : 1 ≤ (E.filter fun e => (d / 2 ^ frm * 2 ^ frm).testBit e).length := List.length_pos_of_mem (List.mem_filter.2 ⟨he, hb2⟩)
       omega
     · rw [if_neg h3]; exact rs_prune hE hl ha hm2
end
/-! ### What the program's search returns -/
def fW : Option (List Int) → Nat
 | some r => wdN r 0
 | none => 0
section
variable {ws : List Nat} {n left frm : Nat} {c : List Int}
theorem first_no (hc : AscTo c frm) (hf : frm ≤ n) (hn : n ≤ 64) (h : (rsX (wdN c 0) frm left ws [] 0 0).2 = false) : srch (okW ws) n left frm c = none := by
 cases q : srch (okW ws) n left frm c with
 | none => rfl
 | some r =>
   obtain ⟨E, rfl, e2, e3, _, e5⟩ := srch_some q
   rw [okW, List.all_eq_true] at e5
   have := rs_prune (ch := wdN c 0) (frm := frm) (left := left) (E := E.map Int.toNat) (ds := ws) (out := []) (ap := 0) (us := 0)
     (fun e he => by
       obtain ⟨p, hp, rfl⟩ := List.mem_map.1 he
       have := e3 p hp; omega) (by rw [List.length_map, e2]) (Nat.zero_le _) (fun w hw => by
       have h1 := e5 w hw
       rw [decide_eq_true_eq, and_ne] at h1
       obtain ⟨b, b1, b2⟩ := h1
       obtain ⟨p, hp, p1, p2⟩ := wdN_bit.1 b2
       rcases List.mem_append.1 hp with hp | hp
       · exact .inl (and_ne.2 ⟨b, b1, wdN_bit.2 ⟨p, hp, p1, p2⟩⟩)
       · refine .inr ⟨p.toNat, List.mem_map.2 ⟨p, hp, rfl⟩, ?_⟩
         have := e3 p hp
         rw [show p.toNat = b by omega]; exact b1)
   rw [this] at h; cases h
theorem first_0 (h : (rsX (wdN c 0) frm 0 ws [] 0 0).2 = true) : srch (okW ws) n 0 frm c = if (rsX (wdN c 0) frm 0 ws [] 0 0).1.length = 0 then some c else none := by
 have e : (rsX (wdN c 0) frm 0 ws [] 0 0).1.length = 0 ↔ okW ws c = true := by
   rw [rs_len h, okW, List.all_eq_true]
   constructor
   · rintro ⟨_, q⟩ w hw; exact decide_eq_true (q w hw)
   · intro q; exact ⟨rfl, fun w hw => of_decide_eq_true (q w hw)⟩
 rw [srch]
 by_cases q : okW ws c = true
 · rw [if_pos q, if_pos (e.2 q)]
 · rw [if_neg q, if_neg (fun z => q (e.1 z))]
end
/-! ### The lowest bit of a small word -/
def lowC (s a : Nat) : Bool := if s % 2 ^ (a + 1) = 2 ^ a then (s &&& (18446744073709551616 - s) == 2 ^ a) && (s &&& (s - 1) == s - 2 ^ a) else true
theorem low_all : ((List.range 512).all fun s => (List.range 9).all fun a => lowC s a) = true := by decide +kernel
theorem low_at {s a : Nat} (hs : s < 512) (ha : a < 9) (h : s % 2 ^ (a + 1) = 2 ^ a) : s &&& (18446744073709551616 - s) = 2 ^ a ∧ s &&& (s - 1) = s - 2 ^ a := by
 have h1 := List.all_eq_true.1 low_all s (List.mem_range.2 hs)
 have h2 := List.all_eq_true.1 h1 a (List.mem_range.2 ha)
 rw [lowC, if_pos h, Bool.and_eq_true, beq_iff_eq, beq_iff_eq] at h2
 exact h2
def wsum : List Int → Nat
 | [] => 0
 | p :: c => 2 ^ p.toNat + wsum c
section
variable {c : List Int} {p : Int} {n : Nat}
theorem wsum_app : ∀ {c : List Int}, wsum (c ++ [p]) = wsum c + 2 ^ p.toNat
 | [] => by show 2 ^ p.toNat + 0 = 0 + 2 ^ p.toNat; omega
 | q :: c => by
   have := wsum_app (c := c)
   show 2 ^ q.toNat + wsum (c ++ [p]) = 2 ^ q.toNat + wsum c + 2 ^ p.toNat
   omega
/-- an ascending list is the sum of its bits -/
theorem wsum_wd : ∀ (k : Nat) (c : List Int), c.length = k → c.Pairwise (· < ·) → InN 64 c → wdN c 0 = wsum c
 | 0, c, hl, _, _ => by rw [List.eq_nil_of_length_eq_zero hl]; rfl
 | k + 1, c, hl, hp, hn => by
   have hne : c ≠ [] := fun e => by rw [e] at hl; cases hl
   have e := List.dropLast_concat_getLast hne
   generalize c.dropLast = c0 at e
   generalize c.getLast hne = p at e
   subst e
   rw [List.pairwise_append] at hp
   have hp0 := hn p (List.mem_append.2 (.inr (List.mem_singleton.2 rfl)))
   have hc0 : InN 64 c0 := fun q hq => hn q (List.mem_append.2 (.inl hq))
   have ha : AscTo c0 p.toNat := fun q hq => by
     have h1 := hp.2.2 q hq p (List.mem_singleton.2 rfl)
     have h2 := hc0 q hq
     omega
   have h3 := asc_lt ha (by omega)
   have ih := wsum_wd k c0 (by simpa using hl) hp.1 hc0
   rw [wsum_app, ← ih, wdN_app, if_pos (by omega), show p.toNat % 64 = p.toNat by omega, Nat.or_comm]
   have h4 := Nat.two_pow_add_eq_or_of_lt h3 1
   rw [Nat.mul_one] at h4
   omega
theorem wsum_mod : ∀ {c : List Int} {a : Nat}, (∀ q ∈ c, (a : Int) ≤ q) → wsum c % 2 ^ a = 0
 | [], a, _ => by show 0 % 2 ^ a = 0; exact Nat.zero_mod _
 | q :: c, a, h => by
   have h1 := wsum_mod (c := c) (a := a) fun z hz => h z (List.mem_cons_of_mem _ hz)
   have h2 := h q (List.mem_cons_self ..)
   have h3 : 2 ^ q.toNat % 2 ^ a = 0 := Nat.mod_eq_zero_of_dvd (Nat.pow_dvd_pow 2 (by omega))
   show (2 ^ q.toNat + wsum c) % 2 ^ a = 0
   rw [Nat.add_mod, h1, h3]; simp
theorem wsum_low (hp : (p :: c).Pairwise (· < ·)) (h0 : 0 ≤ p) : wsum (p :: c) % 2 ^ (p.toNat + 1) = 2 ^ p.toNat := by
 have h1 := wsum_mod (c := c) (a := p.toNat + 1) fun q hq => by
   have := (List.pairwise_cons.1 hp).1 q hq; omega
 show (2 ^ p.toNat + wsum c) % 2 ^ (p.toNat + 1) = 2 ^ p.toNat
 rw [Nat.add_mod, h1, Nat.add_zero, Nat.mod_mod, Nat.mod_eq_of_lt (Nat.pow_lt_pow_right (by decide) (Nat.lt_succ_self _))]
theorem wsum_lt : ∀ {c : List Int} {lo : Nat}, c.Pairwise (· < ·) → (∀ q ∈ c, (lo : Int) ≤ q ∧ q < 9) → lo ≤ 9 → wsum c + 2 ^ lo ≤ 512
 | [], lo, _, _, hl => by
   have : 2 ^ lo ≤ 2 ^ 9 := Nat.pow_le_pow_right (by decide) hl
   show 0 + 2 ^ lo ≤ 512; omega
 | q :: c, lo, hp, h, hl => by
   have h2 := h q (List.mem_cons_self ..)
   have h1 := wsum_lt (c := c) (lo := q.toNat + 1) (List.pairwise_cons.1 hp).2 (fun z hz => by
     have a := (List.pairwise_cons.1 hp).1 z hz
     have b := h z (List.mem_cons_of_mem _ hz); omega) (by omega)
   have h3 : 2 ^ lo ≤ 2 ^ q.toNat := Nat.pow_le_pow_right (by decide) (by omega)
   rw [Nat.pow_succ] at h1
   show 2 ^ q.toNat + wsum c + 2 ^ lo ≤ 512
   omega
end

section
variable {P : Program} {ρ : Operand → PV} {h : Heap} {key : Key} {x y : Operand} {t t' : TypeId}
theorem wrapU {a : Nat} (ha : a < 18446744073709551616) : IntKind.u64.wrap (a : Int) = (a : Int) := by
 simp only [IntKind.wrap, IntKind.bits, IntKind.signed]; simp; omega
theorem e_neg64 {a : Nat} (hx : ρ x = .sc (.int .u64 (a : Int))) (ha : 1 ≤ a ∧ a < 18446744073709551616) : eff P ρ h key (.unOp .neg t x) = ⟨True, .sc (.int .u64 ((18446744073709551616 - a : Nat) : Int)), [], [], false⟩ := by
 have e : IntKind.u64.wrap (0 - (a : Int)) = ((18446744073709551616 - a : Nat) : Int) := by
   simp only [IntKind.wrap, IntKind.bits, IntKind.signed]; simp; omega
 simp only [eff, hx, unEff, e]
theorem e_and64 {a b c : Nat} (hx : ρ x = .sc (.int .u64 (a : Int))) (hy : ρ y = .sc (.int .u64 (b : Int))) (ha : a < 18446744073709551616) (hb : b < 18446744073709551616) (hc : a &&& b = c) : eff P ρ h key (.binOp .and t x y t') = ⟨True, .sc (.int .u64 (c : Int)), [], [], false⟩ := by
 subst hc
 simp only [eff, hx, hy, binEffN, binEff, intBin, u64_and_nat a b ha hb]; simp
theorem e_mul64 {a b : Nat} (hx : ρ x = .sc (.int .u64 (a : Int))) (hy : ρ y = .sc (.int .u64 (b : Int))) : eff P ρ h key (.binOp .mul t x y t') = ⟨True, .sc (.int .u64 ((a * b % 18446744073709551616 : Nat) : Int)), [], [], false⟩ := by
 have e : IntKind.u64.wrap ((a : Int) * (b : Int)) = ((a * b % 18446744073709551616 : Nat) : Int) := by
   simp only [IntKind.wrap, IntKind.bits, IntKind.signed]; simp
 simp only [eff, hx, hy, binEffN, binEff, intBin, e]; simp
theorem e_sub64 {a b : Nat} (hx : ρ x = .sc (.int .u64 (a : Int))) (hy : ρ y = .sc (.int .u64 (b : Int))) (hab : b ≤ a) (ha : a < 18446744073709551616) : eff P ρ h key (.binOp .sub t x y t') = ⟨True, .sc (.int .u64 ((a - b : Nat) : Int)), [], [], false⟩ := by
 have e : IntKind.u64.wrap ((a : Int) - (b : Int)) = ((a - b : Nat) : Int) := by
   rw [show (a : Int) - (b : Int) = ((a - b : Nat) : Int) by omega]; exact wrapU (by omega)
 simp only [eff, hx, hy, binEffN, binEff, intBin, e]; simp
theorem e_shr64 {a k : Nat} {kd : IntKind} (hx : ρ x = .sc (.int .u64 (a : Int))) (hy : ρ y = .sc (.int kd (k : Int))) (hk : k < 64) : eff P ρ h key (.binOp .shr t x y t') = ⟨True, .sc (.int .u64 ((a / 2 ^ k : Nat) : Int)), [], [], false⟩ := by
 have h1 : min ((k : Int)).toNat 64 = k := by omega
 simp only [eff, hx, hy, binEffN, binEff, intBin]
 rw [show IntKind.u64.bits = 64 from rfl, h1, Int.fdiv_eq_ediv_of_nonneg _ (by exact Int.le_of_lt (Int.pow_pos (by decide)))]
 simp
theorem e_shl64d {d k : Nat} (hx : ρ x = .sc (.int .u64 ((d / 2 ^ k : Nat) : Int))) (hy : ρ y = .int (k : Int)) (hk : k < 64) (hd : d < 18446744073709551616) : eff P ρ h key (.binOp .shl t x y t') = ⟨True, .sc (.int .u64 ((d / 2 ^ k * 2 ^ k : Nat) : Int)), [], [], false⟩ := by
 have h1 : min ((k : Int)).toNat 64 = k := by omega
 have h2 : d / 2 ^ k * 2 ^ k ≤ d := Nat.div_mul_le_self d (2 ^ k)
 have h3 : (((d / 2 ^ k : Nat) : Int)) * (2 : Int) ^ k = ((d / 2 ^ k * 2 ^ k : Nat) : Int) := by simp
 have e : IntKind.u64.wrap ((((d / 2 ^ k : Nat) : Int)) * (2 : Int) ^ k) = ((d / 2 ^ k * 2 ^ k : Nat) : Int) := by rw [h3]; exact wrapU (by omega)
 simp only [eff, hx, hy, binEffN, binEff, intBin]
 rw [show IntKind.u64.bits = 64 from rfl, h1, e]; simp
theorem e_eq64 {a : Nat} (hx : ρ x = .sc (.int .u64 (a : Int))) (hy : ρ y = .sc (.int .u64 0)) : eff P ρ h key (.binOp .eql t x y t') = ⟨True, .bool (decide (a = 0)), [], [], false⟩ := by
 have e : decide ((a : Int) = 0) = decide (a = 0) := by rw [Bool.eq_iff_iff, decide_eq_true_eq, decide_eq_true_eq]; omega
 rw [← e]; exact e_eq hx hy
end
def cwR (w : Nat) : List PV := [cw w]
theorem cwR_pure (w : Nat) : ∀ p ∈ cwR w, Pure p := fun p hp => by simp [cwR] at hp; subst hp; exact .sc _
theorem cwR_clean (w : Nat) : ∀ p ∈ cwR w, Go.Pv.Clean p ∧ p.cell = true := fun p hp => by simp [cwR] at hp; subst hp; exact ⟨.sc _, rfl⟩
section
variable {ch frm left ap us w : Nat} {ds out : List Nat} {R : List Nat × Bool}
theorem rs_skip (h : R = rsX ch frm left (w :: ds) out ap us) (h1 : (w &&& ch) ≠ 0) : R = rsX ch frm left ds out ap us := by rw [h, rsX, if_pos h1]
theorem rs_stop (h : R = rsX ch frm left (w :: ds) out ap us) (h1 : (w &&& ch) = 0) (h2 : w / 2 ^ frm * 2 ^ frm = 0) : R = ([], false) := by rw [h, rsX, if_neg (fun q => q h1), if_pos h2]
theorem rs_new (h : R = rsX ch frm left (w :: ds) out ap us) (h1 : (w &&& ch) = 0) (h2 : ¬ w / 2 ^ frm * 2 ^ frm = 0) (h3 : (w / 2 ^ frm * 2 ^ frm &&& us) = 0) : R = rsX ch frm left ds (out ++ [w / 2 ^ frm * 2 ^ frm]) (ap + 1) (us ||| w / 2 ^ frm * 2 ^ frm) := by
 rw [h, rsX, if_neg (fun q => q h1), if_neg h2, if_pos h3]
theorem rs_old (h : R = rsX ch frm left (w :: ds) out ap us) (h1 : (w &&& ch) = 0) (h2 : ¬ w / 2 ^ frm * 2 ^ frm = 0) (h3 : ¬ (w / 2 ^ frm * 2 ^ frm &&& us) = 0) : R = rsX ch frm left ds (out ++ [w / 2 ^ frm * 2 ^ frm]) ap us := by
 rw [h, rsX, if_neg (fun q => q h1), if_neg h2, if_neg h3]
theorem rs_end (h : R = rsX ch frm left [] out ap us) : R = (out, decide (ap ≤ left)) := h
end

theorem fr75 : (inFrame Tryz.f75.ntmps (Tryz.f75.body.getD .skip) && Tryz.f75.results.toList.all (resScope Tryz.f75.ntmps)) = true := by kernel_rfl
theorem tzC (s a : Nat) (hs : s < 512) (ha : a < 9) (h : s % 2 ^ (a + 1) = 2 ^ a) : PCalls Tryz.prog 75 [cw s] (.int (a : Int)) := by
 refine PCalls.of_code Tryz.func75 rfl rfl (by kernel_rfl) mixed fr75 (by show _ ≤ 14; simp) (.sc _) ?_
 have hl := low_at hs ha h
 have hs0 : ¬ s = 0 := fun q => by rw [q, Nat.zero_mod] at h; exact absurd h.symm (Nat.pos_iff_ne_zero.1 (Nat.pow_pos (by decide)))
 refine pwp_seq_plain rfl fun K1 hK1 => ?_
 refine p_aS rfl ?_
 refine p_end (hK1 _ ?_); clear hK1 K1
 refine pwp_seq_seq ?_
 refine pwp_seq_plain rfl fun K2 hK2 => ?_
 refine p_e rfl (e_move (v := _) rfl) ?_
 refine p_e rfl (e_eq64 (a := s) rfl rfl) ?_
 refine p_end (hK2 _ ?_); clear hK2 K2
 refine pwp_seq_cond rfl fun K3 hK3 => ⟨fun hb4 => ?_, fun hb4 => ?_⟩
 ·have hb4R := hb4; try simp only [zz] at hb4
  refine pwp_seq_plain rfl fun K5 hK5 => ?_
  refine p_aS rfl ?_
  refine p_end (hK5 _ ?_); clear hK5 K5
  refine pwp_ret ?_
  refine ret_seq ?_
  refine end1 (v := .sc _) rfl ?_
  exact absurd (by assumption) hs0
 ·have hb4R := hb4; try simp only [zz] at hb4
  refine pwp_skip ?_
  refine seq_norm (hK3 _ ?_); clear hK3 K3
  refine pwp_seq_plain rfl fun K6 hK6 => ?_
  refine p_e rfl (e_move (v := .sc _) rfl) ?_
  refine p_e rfl (e_move (v := .sc _) rfl) ?_
  refine p_e rfl (e_neg64 (a := s) rfl ⟨by omega, by omega⟩) ?_
  refine p_e rfl (e_and64 (a := s) (b := 18446744073709551616 - s) rfl rfl (by omega) (by omega) hl.1) ?_
  clear hl h
  rcases (by omega : a = 0 ∨ a = 1 ∨ a = 2 ∨ a = 3 ∨ a = 4 ∨ a = 5 ∨ a = 6 ∨ a = 7 ∨ a = 8) with rfl | rfl | rfl | rfl | rfl | rfl | rfl | rfl | rfl
  ·refine p_e rfl (e_mul64 (a := 2 ^ 0) (b := 285870213051353865) rfl rfl) ?_
   refine p_e rfl (e_shr64 (a := 2 ^ 0 * 285870213051353865 % 18446744073709551616) (k := 58) rfl rfl (by decide)) ?_
   refine p_e rfl (e_ixaL (n := 64) (e := 5) (tt := true) (sz := 64) (rs := [g64]) (a := 0) (b := 0) rfl rfl (by kernel_rfl) (by kernel_rfl) (by decide)) ?_
   refine p_e rfl (e_load (v := .sc (.int .u8 0)) rfl (by kernel_rfl) (by kernel_rfl) (by kernel_rfl) (by decide) (by decide) (by kernel_rfl)) ?_
   refine p_e rfl (e_conv (k := .i64) rfl (by kernel_rfl) (by kernel_rfl) (by decide)) ?_
   refine p_aS rfl ?_
   refine p_end (hK6 _ ?_); clear hK6 K6
   refine pwp_ret ?_
   refine end1 (v := .sc _) rfl ?_
   exact out_i rfl
  ·refine p_e rfl (e_mul64 (a := 2 ^ 1) (b := 285870213051353865) rfl rfl) ?_
   refine p_e rfl (e_shr64 (a := 2 ^ 1 * 285870213051353865 % 18446744073709551616) (k := 58) rfl rfl (by decide)) ?_
   refine p_e rfl (e_ixaL (n := 64) (e := 5) (tt := true) (sz := 64) (rs := [g64]) (a := 0) (b := 0) rfl rfl (by kernel_rfl) (by kernel_rfl) (by decide)) ?_
   refine p_e rfl (e_load (v := .sc (.int .u8 1)) rfl (by kernel_rfl) (by kernel_rfl) (by kernel_rfl) (by decide) (by decide) (by kernel_rfl)) ?_
   refine p_e rfl (e_conv (k := .i64) rfl (by kernel_rfl) (by kernel_rfl) (by decide)) ?_
   refine p_aS rfl ?_
   refine p_end (hK6 _ ?_); clear hK6 K6
   refine pwp_ret ?_
   refine end1 (v := .sc _) rfl ?_
   exact out_i rfl
  ·refine p_e rfl (e_mul64 (a := 2 ^ 2) (b := 285870213051353865) rfl rfl) ?_
   refine p_e rfl (e_shr64 (a := 2 ^ 2 * 285870213051353865 % 18446744073709551616) (k := 58) rfl rfl (by decide)) ?_
   refine p_e rfl (e_ixaL (n := 64) (e := 5) (tt := true) (sz := 64) (rs := [g64]) (a := 0) (b := 0) rfl rfl (by kernel_rfl) (by kernel_rfl) (by decide)) ?_
   refine p_e rfl (e_load (v := .sc (.int .u8 2)) rfl (by kernel_rfl) (by kernel_rfl) (by kernel_rfl) (by decide) (by decide) (by kernel_rfl)) ?_
   refine p_e rfl (e_conv (k := .i64) rfl (by kernel_rfl) (by kernel_rfl) (by decide)) ?_
   refine p_aS rfl ?_
   refine p_end (hK6 _ ?_); clear hK6 K6
   refine pwp_ret ?_
   refine end1 (v := .sc _) rfl ?_
   exact out_i rfl
  ·refine p_e rfl (e_mul64 (a := 2 ^ 3) (b := 285870213051353865) rfl rfl) ?_
   refine p_e rfl (e_shr64 (a := 2 ^ 3 * 285870213051353865 % 18446744073709551616) (k := 58) rfl rfl (by decide)) ?_
   refine p_e rfl (e_ixaL (n := 64) (e := 5) (tt := true) (sz := 64) (rs := [g64]) (a := 0) (b := 0) rfl rfl (by kernel_rfl) (by kernel_rfl) (by decide)) ?_
   refine p_e rfl (e_load (v := .sc (.int .u8 3)) rfl (by kernel_rfl) (by kernel_rfl) (by kernel_rfl) (by decide) (by decide) (by kernel_rfl)) ?_
   refine p_e rfl (e_conv (k := .i64) rfl (by kernel_rfl) (by kernel_rfl) (by decide)) ?_
   refine p_aS rfl ?_
   refine p_end (hK6 _ ?_); clear hK6 K6
   refine pwp_ret ?_
   refine end1 (v := .sc _) rfl ?_
   exact out_i rfl
  ·refine p_e rfl (e_mul64 (a := 2 ^ 4) (b := 285870213051353865) rfl rfl) ?_
   refine p_e rfl (e_shr64 (a := 2 ^ 4 * 285870213051353865 % 18446744073709551616) (k := 58) rfl rfl (by decide)) ?_
   refine p_e rfl (e_ixaL (n := 64) (e := 5) (tt := true) (sz := 64) (rs := [g64]) (a := 0) (b := 0) rfl rfl (by kernel_rfl) (by kernel_rfl) (by decide)) ?_
   refine p_e rfl (e_load (v := .sc (.int .u8 4)) rfl (by kernel_rfl) (by kernel_rfl) (by kernel_rfl) (by decide) (by decide) (by kernel_rfl)) ?_
   refine p_e rfl (e_conv (k := .i64) rfl (by kernel_rfl) (by kernel_rfl) (by decide)) ?_
   refine p_aS rfl ?_
   refine p_end (hK6 _ ?_); clear hK6 K6
   refine pwp_ret ?_
   refine end1 (v := .sc _) rfl ?_
   exact out_i rfl
  ·refine p_e rfl (e_mul64 (a := 2 ^ 5) (b := 285870213051353865) rfl rfl) ?_
   refine p_e rfl (e_shr64 (a := 2 ^ 5 * 285870213051353865 % 18446744073709551616) (k := 58) rfl rfl (by decide)) ?_
   refine p_e rfl (e_ixaL (n := 64) (e := 5) (tt := true) (sz := 64) (rs := [g64]) (a := 0) (b := 0) rfl rfl (by kernel_rfl) (by kernel_rfl) (by decide)) ?_
   refine p_e rfl (e_load (v := .sc (.int .u8 5)) rfl (by kernel_rfl) (by kernel_rfl) (by kernel_rfl) (by decide) (by decide) (by kernel_rfl)) ?_
   refine p_e rfl (e_conv (k := .i64) rfl (by kernel_rfl) (by kernel_rfl) (by decide)) ?_
   refine p_aS rfl ?_
   refine p_end (hK6 _ ?_); clear hK6 K6
   refine pwp_ret ?_
   refine end1 (v := .sc _) rfl ?_
   exact out_i rfl
  ·refine p_e rfl (e_mul64 (a := 2 ^ 6) (b := 285870213051353865) rfl rfl) ?_
   refine p_e rfl (e_shr64 (a := 2 ^ 6 * 285870213051353865 % 18446744073709551616) (k := 58) rfl rfl (by decide)) ?_
   refine p_e rfl (e_ixaL (n := 64) (e := 5) (tt := true) (sz := 64) (rs := [g64]) (a := 0) (b := 0) rfl rfl (by kernel_rfl) (by kernel_rfl) (by decide)) ?_
   refine p_e rfl (e_load (v := .sc (.int .u8 6)) rfl (by kernel_rfl) (by kernel_rfl) (by kernel_rfl) (by decide) (by decide) (by kernel_rfl)) ?_
   refine p_e rfl (e_conv (k := .i64) rfl (by kernel_rfl) (by kernel_rfl) (by decide)) ?_
   refine p_aS rfl ?_
   refine p_end (hK6 _ ?_); clear hK6 K6
   refine pwp_ret ?_
   refine end1 (v := .sc _) rfl ?_
   exact out_i rfl
  ·refine p_e rfl (e_mul64 (a := 2 ^ 7) (b := 285870213051353865) rfl rfl) ?_
   refine p_e rfl (e_shr64 (a := 2 ^ 7 * 285870213051353865 % 18446744073709551616) (k := 58) rfl rfl (by decide)) ?_
   refine p_e rfl (e_ixaL (n := 64) (e := 5) (tt := true) (sz := 64) (rs := [g64]) (a := 0) (b := 0) rfl rfl (by kernel_rfl) (by kernel_rfl) (by decide)) ?_
   refine p_e rfl (e_load (v := .sc (.int .u8 7)) rfl (by kernel_rfl) (by kernel_rfl) (by kernel_rfl) (by decide) (by decide) (by kernel_rfl)) ?_
   refine p_e rfl (e_conv (k := .i64) rfl (by kernel_rfl) (by kernel_rfl) (by decide)) ?_
   refine p_aS rfl ?_
   refine p_end (hK6 _ ?_); clear hK6 K6
   refine pwp_ret ?_
   refine end1 (v := .sc _) rfl ?_
   exact out_i rfl
  ·refine p_e rfl (e_mul64 (a := 2 ^ 8) (b := 285870213051353865) rfl rfl) ?_
   refine p_e rfl (e_shr64 (a := 2 ^ 8 * 285870213051353865 % 18446744073709551616) (k := 58) rfl rfl (by decide)) ?_
   refine p_e rfl (e_ixaL (n := 64) (e := 5) (tt := true) (sz := 64) (rs := [g64]) (a := 0) (b := 0) rfl rfl (by kernel_rfl) (by kernel_rfl) (by decide)) ?_
   refine p_e rfl (e_load (v := .sc (.int .u8 8)) rfl (by kernel_rfl) (by kernel_rfl) (by kernel_rfl) (by decide) (by decide) (by kernel_rfl)) ?_
   refine p_e rfl (e_conv (k := .i64) rfl (by kernel_rfl) (by kernel_rfl) (by decide)) ?_
   refine p_aS rfl ?_
   refine p_end (hK6 _ ?_); clear hK6 K6
   refine pwp_ret ?_
   refine end1 (v := .sc _) rfl ?_
   exact out_i rfl

theorem fr114 : (inFrame Tryz.f114.ntmps (Tryz.f114.body.getD .skip) && Tryz.f114.results.toList.all (resScope Tryz.f114.ntmps)) = true := by kernel_rfl
theorem restC (t : Bool) (ws : List Nat) (n ch frm left : Nat) (hl : ws.length ≤ 100000) (hws : ∀ w ∈ ws, w < 18446744073709551616) (hch : ch < 18446744073709551616) (hf : frm < 64) (hlf : left ≤ 100) : PCalls Tryz.prog 114 [.agg [.lit t 1 (ws.map cwR), .int (n : Int)], cw ch, .int (frm : Int), .int (left : Int)] (.tup [.lit false 1 ((rsX ch frm left ws [] 0 0).1.map cwR), .bool (rsX ch frm left ws [] 0 0).2]) := by
 refine PCalls.of_code Tryz.func114 rfl rfl (by kernel_rfl) mixed fr114 (by show _ ≤ 51; simp) (pure_2 (.lit _ _ _ fun row hr => pure_map cwR_pure row hr) (.sc _)) ?_
 refine pwp_seq_plain rfl fun K1 hK1 => ?_
 refine p_new rfl (e_box (n := 2) rfl rfl) ⟨rfl, by decide⟩ ?_
 refine p_e rfl (e_assign (v := .nil) rfl) ?_
 refine p_aS rfl ?_
 refine p_end (hK1 _ ?_); clear hK1 K1
 refine pwp_seq_plain rfl fun K2 hK2 => ?_
 refine p_e rfl (e_assign (v := .nil) rfl) ?_
 refine p_end (hK2 _ ?_); clear hK2 K2
 refine pwp_seq_plain rfl fun K3 hK3 => ?_
 refine p_aS rfl ?_
 refine p_aS rfl ?_
 refine p_end (hK3 _ ?_); clear hK3 K3
 refine pwp_seq_seq ?_
 refine pwp_seq_plain rfl fun K4 hK4 => ?_
 refine p_e rfl (e_faQ pl2 rfl) ?_
 refine p_e rfl (e_lH (v := .lit _ _ _) rfl (hset_self _ _ _) rfl) ?_
 refine p_e rfl (e_len rfl (by kernel_rfl)) ?_
 refine p_mS rfl ?_
 refine p_end (hK4 _ ?_); clear hK4 K4
 refine pwp_seq_block fun K5 hK5 => ?_
 refine pwp_loopR (α := Nat × PV × (List Nat) × Nat × Nat) [1, 2, 3, 16, 17] (fun (a6 : Nat × PV × (List Nat) × Nat × Nat) => [(10, (a6.2.1)), (11, .int (a6.2.2.2.1)), (12, cw (a6.2.2.2.2)), (18, .int (a6.1))]) (fun (a6 : Nat × PV × (List Nat) × Nat × Nat) (h : Heap) (_ : Nat → Nat) => ((a6.1) ≤ ws.length) ∧ ((rsX ch frm left ws [] 0 0) = rsX ch frm left (ws.drop (a6.1)) (a6.2.2.1) (a6.2.2.2.1) (a6.2.2.2.2)) ∧ ((a6.2.2.2.2) < 18446744073709551616) ∧ ((a6.2.2.2.1) ≤ (a6.1) ∧ (a6.2.2.1).length ≤ (a6.1)) ∧ (SliceAt h 45 (a6.2.1) 1 ((a6.2.2.1).map cwR))) (fun (a6 : Nat × PV × (List Nat) × Nat × Nat) => ws.length - (a6.1)) (0, .nil, [], 0, 0) (by exact ⟨rfl, rfl, rfl, rfl, trivial⟩) (by exact ⟨by exact Nat.zero_le _, by exact rfl, by decide, by exact ⟨Nat.le_refl _, Nat.le_refl _⟩, .nil⟩) fun a6 r7 h8 c9 hj10 => ?_
 obtain ⟨k, v, o, ap, us⟩ := a6
 obtain ⟨hk, hinv, hus, hap, hihj10_0⟩ := hj10
 try dsimp only at hk
 try dsimp only at hinv
 try dsimp only at hus
 try dsimp only at hap
 try dsimp only at hihj10_0
 show pwp _ _ (loopQ _ _ _) ⟨sets (mix _ _ _) [(10, v), (11, .int ap), (12, cw us), (18, .int k)], _, _⟩
 refine pwp_seq_plain rfl fun K11 hK11 => ?_
 refine p_e rfl (e_lt rfl rfl) ?_
 refine p_end (hK11 _ ?_); clear hK11 K11
 refine pwp_seq_cond rfl fun K12 hK12 => ⟨fun hb13 => ?_, fun hb13 => ?_⟩
 ·have hb13R := hb13; try simp only [zz] at hb13
  obtain ⟨w, hw, hwd, ht⟩ := get_lt (xs := ws) (i := k) (by omega)
  rw [hwd] at hinv
  have hwb := hws w (List.mem_of_getElem? hw)
  have hdm : w / 2 ^ frm * 2 ^ frm ≤ w := Nat.div_mul_le_self w (2 ^ frm)
  refine pwp_skip ?_
  refine seq_norm (hK12 _ ?_); clear hK12 K12
  refine pwp_seq_block fun K14 hK14 => ?_
  refine pwp_seq_plain rfl fun K15 hK15 => ?_
  refine p_e rfl (e_ixL rfl rfl) ?_
  refine p_e rfl (e_load (v := .sc _) rfl (by kernel_rfl) (by kernel_rfl) (by kernel_rfl) (by first | omega | (simp only [List.length_map]; omega)) (by decide) ((cell_map hw _).trans rfl)) ?_
  refine p_aS rfl ?_
  refine p_end (hK15 _ ?_); clear hK15 K15
  refine pwp_seq_seq ?_
  refine pwp_seq_plain rfl fun K16 hK16 => ?_
  refine p_mS rfl ?_
  refine p_e rfl (e_move (v := _) rfl) ?_
  refine p_e rfl (e_and64 (a := w) (b := ch) rfl rfl hwb hch rfl) ?_
  refine p_e rfl (e_ne64 (a := w &&& ch) rfl rfl) ?_
  refine p_end (hK16 _ ?_); clear hK16 K16
  refine pwp_seq_cond rfl fun K17 hK17 => ⟨fun hb18 => ?_, fun hb18 => ?_⟩
  ·have hb18R := hb18; try simp only [zz] at hb18
   refine pwp_exit ?_
   refine exit_seq ?_
   clear hK17 K17
   refine exit_here ?_
   refine seq_norm (hK14 _ ?_); clear hK14 K14
   refine pwp_plain rfl fun K19 hK19 => ?_
   refine p_e rfl (e_adL rfl rfl) ?_
   refine p_mS rfl ?_
   refine p_end (hK19 _ ?_); clear hK19 K19
   exact loop_again ((k + 1, v, o, ap, us)) (by show _ < _; simp only; omega) ⟨rfl, rfl, rfl, rfl, rfl, trivial⟩ ⟨rfl, rfl, rfl, rfl, trivial⟩ (by exact ⟨by show _ + 1 ≤ _; simp only [List.length_map] at *; omega, by first | exact rs_skip hinv (by assumption) | exact rs_new hinv (by first | assumption | omega) (by assumption) (by assumption) | exact rs_old hinv (by first | assumption | omega) (by assumption) (by assumption), by first | exact hus | exact Nat.or_lt_two_pow (n := 64) hus (by omega), by dsimp only; first | omega | (simp only [List.length_append, List.length_cons, List.length_nil]; omega), (SliceAt.to hihj10_0 (by first | rfl | (rw [List.map_append]; rfl)))⟩)
  ·have hb18R := hb18; try simp only [zz] at hb18
   refine pwp_skip ?_
   refine seq_norm (hK17 _ ?_); clear hK17 K17
   refine pwp_seq_plain rfl fun K20 hK20 => ?_
   refine p_mS rfl ?_
   refine p_mS rfl ?_
   refine p_e rfl (e_shr64 (a := w) (k := frm) rfl rfl hf) ?_
   refine p_mS rfl ?_
   refine p_e rfl (e_shl64d (d := w) rfl rfl hf hwb) ?_
   refine p_e rfl (e_assign (v := _) rfl) ?_
   refine p_end (hK20 _ ?_); clear hK20 K20
   refine pwp_seq_seq ?_
   refine pwp_seq_plain rfl fun K21 hK21 => ?_
   refine p_e rfl (e_move (v := _) rfl) ?_
   refine p_e rfl (e_eq64 (a := w / 2 ^ frm * 2 ^ frm) rfl rfl) ?_
   refine p_end (hK21 _ ?_); clear hK21 K21
   refine pwp_seq_cond rfl fun K22 hK22 => ⟨fun hb23 => ?_, fun hb23 => ?_⟩
   ·have hb23R := hb23; try simp only [zz] at hb23
    refine pwp_seq_plain rfl fun K24 hK24 => ?_
    refine p_e rfl (e_assign (v := .nil) rfl) ?_
    refine p_aS rfl ?_
    refine p_end (hK24 _ ?_); clear hK24 K24
    refine pwp_ret ?_
    refine ret_seq ?_
    refine ret_block ?_
    refine ret_seq ?_
    refine ret_loop ?_
    refine ret_block ?_
    refine ret_seq ?_
    refine end2 (v := .nil) (w := .sc _) rfl rfl ?_
    first
      | exact out_2 (by rw [rs_stop hinv (by first | assumption | omega) (by assumption)]; exact .nil 1) (out_b (by rw [rs_stop hinv (by first | assumption | omega) (by assumption)]))
      | exact out_2 (by rw [rs_end hinv]; exact out_slice hihj10_0 rfl (fun _ => rfl) cwR_clean) (out_b (by rw [rs_end hinv]; first | rfl | (rw [Bool.eq_iff_iff, decide_eq_true_eq, decide_eq_true_eq]; omega)))
   ·have hb23R := hb23; try simp only [zz] at hb23
    refine pwp_skip ?_
    refine seq_norm (hK22 _ ?_); clear hK22 K22
    refine pwp_seq_seq ?_
    refine pwp_seq_plain rfl fun K25 hK25 => ?_
    refine p_e rfl (e_move (v := _) rfl) ?_
    refine p_e rfl (e_move (v := _) rfl) ?_
    refine p_e rfl (e_and64 (a := w / 2 ^ frm * 2 ^ frm) (b := us) rfl rfl (by omega) hus rfl) ?_
    refine p_e rfl (e_eq64 (a := w / 2 ^ frm * 2 ^ frm &&& us) rfl rfl) ?_
    refine p_end (hK25 _ ?_); clear hK25 K25
    refine pwp_seq_cond rfl fun K26 hK26 => ⟨fun hb27 => ?_, fun hb27 => ?_⟩
    ·have hb27R := hb27; try simp only [zz] at hb27
     refine pwp_plain rfl fun K28 hK28 => ?_
     refine p_mS rfl ?_
     refine p_e rfl (e_adL rfl rfl) ?_
     refine p_e rfl (e_move (v := _) rfl) ?_
     refine p_e rfl (e_move (v := _) rfl) ?_
     refine p_e rfl (e_or64 (a := us) (b := w / 2 ^ frm * 2 ^ frm) rfl rfl hus (by omega)) ?_
     refine p_aS rfl ?_
     refine p_e rfl (e_assign (v := _) rfl) ?_
     refine p_end (hK28 _ ?_); clear hK28 K28
     refine seq_norm (hK26 _ ?_); clear hK26 K26
     refine pwp_plain rfl fun K29 hK29 => ?_
     refine p_e rfl (e_move (v := _) rfl) ?_
     refine p_e rfl (e_move (v := _) rfl) ?_
     refine p_new rfl (e_bslice (rows := [cwR (w / 2 ^ frm * 2 ^ frm)]) (zs := [.sc (.int .u64 0)]) (sz := 1) (by kernel_rfl) (by kernel_rfl) rfl (by kernel_rfl) (by decide) rfl rfl (by exact ⟨by decide, rfl, rfl, trivial⟩) rfl) trivial ?_
     refine p_app rfl rfl rfl (hihj10_0.keep fun _ => (hset_ne (key_ne rfl)).trans (rfl)) (src_ref (hset_self _ _ _) rfl) (by kernel_rfl) (by simp only [List.length_append, List.length_map, List.length_nil, List.length_cons]; omega) fun v30 h31 c32 hs33 hf34 => ?_
     have ho35 := (hf34 (44, _) (key_ne rfl) (fun _ _ => key_ne rfl)).trans (hset_self _ _ _)
     refine p_e rfl (e_assign (v := _) rfl) ?_
     refine p_end (hK29 _ ?_); clear hK29 K29
     refine block_norm ?_
     refine seq_norm (hK14 _ ?_); clear hK14 K14
     refine pwp_plain rfl fun K36 hK36 => ?_
     refine p_e rfl (e_adL rfl rfl) ?_
     refine p_mS rfl ?_
     refine p_end (hK36 _ ?_); clear hK36 K36
     exact loop_again ((k + 1, v30, o ++ [w / 2 ^ frm * 2 ^ frm], ap + 1, us ||| w / 2 ^ frm * 2 ^ frm)) (by show _ < _; simp only; omega) ⟨rfl, rfl, rfl, rfl, rfl, trivial⟩ ⟨rfl, rfl, rfl, rfl, trivial⟩ (by exact ⟨by show _ + 1 ≤ _; simp only [List.length_map] at *; omega, by first | exact rs_skip hinv (by assumption) | exact rs_new hinv (by first | assumption | omega) (by assumption) (by assumption) | exact rs_old hinv (by first | assumption | omega) (by assumption) (by assumption), by first | exact hus | exact Nat.or_lt_two_pow (n := 64) hus (by omega), by dsimp only; first | omega | (simp only [List.length_append, List.length_cons, List.length_nil]; omega), (SliceAt.to hs33 (by first | rfl | (rw [List.map_append]; rfl)))⟩)
    ·have hb27R := hb27; try simp only [zz] at hb27
     refine pwp_skip ?_
     refine seq_norm (hK26 _ ?_); clear hK26 K26
     refine pwp_plain rfl fun K37 hK37 => ?_
     refine p_e rfl (e_move (v := _) rfl) ?_
     refine p_e rfl (e_move (v := _) rfl) ?_
     refine p_new rfl (e_bslice (rows := [cwR (w / 2 ^ frm * 2 ^ frm)]) (zs := [.sc (.int .u64 0)]) (sz := 1) (by kernel_rfl) (by kernel_rfl) rfl (by kernel_rfl) (by decide) rfl rfl (by exact ⟨by decide, rfl, rfl, trivial⟩) rfl) trivial ?_
     refine p_app rfl rfl rfl (hihj10_0.keep fun _ => (hset_ne (key_ne rfl)).trans (rfl)) (src_ref (hset_self _ _ _) rfl) (by kernel_rfl) (by simp only [List.length_append, List.length_map, List.length_nil, List.length_cons]; omega) fun v38 h39 c40 hs41 hf42 => ?_
     have ho43 := (hf42 (44, _) (key_ne rfl) (fun _ _ => key_ne rfl)).trans (hset_self _ _ _)
     refine p_e rfl (e_assign (v := _) rfl) ?_
     refine p_end (hK37 _ ?_); clear hK37 K37
     refine block_norm ?_
     refine seq_norm (hK14 _ ?_); clear hK14 K14
     refine pwp_plain rfl fun K44 hK44 => ?_
     refine p_e rfl (e_adL rfl rfl) ?_
     refine p_mS rfl ?_
     refine p_end (hK44 _ ?_); clear hK44 K44
     exact loop_again ((k + 1, v38, o ++ [w / 2 ^ frm * 2 ^ frm], ap, us)) (by show _ < _; simp only; omega) ⟨rfl, rfl, rfl, rfl, rfl, trivial⟩ ⟨rfl, rfl, rfl, rfl, trivial⟩ (by exact ⟨by show _ + 1 ≤ _; simp only [List.length_map] at *; omega, by first | exact rs_skip hinv (by assumption) | exact rs_new hinv (by first | assumption | omega) (by assumption) (by assumption) | exact rs_old hinv (by first | assumption | omega) (by assumption) (by assumption), by first | exact hus | exact Nat.or_lt_two_pow (n := 64) hus (by omega), by dsimp only; first | omega | (simp only [List.length_append, List.length_cons, List.length_nil]; omega), (SliceAt.to hs41 (by first | rfl | (rw [List.map_append]; rfl)))⟩)
 ·have hb13R := hb13; try simp only [zz] at hb13
  have hkl : k = ws.length := by simp only [List.length_map] at *; omega
  rw [hkl, List.drop_length] at hinv
  refine pwp_exit ?_
  refine exit_seq ?_
  clear hK12 K12
  refine exit_loop ?_
  refine exit_here ?_
  refine seq_norm (hK5 _ ?_); clear hK5 K5
  refine pwp_seq_plain rfl fun K45 hK45 => ?_
  refine p_e rfl (e_move (v := _) rfl) ?_
  refine p_mS rfl ?_
  refine p_mS rfl ?_
  refine p_e rfl (e_le rfl rfl) ?_
  refine p_e rfl (e_assign (v := _) rfl) ?_
  refine p_aS rfl ?_
  refine p_end (hK45 _ ?_); clear hK45 K45
  refine pwp_ret ?_
  refine end2 (v := _) (w := .sc _) rfl rfl ?_
  first
    | exact out_2 (by rw [rs_stop hinv (by first | assumption | omega) (by assumption)]; exact .nil 1) (out_b (by rw [rs_stop hinv (by first | assumption | omega) (by assumption)]))
    | exact out_2 (by rw [rs_end hinv]; exact out_slice hihj10_0 rfl (fun _ => rfl) cwR_clean) (out_b (by rw [rs_end hinv]; first | rfl | (rw [Bool.eq_iff_iff, decide_eq_true_eq, decide_eq_true_eq]; omega)))

end Go.Proofs.YtindehoegfiiaaaGreatDoor
