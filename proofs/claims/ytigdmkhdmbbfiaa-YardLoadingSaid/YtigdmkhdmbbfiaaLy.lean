/- The loads that the chain of last items gives are right. No conditions. -/
import Derived.Test.YtigdmkhdmbbfiaaLwA
import Derived.Test.YtigdmkhdmbbfiaaLk1
set_option linter.unusedSimpArgs false
set_option linter.unusedVariables false
namespace Go.Proofs.Ytigdmkhdmbbfiaa
open Go Go.Pv
/-- The items of a set that the chain puts on the lorry b, the last loaded first. -/
def remB (ms : List Int) (M : Int) (b s : Nat) : List Int :=
 if s = 0 then [] else (if ((filV ms M s).l - 1).toNat = b then [(filV ms M s).z] else []) ++ remB ms M b (s - 2 ^ (filV ms M s).z.toNat)
termination_by s
decreasing_by
 have : 0 < 2 ^ (filV ms M s).z.toNat := Nat.two_pow_pos _
 omega
section
variable {ms : List Int} {M : Int}
theorem remB_0 {b : Nat} : remB ms M b 0 = [] := by rw [remB, if_pos rfl]
theorem remB_s {b s i : Nat} (h0 : s ≠ 0) (hz : (filV ms M s).z = (i : Int)) : remB ms M b s = (if ((filV ms M s).l - 1).toNat = b then [(i : Int)] else []) ++ remB ms M b (s - 2 ^ i) := by
 rw [remB, if_neg h0, hz, Int.toNat_natCast]
theorem remB_mem (hn : ms.length ≤ 6) (hms : ∀ x ∈ ms, 0 ≤ x ∧ x ≤ M) (hM : 0 ≤ M) (b : Nat) : ∀ s, s < 2 ^ ms.length → (remB ms M b s).Nodup ∧ ∀ j, j ∈ remB ms M b s ↔ ∃ i : Nat, j = (i : Int) ∧ i < ms.length ∧ hasI s i ∧ binF ms M s i = b := fun s => by
 induction s using Nat.strongRecOn with
 | ind s ih =>
   intro hs
   have hs6 : s < 64 := Nat.lt_of_lt_of_le hs (Nat.pow_le_pow_right (by decide) hn)
   by_cases h0 : s = 0
   · subst h0
     rw [remB_0]
     refine ⟨List.nodup_nil, fun j => ⟨fun h => absurd h List.not_mem_nil, fun h => ?_⟩⟩
     obtain ⟨i, _, _, h1, _⟩ := h
     rw [hasI, Nat.zero_div] at h1; exact absurd h1 (by decide)
   · obtain ⟨i, hi, h2, h3⟩ := filV_z hn hms hM hs h0
     have hle := hasI_le h2
     have hpos : 0 < 2 ^ i := Nat.two_pow_pos i
     obtain ⟨a1, a2⟩ := ih (s - 2 ^ i) (by omega) (by omega)
     have hd : ∀ j, j < ms.length → (hasI (s - 2 ^ i) j ↔ hasI s j ∧ j ≠ i) := fun j hj => hasI_del s hs6 i (by omega) h2 j (by omega)
     have hzi : (filV ms M s).z.toNat = i := by rw [h3, Int.toNat_natCast]
     have hbi : binF ms M s i = ((filV ms M s).l - 1).toNat := by rw [binF, if_neg h0, if_pos hzi.symm]
     have hbj : ∀ j, j ≠ i → binF ms M s j = binF ms M (s - 2 ^ i) j := fun j hj => by rw [binF, if_neg h0, hzi, if_neg hj]
     have hni : (i : Int) ∉ remB ms M b (s - 2 ^ i) := fun q => by
       obtain ⟨i2, e1, e2, e3, _⟩ := (a2 _).1 q
       obtain rfl : i = i2 := by omega
       exact ((hd i hi).1 e3).2 rfl
     have main : ∀ j, j ∈ remB ms M b (s - 2 ^ i) ↔ ∃ i2 : Nat, j = (i2 : Int) ∧ i2 < ms.length ∧ hasI s i2 ∧ i2 ≠ i ∧ binF ms M s i2 = b := fun j => by
       rw [a2]
       constructor
       · rintro ⟨i2, e1, e2, e3, e4⟩
         have h4 := (hd i2 e2).1 e3
         exact ⟨i2, e1, e2, h4.1, h4.2, by rw [hbj i2 h4.2]; exact e4⟩
       · rintro ⟨i2, e1, e2, e3, e4, e5⟩
         exact ⟨i2, e1, e2, (hd i2 e2).2 ⟨e3, e4⟩, by rw [← hbj i2 e4]; exact e5⟩
     rw [remB_s h0 h3]
     by_cases hb : ((filV ms M s).l - 1).toNat = b
     · rw [if_pos hb, List.singleton_append]
       refine ⟨List.nodup_cons.2 ⟨hni, a1⟩, fun j => ?_⟩
       rw [List.mem_cons, main]
       constructor
       · rintro (rfl | ⟨i2, e1, e2, e3, e4, e5⟩)
         · exact ⟨i, rfl, hi, h2, by rw [hbi]; exact hb⟩
         · exact ⟨i2, e1, e2, e3, e5⟩
       · rintro ⟨i2, e1, e2, e3, e5⟩
         by_cases e : i2 = i
         · exact .inl (by rw [e1, e])
         · exact .inr ⟨i2, e1, e2, e3, e, e5⟩
     · rw [if_neg hb, List.nil_append]
       refine ⟨a1, fun j => ?_⟩
       rw [main]
       constructor
       · rintro ⟨i2, e1, e2, e3, e4, e5⟩; exact ⟨i2, e1, e2, e3, e5⟩
       · rintro ⟨i2, e1, e2, e3, e5⟩
         exact ⟨i2, e1, e2, e3, fun e => hb (by rw [← hbi, ← e]; exact e5), e5⟩
/-- The mass of some items. -/
def smL (ms : List Int) : List Int → Int
 | [] => 0
 | j :: l => ms.getD j.toNat 0 + smL ms l
theorem lvl_zero : ∀ {n : Nat}, lvl (fun _ => (0 : Int)) n = 0
 | 0 => rfl
 | n + 1 => by rw [lvl, lvl_zero]; rfl
theorem lvl_addY {f g : Nat → Int} : ∀ {n : Nat}, lvl (fun i => f i + g i) n = lvl f n + lvl g n
 | 0 => rfl
 | n + 1 => by rw [lvl, lvl, lvl, lvl_addY]; omega
theorem smL_lvl {n : Nat} : ∀ {l : List Int}, l.Nodup → (∀ j ∈ l, 0 ≤ j ∧ j < (n : Int)) → smL ms l = lvl (fun i : Nat => if (i : Int) ∈ l then ms.getD i 0 else 0) n
 | [], _, _ => by
   rw [smL]
   exact lvl_zero.symm.trans (lvl_same fun i _ => by rw [if_neg List.not_mem_nil])
 | j :: l, h, hr => by
   have h1 := List.nodup_cons.1 h
   have h2 := hr j (List.mem_cons_self ..)
   have h3 := smL_lvl (n := n) h1.2 (fun k hk => hr k (List.mem_cons_of_mem _ hk))
   rw [smL, h3, Int.add_comm]
   symm
   refine lvl_one (i := j.toNat) (by omega) ?_ fun k hk hkj => ?_
   · have e : ((j.toNat : Nat) : Int) = j := Int.toNat_of_nonneg h2.1
     rw [e, if_pos (List.mem_cons_self ..), if_neg h1.1, Int.zero_add]
   · by_cases e : (k : Int) ∈ l
     · rw [if_pos e, if_pos (List.mem_cons_of_mem _ e)]
     · rw [if_neg e, if_neg fun q => by
         rcases List.mem_cons.1 q with q | q
         · omega
         · exact e q]
theorem smL_bin {c : Nat → Nat} {b : Nat} {l : List Int} (hn : ms.length ≤ 6) (h : l.Nodup) (hl : ∀ j, j ∈ l ↔ ∃ i : Nat, j = (i : Int) ∧ i < ms.length ∧ c i = b) : smL ms l = binS ms c (2 ^ ms.length - 1) b ms.length := by
 rw [smL_lvl (n := ms.length) h (fun j hj => by obtain ⟨i, e1, e2, _⟩ := (hl j).1 hj; omega), binS]
 refine lvl_same fun i hi => ?_
 have hf : hasI (2 ^ ms.length - 1) i := full_has _ hn i hi
 by_cases e : c i = b
 · rw [if_pos ((hl _).2 ⟨i, rfl, hi, e⟩), if_pos ⟨hf, e⟩]
 · rw [if_neg (fun q => by obtain ⟨i2, e1, _, e3⟩ := (hl _).1 q; obtain rfl : i = i2 := (by omega); exact e e3), if_neg (fun q => e q.2)]
end
/-! ### The check accepts them -/
section
variable {its : List Item} {x : Lorry} {dn : List Bool} {c : Nat → Nat}
theorem setD_has {i : Nat} : ∀ {l : List Int} {dn : List Bool}, i < dn.length → (∀ j ∈ l, 0 ≤ j) → (setD dn l)[i]? = if (i : Int) ∈ l then some true else dn[i]?
 | [], dn, _, _ => by rw [setD, if_neg List.not_mem_nil]
 | j :: l, dn, h, hl => by
   rw [setD, setD_has (l := l) (by rw [List.length_set]; exact h) (fun k hk => hl k (List.mem_cons_of_mem _ hk))]
   have hj := hl j (List.mem_cons_self ..)
   by_cases e : (i : Int) ∈ l
   · rw [if_pos e, if_pos (List.mem_cons_of_mem _ e)]
   · rw [if_neg e]
     by_cases e2 : j = (i : Int)
     · subst e2
       rw [if_pos (List.mem_cons_self ..), Int.toNat_natCast, List.getElem?_set_self h]
     · rw [List.getElem?_set_ne (by omega), if_neg fun q => by
         rcases List.mem_cons.1 q with q | q
         · exact e2 q.symm
         · exact e q]
theorem goL_ok : ∀ {l : List Int} {p s : Int}, l.Pairwise (· < ·) → (∀ n ∈ l, p < n ∧ 0 ≤ n ∧ n ≤ (its.length : Int) - 1 ∧ dn.getD n.toNat false = false) → (∀ y ∈ its, y.length ≤ x.length) → goL its x dn p s l = (0, s + smL (its.map Item.mass) l)
 | [], p, s, _, _, _ => by rw [goL, smL, Int.add_zero]
 | n :: l, p, s, h, hn, hx => by
   obtain ⟨h1, h2, h3, h4⟩ := hn n (List.mem_cons_self ..)
   have hlt : n.toNat < its.length := by omega
   have hg : its.getD n.toNat default = its[n.toNat] := by rw [List.getD_eq_getElem?_getD, List.getElem?_eq_getElem hlt]; rfl
   have hg2 : (its.map Item.mass).getD n.toNat 0 = its[n.toNat].mass := by rw [List.getD_eq_getElem?_getD, List.getElem?_map, List.getElem?_eq_getElem hlt]; rfl
   have hy := hx _ (List.getElem_mem hlt)
   have hp := List.pairwise_cons.1 h
   rw [goL, if_neg (fun q => q ⟨h2, h3⟩), if_neg (by omega), if_neg (by rw [h4]; decide), hg, if_neg (by omega),
     goL_ok (l := l) hp.2 (fun k hk => ⟨hp.1 k hk, (hn k (List.mem_cons_of_mem _ hk)).2⟩) hx, smL, hg2, Int.add_assoc]
theorem goD_ok (h6 : its.length ≤ 6) (hx : ∀ y ∈ its, y.length ≤ x.length) (hm : ∀ b, binS (its.map Item.mass) c (2 ^ its.length - 1) b its.length ≤ x.mass) : ∀ {ls : List (List Int)} {k : Nat} {dn : List Bool}, dn.length = its.length → (∀ i, i < its.length → dn[i]? = some (decide (c i < k))) → (∀ b l, ls[b]? = some l → l ≠ [] ∧ l.Pairwise (· < ·) ∧ ∀ j, j ∈ l ↔ ∃ i : Nat, j = (i : Int) ∧ i < its.length ∧ c i = k + b) →
   ∃ d2 : List Bool, goD its x dn ls = (0, d2) ∧ d2.length = its.length ∧ ∀ i, i < its.length → d2[i]? = some (decide (c i < k + ls.length))
 | [], k, dn, hd, hdk, _ => ⟨dn, by rw [goD], hd, fun i hi => by rw [hdk i hi]; rfl⟩
 | l :: ls, k, dn, hd, hdk, hls => by
   obtain ⟨a1, a2, a3⟩ := hls 0 l rfl
   have hnd : l.Nodup := a2.imp fun h => Int.ne_of_lt h
   have hrg : ∀ j ∈ l, 0 ≤ j ∧ j ≤ (its.length : Int) - 1 := fun j hj => by
     obtain ⟨i, e1, e2, _⟩ := (a3 j).1 hj; omega
   have h1 : goL its x dn (-1) 0 l = (0, 0 + smL (its.map Item.mass) l) := goL_ok a2 (fun n hn => by
     obtain ⟨i, e1, e2, e3⟩ := (a3 n).1 hn
     have h2 := hrg n hn
     refine ⟨by omega, h2.1, h2.2, ?_⟩
     rw [e1, Int.toNat_natCast, List.getD_eq_getElem?_getD, hdk i e2, decide_eq_false (by omega)]; rfl) hx
   have hml : (its.map Item.mass).length = its.length := List.length_map _
   have h2 := smL_bin (ms := its.map Item.mass) (c := c) (b := k) (by rw [hml]; exact h6) hnd (fun j => by rw [a3, hml]; rfl)
   rw [hml] at h2
   have h3 := hm k
   rw [goD, if_neg (fun q => a1 (List.length_eq_zero_iff.1 q)), h1, loadK_ok (by omega)]
   obtain ⟨d2, b1, b2, b3⟩ := goD_ok h6 hx hm (ls := ls) (k := k + 1) (dn := setD dn l) (by rw [setD_len]; exact hd) (fun i hi => by
     rw [setD_has (by omega) (fun j hj => (hrg j hj).1), hdk i hi]
     by_cases e : (i : Int) ∈ l
     · obtain ⟨i2, e1, _, e3⟩ := (a3 _).1 e
       obtain rfl : i = i2 := by omega
       rw [if_pos e, decide_eq_true (by omega)]
     · rw [if_neg e]
       have : c i ≠ k := fun q => e ((a3 _).2 ⟨i, rfl, hi, q⟩)
       congr 1
       rw [decide_eq_decide]; omega) (fun b l2 hl2 => by
     obtain ⟨c1, c2, c3⟩ := hls (b + 1) l2 hl2
     refine ⟨c1, c2, fun j => ?_⟩
     rw [c3, show k + (b + 1) = k + 1 + b by omega])
   exact ⟨d2, b1, b2, fun i hi => by rw [b3 i hi, List.length_cons, show k + 1 + ls.length = k + (ls.length + 1) by omega]⟩
/-- Loads by lorries are accepted. -/
theorem loads_ok {ls : List (List Int)} (hz : itemsE its x = 0) (h6 : its.length ≤ 6) (hb : bigB its x = false) (hL : ls.length ≤ its.length) (hm : ∀ b, binS (its.map Item.mass) c (2 ^ its.length - 1) b its.length ≤ x.mass) (hc : ∀ i, i < its.length → c i < ls.length)
   (hls : ∀ b l, ls[b]? = some l → l ≠ [] ∧ l.Pairwise (· < ·) ∧ ∀ j, j ∈ l ↔ ∃ i : Nat, j = (i : Int) ∧ i < its.length ∧ c i = b) : loadsE its x ls = 0 := by
 have hx : ∀ y ∈ its, y.length ≤ x.length := fun y hy => by
   have h1 := List.any_eq_false.1 hb y hy
   rw [Bool.or_eq_true, decide_eq_true_eq, decide_eq_true_eq] at h1; omega
 obtain ⟨d2, b1, b2, b3⟩ := goD_ok (c := c) h6 hx hm (ls := ls) (k := 0) (dn := List.replicate its.length false) List.length_replicate (fun i hi => by
   rw [List.getElem?_replicate, if_pos hi, decide_eq_false (Nat.not_lt_zero _)]) (fun b l hl => by rw [Nat.zero_add]; exact hls b l hl)
 symm
 refine le_5 hz hL b1 fun q => ?_
 obtain ⟨i, hi⟩ := List.getElem?_of_mem q
 have hil : i < its.length := by rw [← b2]; exact (List.getElem?_eq_some_iff.1 hi).1
 rw [b3 i hil, decide_eq_true (by have := hc i hil; omega)] at hi
 cases hi
/-! ### No fewer lorries than the mass needs -/
theorem sumM_lvl : ∀ {its : List Item} {s : Int}, sumM s its = s + lvl (fun i => (its.map Item.mass).getD i 0) its.length
 | [], s => by rw [sumM]; exact (Int.add_zero s).symm
 | y :: r, s => by
   rw [sumM, sumM_lvl (its := r), List.length_cons, lvl_front, List.map_cons, ← Int.add_assoc]; rfl
theorem lvl_bins {g : Nat → Int} {L : Nat} : ∀ {n : Nat}, (∀ i, i < n → c i < L) → lvl (fun b => lvl (fun i => if c i = b then g i else 0) n) L = lvl g n
 | 0, _ => by
   rw [lvl, ← lvl_zero (n := L)]; rfl
 | n + 1, h => by
   have h1 := lvl_bins (g := g) (L := L) (n := n) (fun i hi => h i (by omega))
   have h2 : lvl (fun b => if c n = b then g n else 0) L = g n := by
     rw [lvl_one (g := fun _ => 0) (d := g n) (i := c n) (h n (by omega)) (by rw [if_pos rfl, Int.zero_add]) (fun j hj hjc => if_neg fun q => hjc q.symm), lvl_zero, Int.zero_add]
   rw [lvl, ← h1]
   show lvl (fun b => lvl (fun i => if c i = b then g i else 0) n + (if c n = b then g n else 0)) L = _
   rw [lvl_addY, h2]
theorem lvl_leM {f : Nat → Int} {M : Int} : ∀ {n : Nat}, (∀ i, i < n → f i ≤ M) → lvl f n ≤ (n : Int) * M
 | 0, _ => by rw [lvl]; simp
 | n + 1, h => by
   have h1 := lvl_leM (f := f) (M := M) (n := n) (fun i hi => h i (by omega))
   have h2 := h n (by omega)
   have e : ((n + 1 : Nat) : Int) * M = (n : Int) * M + M := by rw [Int.natCast_add, Int.add_mul]; simp
   rw [lvl, e]; omega
theorem lor_no {L : Nat} (h6 : its.length ≤ 6) (hL : 1 ≤ L) (hM : 1 ≤ x.mass) (hm : ∀ b, binS (its.map Item.mass) c (2 ^ its.length - 1) b its.length ≤ x.mass) (hc : ∀ i, i < its.length → c i < L) : lorN its x ≤ (L : Int) := by
 have h1 : lvl (fun b => binS (its.map Item.mass) c (2 ^ its.length - 1) b its.length) L ≤ (L : Int) * x.mass := lvl_leM fun b _ => hm b
 have h2 : lvl (fun b => binS (its.map Item.mass) c (2 ^ its.length - 1) b its.length) L = lvl (fun i => (its.map Item.mass).getD i 0) its.length := by
   rw [← lvl_bins (g := fun i => (its.map Item.mass).getD i 0) (L := L) hc]
   refine lvl_same fun b _ => lvl_same fun i hi => ?_
   have hf : hasI (2 ^ its.length - 1) i := full_has _ h6 i hi
   by_cases e : c i = b
   · rw [if_pos ⟨hf, e⟩, if_pos e]
   · rw [if_neg (fun q => e q.2), if_neg e]
 rw [lorN, sumM_lvl, Int.zero_add]
 rw [h2] at h1
 have h3 : (lvl (fun i => (its.map Item.mass).getD i 0) its.length + x.mass - 1) / x.mass < (L : Int) + 1 := Int.ediv_lt_of_lt_mul (by omega) (by rw [Int.add_mul, Int.one_mul]; omega)
 omega
end
end Go.Proofs.Ytigdmkhdmbbfiaa
