/- What trips meet is no more than a cut is worth. No conditions. -/
import Derived.Test.YtigdmkhdmbbfiaaTd0
set_option linter.unusedSimpArgs false
set_option linter.unusedVariables false
set_option maxRecDepth 100000
namespace Go.Proofs.Ytigdmkhdmbbfiaa
open Go Go.Pv
/-! ### Sums -/
def sumL {α : Type} (f : α → Int) : List α → Int
 | [] => 0
 | x :: l => f x + sumL f l
section
variable {α β : Type} {f g : α → Int} {l m : List α}
theorem sumL_cap : capS f l l.length = sumL f l := by
 rw [capS, List.take_length]
 induction l with
 | nil => rfl
 | cons x l ih => rw [List.map_cons, List.sum_cons, ih, sumL]
theorem sumL_congr (h : ∀ x ∈ l, f x = g x) : sumL f l = sumL g l := by
 induction l with
 | nil => rfl
 | cons x l ih => rw [sumL, sumL, h x (by simp), ih fun y hy => h y (by simp [hy])]
theorem sumL_le (h : ∀ x ∈ l, f x ≤ g x) : sumL f l ≤ sumL g l := by
 induction l with
 | nil => exact Int.le_refl _
 | cons x l ih =>
   have h1 := h x (by simp)
   have h2 := ih fun y hy => h y (by simp [hy])
   rw [sumL, sumL]; omega
theorem sumL_nn (h : ∀ x ∈ l, 0 ≤ f x) : 0 ≤ sumL f l := by
 induction l with
 | nil => exact Int.le_refl _
 | cons x l ih =>
   have h1 := h x (by simp)
   have h2 := ih fun y hy => h y (by simp [hy])
   rw [sumL]; omega
theorem sumL_z (h : ∀ x ∈ l, f x = 0) : sumL f l = 0 := by
 induction l with
 | nil => rfl
 | cons x l ih => rw [sumL, h x (by simp), ih fun y hy => h y (by simp [hy])]; rfl
theorem sumL_add : sumL (fun x => f x + g x) l = sumL f l + sumL g l := by
 induction l with
 | nil => rfl
 | cons x l ih => rw [sumL, sumL, sumL, ih]; omega
theorem sumL_sub : sumL (fun x => f x - g x) l = sumL f l - sumL g l := by
 induction l with
 | nil => rfl
 | cons x l ih => rw [sumL, sumL, sumL, ih]; omega
theorem sumL_app : sumL f (l ++ m) = sumL f l + sumL f m := by
 induction l with
 | nil => rw [List.nil_append, sumL]; omega
 | cons x l ih => rw [List.cons_append, sumL, sumL, ih]; omega
theorem sumL_map {h : β → α} {l : List β} : sumL f (l.map h) = sumL (fun x => f (h x)) l := by
 induction l with
 | nil => rfl
 | cons x l ih => rw [List.map_cons, sumL, sumL, ih]
theorem sumL_flat {h : β → List α} {l : List β} : sumL f (l.flatMap h) = sumL (fun x => sumL f (h x)) l := by
 induction l with
 | nil => rfl
 | cons x l ih => rw [List.flatMap_cons, sumL_app, ih, sumL]
end
section
variable {f g : Nat → Int} {n : Nat}
theorem lvl_congr : ∀ {n : Nat}, (∀ i, i < n → f i = g i) → lvl f n = lvl g n
 | 0, _ => rfl
 | n + 1, h => by rw [lvl, lvl, h n (by omega), lvl_congr fun i hi => h i (by omega)]
theorem lvl_add : ∀ {n : Nat}, lvl (fun i => f i + g i) n = lvl f n + lvl g n
 | 0 => rfl
 | n + 1 => by rw [lvl, lvl, lvl, lvl_add]; omega
theorem lvl_sub : ∀ {n : Nat}, lvl (fun i => f i - g i) n = lvl f n - lvl g n
 | 0 => rfl
 | n + 1 => by rw [lvl, lvl, lvl, lvl_sub]; omega
theorem lvl_z : ∀ {n : Nat}, (∀ i, i < n → f i = 0) → lvl f n = 0
 | 0, _ => rfl
 | n + 1, h => by rw [lvl, h n (by omega), lvl_z fun i hi => h i (by omega)]; rfl
theorem lvl_ind {j : Nat} {w : Int} : ∀ {n : Nat}, lvl (fun i => if i = j then w else 0) n = if j < n then w else 0
 | 0 => rfl
 | n + 1 => by
   rw [lvl, lvl_ind]
   by_cases h : n = j
   · rw [if_pos h, if_neg (by omega), if_pos (by omega)]; omega
   · rw [if_neg h]
     by_cases h2 : j < n
     · rw [if_pos h2, if_pos (by omega)]; omega
     · rw [if_neg h2, if_neg (by omega)]; rfl
theorem lvl_sum {α : Type} {F : α → Nat → Int} : ∀ {l : List α}, lvl (fun p => sumL (fun x => F x p) l) n = sumL (fun x => lvl (F x) n) l
 | [] => lvl_z fun _ _ => rfl
 | x :: l => by
   rw [sumL, ← lvl_sum (l := l), ← lvl_add]
   exact lvl_congr fun i _ => rfl
end
theorem tab_sum {α : Type} {A : α → Nat → Nat → Bool} {c : α → Int} {l : List α} {p d : Nat} : tab A c l l.length p d = sumL (fun x => if A x p d = true then c x else 0) l := sumL_cap
/-! ### What trips meet is no more than a cut is worth -/
section
variable {t : Traffic} {l : List Trip} {c : List At}
end

end Go.Proofs.Ytigdmkhdmbbfiaa
