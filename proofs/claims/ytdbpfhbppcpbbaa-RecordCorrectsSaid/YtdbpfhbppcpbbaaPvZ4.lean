/- Maps at states that are written out, by lists of keys and values; structs compared. -/
import Derived.Test.YtdbpfhbppcpbbaaPvZ3
namespace Go.Pv
open Go
section
variable {α β : Type} [DecidableEq α]

def aGet (k : α) : List (α × β) → Option β
  | [] => none
  | e :: l => if k = e.1 then some e.2 else aGet k l
def aSet (k : α) (v : β) : List (α × β) → List (α × β)
  | [] => [(k, v)]
  | e :: l => if k = e.1 then (k, v) :: l else e :: aSet k v l
def aDel (k : α) : List (α × β) → List (α × β)
  | [] => []
  | e :: l => if k = e.1 then l else e :: aDel k l

theorem aGet_aSet (k k' : α) (v : β) : ∀ l : List (α × β), aGet k' (aSet k v l) = if k' = k then some v else aGet k' l
  | [] => by simp [aSet, aGet]
  | e :: l => by
    unfold aSet
    split
    · rename_i h
      subst h
      simp only [aGet]
      by_cases hk : k' = e.1 <;> simp [hk]
    · rename_i h
      simp only [aGet, aGet_aSet k k' v l]
      by_cases hk : k' = e.1
      · rw [if_pos hk, if_neg (fun he => h (he.symm.trans hk)), if_pos hk]
      · simp [hk]

def ANodup (l : List (α × β)) : Prop := (l.map (·.1)).Nodup
theorem aGet_none {k : α} : ∀ {l : List (α × β)}, k ∉ l.map (·.1) → aGet k l = none
  | [], _ => rfl
  | e :: l, h => by
    simp only [List.map_cons, List.mem_cons, not_or] at h
    simp only [aGet, if_neg h.1]
    exact aGet_none h.2
theorem aGet_aDel (k k' : α) : ∀ l : List (α × β), ANodup l → aGet k' (aDel k l) = if k' = k then none else aGet k' l
  | [], _ => by simp [aDel, aGet]
  | e :: l, hn => by
    have hn' : e.1 ∉ l.map (·.1) ∧ ANodup l := by simpa [ANodup] using hn
    unfold aDel
    split
    · rename_i h
      subst h
      by_cases hk : k' = e.1
      · subst hk; rw [if_pos rfl]; exact aGet_none hn'.1
      · simp [aGet, hk]
    · rename_i h
      simp only [aGet, aGet_aDel k k' l hn'.2]
      by_cases hk : k' = e.1
      · rw [if_pos hk, if_neg (fun he => h (he.symm.trans hk)), if_pos hk]
      · simp [hk]
theorem mem_aSet {k : α} {v : β} {x : α} : ∀ {l : List (α × β)}, x ∈ (aSet k v l).map (·.1) → x = k ∨ x ∈ l.map (·.1)
  | [], h => by simp [aSet] at h; exact .inl h
  | e :: l, h => by
    unfold aSet at h
    split at h
    · simp only [List.map_cons, List.mem_cons] at h ⊢
      rcases h with h | h
      · exact .inl h
      · exact .inr (.inr h)
    · simp only [List.map_cons, List.mem_cons] at h ⊢
      rcases h with h | h
      · exact .inr (.inl h)
      · rcases mem_aSet h with h | h
        · exact .inl h
        · exact .inr (.inr h)
theorem ANodup.aSet {k : α} {v : β} : ∀ {l : List (α × β)}, ANodup l → ANodup (aSet k v l)
  | [], _ => by simp [ANodup, Pv.aSet]
  | e :: l, hn => by
    have hn' : e.1 ∉ l.map (·.1) ∧ ANodup l := by simpa [ANodup] using hn
    unfold Pv.aSet
    split
    · rename_i h; subst h; exact hn
    · rename_i h
      show ((e :: Pv.aSet k v l).map (·.1)).Nodup
      rw [List.map_cons, List.nodup_cons]
      refine ⟨fun hm => ?_, hn'.2.aSet⟩
      rcases mem_aSet hm with h1 | h1
      · exact h h1.symm
      · exact hn'.1 h1
theorem aDel_sub {k : α} : ∀ l : List (α × β), (aDel k l).Sublist l
  | [] => .slnil
  | e :: l => by
    unfold aDel
    split
    · exact .cons _ (.refl _)
    · exact .cons_cons _ (aDel_sub l)
theorem ANodup.aDel {k : α} {l : List (α × β)} (h : ANodup l) : ANodup (aDel k l) := List.Nodup.sublist ((aDel_sub l).map _) h
theorem aSet_same {k : α} {v : β} : ∀ {l : List (α × β)}, (aSet k v l).length = if k ∈ l.map (·.1) then l.length else l.length + 1
  | [] => by simp [aSet]
  | e :: l => by
    unfold aSet
    split
    · rename_i h; simp [h]
    · rename_i h
      rw [List.length_cons, aSet_same (l := l)]
      by_cases hm : k ∈ l.map (·.1)
      · simp only [if_pos hm, List.map_cons, List.mem_cons, hm, or_true, if_true, List.length_cons]
      · rw [if_neg hm, if_neg (by rw [List.map_cons, List.mem_cons]; exact fun hc => hc.elim h hm)]; rfl

variable {f : α → PV} {g : β → PV}
def entsOf (f : α → PV) (g : β → PV) (l : List (α × β)) : List (PV × PV) := l.map fun e => (f e.1, g e.2)
theorem mapFind_of (hf : ∀ a b, keyEq (f a) (f b) = decide (a = b)) (k : α) : ∀ l, mapFind (f k) (entsOf f g l) = (aGet k l).map g
  | [] => rfl
  | e :: l => by
    show (if keyEq (f k) (f e.1) then some (g e.2) else mapFind (f k) (entsOf f g l)) = _
    rw [hf, mapFind_of hf k l]
    by_cases h : k = e.1 <;> simp [aGet, h]
theorem mapSet_of (hf : ∀ a b, keyEq (f a) (f b) = decide (a = b)) (k : α) (v : β) : ∀ l, mapSet (f k) (g v) (entsOf f g l) = entsOf f g (aSet k v l)
  | [] => rfl
  | e :: l => by
    show (if keyEq (f k) (f e.1) then (f k, g v) :: entsOf f g l else (f e.1, g e.2) :: mapSet (f k) (g v) (entsOf f g l)) = _
    rw [hf, mapSet_of hf k v l]
    by_cases h : k = e.1 <;> simp [aSet, h, entsOf]
theorem mapDel_of (hf : ∀ a b, keyEq (f a) (f b) = decide (a = b)) (k : α) : ∀ l, mapDel (f k) (entsOf f g l) = entsOf f g (aDel k l)
  | [] => rfl
  | e :: l => by
    show (if keyEq (f k) (f e.1) then entsOf f g l else (f e.1, g e.2) :: mapDel (f k) (entsOf f g l)) = _
    rw [hf, mapDel_of hf k l]
    by_cases h : k = e.1 <;> simp [aDel, h, entsOf]

variable {P : Program} {ρ : Operand → PV} {h : Heap} {key : Key} {x y z : Operand} {t t' : TypeId} {v : PV}

theorem e_mkmap : eff P ρ h key (.makeMap t none) = ⟨True, .map key, [(key, some (.map []))], [], true⟩ := by
  simp only [eff, Option.isNone_none]

omit [DecidableEq α] in
theorem ents_ok {kt : TypeId} {l : List (α × β)} (hk : ∀ a, keyOk P kt (f a)) : ∀ e ∈ entsOf f g l, keyOk P kt e.1 := fun e he => by
  obtain ⟨a, _, rfl⟩ := List.mem_map.1 he
  exact hk a.1

/-- A map asked for a key, for the value alone. -/
theorem e_look {kt et : TypeId} {k : Key} {l : List (α × β)} {a : α} {z : β} (hf : ∀ a b, keyEq (f a) (f b) = decide (a = b)) (hko : ∀ a, keyOk P kt (f a)) (hx : ρ x = .map k) (hy : ρ y = f a) (hm : h k = some (.map (entsOf f g l))) (ht : mapTy P t = some (kt, et)) (hz : zeroFit P et = true) (hzv : zeroVal P et = g z) :
    eff P ρ h key (.lookup t x y false) = ⟨True, g ((aGet a l).getD z), [], [k], false⟩ := by
  have h1 : lookRes P et false (mapFind (f a) (entsOf f g l)) = g ((aGet a l).getD z) := by
    rw [mapFind_of hf]
    unfold lookRes
    rw [hzv]
    cases aGet a l <;> rfl
  simp only [eff, hx, hy, lookupEff, ht, hm, h1, hz]
  simp [hko a, ents_ok (g := g) (l := l) hko]
  exact fun u w hu => ents_ok (g := g) (l := l) hko (u, w) hu
theorem e_mset {kt et : TypeId} {k : Key} {l : List (α × β)} {a : α} {b : β} (hf : ∀ a b, keyEq (f a) (f b) = decide (a = b)) (hko : ∀ a, keyOk P kt (f a)) (hx : ρ x = .map k) (hy : ρ y = f a) (hz : ρ z = g b) (hc : (g b).cell = true) (hm : h k = some (.map (entsOf f g l))) (ht : mapTy P t = some (kt, et)) :
    eff P ρ h key (.mapUpdate t x y z) = ⟨True, .dead, [(k, some (.map (entsOf f g (aSet a b l))))], [k], false⟩ := by
  simp only [eff, hx, hy, hz, mapUpdateEff, ht, hm, mapSet_of hf, hc]
  simp [hko a]
  exact fun u w hu => ents_ok (g := g) (l := l) hko (u, w) hu
theorem e_mdel {kt et : TypeId} {k : Key} {l : List (α × β)} {a : α} (hf : ∀ a b, keyEq (f a) (f b) = decide (a = b)) (hko : ∀ a, keyOk P kt (f a)) (hx : ρ x = .map k) (hy : ρ y = f a) (hm : h k = some (.map (entsOf f g l))) (ht : mapTy P t = some (kt, et)) {ts : Array TypeId} (hts : ts.toList = [t, t']) :
    eff P ρ h key (.call { callee := .builtin .delete, args := #[x, y], argTypes := ts }) = ⟨True, .tup [], [(k, some (.map (entsOf f g (aDel a l))))], [k], false⟩ := by
  show builtinEff P h key .delete ts.toList [ρ x, ρ y] = _
  rw [hts, hx, hy]
  simp only [builtinEff, mapDeleteEff, ht, hm, mapDel_of hf]
  simp [hko a]
  exact fun u w hu => ents_ok (g := g) (l := l) hko (u, w) hu
omit [DecidableEq α] in
theorem e_aeq {a b : List PV} {c : Bool} (hx : ρ x = .agg a) (hy : ρ y = .agg b) (hg : P.eqGuardType P.depth t = false) (ho : eqOk P 6 t (.agg a) (.agg b) = true) (hv : eqV P 6 t (.agg a) (.agg b) = c) :
    eff P ρ h key (.binOp .eql t x y t') = ⟨True, .bool c, [], [], false⟩ := by
  simp only [eff, hx, hy, binEffN, binEff, eqBin, hg, ho, hv]; simp
omit [DecidableEq α] in
theorem e_ane {a b : List PV} {c : Bool} (hx : ρ x = .agg a) (hy : ρ y = .agg b) (hg : P.eqGuardType P.depth t = false) (ho : eqOk P 6 t (.agg a) (.agg b) = true) (hv : eqV P 6 t (.agg a) (.agg b) = c) :
    eff P ρ h key (.binOp .neq t x y t') = ⟨True, .bool (!c), [], [], false⟩ := by
  simp only [eff, hx, hy, binEffN, binEff, eqBin, hg, ho, hv]; simp
end
end Go.Pv
