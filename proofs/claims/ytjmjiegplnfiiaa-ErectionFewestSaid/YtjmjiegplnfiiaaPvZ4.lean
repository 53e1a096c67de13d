/- Maps at states that are written out, by lists of keys and values; structs compared. -/
import Derived.Test.YtjmjiegplnfiiaaPvZ3
namespace Go.Pv
open Go
section
variable {α β : Type} [DecidableEq α]

def aGet (k : α) : List (α × β) → Option β
 | [] => none
 | e :: l => if k = e.1 then some e.2 else aGet k l
def aSet (k : α) (v : β) : List (α × β) → List (α × β)
 | [] => [(k, v)]
 | e :: l => if k = e.1 then (k, v) :: l else e :: aSet k v l
theorem aGet_aSet (k k' : α) (v : β) : ∀ l : List (α × β), aGet k' (aSet k v l) = if k' = k then some v else aGet k' l
 | [] => by simp [aSet, aGet]
 | e :: l => by
   unfold aSet
   split
   · rename_i h
     subst h
     simp only [aGet]
     by_cases hk : k' = e.1 <;> simp [hk]
   · rename_i h
     simp only [aGet, aGet_aSet k k' v l]
     by_cases hk : k' = e.1
     · rw [if_pos hk, if_neg (fun he => h (he.symm.trans hk)), if_pos hk]
     · simp [hk]

variable {f : α → PV} {g : β → PV}
def entsOf (f : α → PV) (g : β → PV) (l : List (α × β)) : List (PV × PV) := l.map fun e => (f e.1, g e.2)
theorem mapFind_of (hf : ∀ a b, keyEq (f a) (f b) = decide (a = b)) (k : α) : ∀ l, mapFind (f k) (entsOf f g l) = (aGet k l).map g
 | [] => rfl
 | e :: l => by
   show (if keyEq (f k) (f e.1) then some (g e.2) else mapFind (f k) (entsOf f g l)) = _
   rw [hf, mapFind_of hf k l]
   by_cases h : k = e.1 <;> simp [aGet, h]
theorem mapSet_of (hf : ∀ a b, keyEq (f a) (f b) = decide (a = b)) (k : α) (v : β) : ∀ l, mapSet (f k) (g v) (entsOf f g l) = entsOf f g (aSet k v l)
 | [] => rfl
 | e :: l => by
   show (if keyEq (f k) (f e.1) then (f k, g v) :: entsOf f g l else (f e.1, g e.2) :: mapSet (f k) (g v) (entsOf f g l)) = _
   rw [hf, mapSet_of hf k v l]
   by_cases h : k = e.1 <;> simp [aSet, h, entsOf]
variable {P : Program} {ρ : Operand → PV} {h : Heap} {key : Key} {x y z : Operand} {t t' : TypeId} {v : PV}

omit [DecidableEq α] in
theorem ents_ok {kt : TypeId} {l : List (α × β)} (hk : ∀ a, keyOk P kt (f a)) : ∀ e ∈ entsOf f g l, keyOk P kt e.1 := fun e he => by
 obtain ⟨a, _, rfl⟩ := List.mem_map.1 he
 exact hk a.1

/-! ### A map at a key: its entries; the stamps are right -/
def MapAt (h : Heap) (k : Key) (es : List (PV × PV)) : Prop :=
 ∃ (bs : List Nat) (clk : Nat), h k = some (.map es bs clk) ∧ bs.length = es.length ∧ bs.Nodup ∧ ∀ b ∈ bs, b < clk

theorem MapAt.keep {h h' : Heap} {k : Key} {es : List (PV × PV)} (hm : MapAt h k es) (he : h' k = h k) : MapAt h' k es := by
 obtain ⟨bs, clk, h1, h2⟩ := hm
 exact ⟨bs, clk, he.trans h1, h2⟩

omit [DecidableEq α] in
theorem MapAt.new {h : Heap} {k : Key} : MapAt (hset h k (some (.map [] [] 0))) k (entsOf f g []) := ⟨[], 0, by simp [hset, entsOf], rfl, List.nodup_nil, by simp⟩

theorem mapSet_len {k v : PV} : ∀ {es : List (PV × PV)}, (mapSet k v es).length = if (mapFind k es).isSome then es.length else es.length + 1
 | [] => by simp [mapSet, mapFind]
 | e :: es => by
   unfold mapSet mapFind
   split
   · simp
   · rw [List.length_cons, mapSet_len]
     split <;> simp

def mSet (o : Option PObj) (k v : PV) : PObj :=
 match o with
 | some (.map es bs clk) => .map (mapSet k v es) (stB k es bs clk) (stC k es clk)
 | _ => .map [] [] 0
theorem MapAt.set {h : Heap} {k : Key} {l : List (α × β)} (hf : ∀ a b, keyEq (f a) (f b) = decide (a = b)) (hm : MapAt h k (entsOf f g l)) (a : α) (b : β) : MapAt (hset h k (some (mSet (h k) (f a) (g b)))) k (entsOf f g (aSet a b l)) := by
 obtain ⟨bs, clk, h1, h2, h3, h4⟩ := hm
 refine ⟨stB (f a) (entsOf f g l) bs clk, stC (f a) (entsOf f g l) clk, ?_, ?_, ?_, ?_⟩
 · simp only [hset, if_true, h1, mSet, mapSet_of hf]
 · rw [← mapSet_of hf, mapSet_len]
   unfold stB
   split <;> simp [h2]
 · unfold stB
   split
   · exact h3
   · refine List.nodup_append.2 ⟨h3, by simp, fun x hx y hy => ?_⟩
     simp at hy; subst hy
     have := h4 x hx; omega
 · unfold stB stC
   split
   · exact h4
   · intro x hx
     rcases List.mem_append.1 hx with h | h
     · have := h4 x h; omega
     · simp at h; omega

theorem e_mkmap : eff P ρ h key (.makeMap t none) = ⟨True, .map key, [(key, some (.map [] [] 0))], [], true⟩ := by
 simp only [eff, Option.isNone_none]

/-- A map asked for a key, for the value alone. -/
theorem e_look {kt et : TypeId} {k : Key} {l : List (α × β)} {a : α} {z : β} (hf : ∀ a b, keyEq (f a) (f b) = decide (a = b)) (hko : ∀ a, keyOk P kt (f a)) (hx : ρ x = .map k) (hy : ρ y = f a) (hm : MapAt h k (entsOf f g l)) (ht : mapTy P t = some (kt, et)) (hz : zeroFit P et = true) (hzv : zeroVal P et = g z) :
   eff P ρ h key (.lookup t x y false) = ⟨True, g ((aGet a l).getD z), [], [k], false⟩ := by
 have h1 : lookRes P et false (mapFind (f a) (entsOf f g l)) = g ((aGet a l).getD z) := by
   rw [mapFind_of hf]
   unfold lookRes
   rw [hzv]
   cases aGet a l <;> rfl
 obtain ⟨bs, clk, hm, _⟩ := hm
 simp only [eff, hx, hy, lookupEff, ht, hm, h1, hz]
 simp [hko a]
 exact fun u w hu => ents_ok (g := g) (l := l) hko (u, w) hu
theorem e_mset {kt et : TypeId} {k : Key} {l : List (α × β)} {a : α} {b : β} (hf : ∀ a b, keyEq (f a) (f b) = decide (a = b)) (hko : ∀ a, keyOk P kt (f a)) (hx : ρ x = .map k) (hy : ρ y = f a) (hz : ρ z = g b) (hc : (g b).cell = true) (hm : MapAt h k (entsOf f g l)) (ht : mapTy P t = some (kt, et)) :
   eff P ρ h key (.mapUpdate t x y z) = ⟨True, .dead, [(k, some (mSet (h k) (f a) (g b)))], [k], false⟩ := by
 obtain ⟨bs, clk, hm, _⟩ := hm
 simp only [eff, hx, hy, hz, mapUpdateEff, ht, hm, mSet, mval_cell hc]
 simp [hko a]
 exact fun u w hu => ents_ok (g := g) (l := l) hko (u, w) hu
/-! ### Iteration over a map -/
end
end Go.Pv
