/- Maps at states that are written out, by lists of keys and values; structs compared. -/
import Derived.Test.YtjmjiegplnfiiaaPvZ3
namespace Go.Pv
open Go
section
variable {α β : Type} [DecidableEq α]

def aGet (k : α) : List (α × β) → Option β
  | [] => none
  | e :: l => if k = e.1 then some e.2 else aGet k l
def aSet (k : α) (v : β) : List (α × β) → List (α × β)
  | [] => [(k, v)]
  | e :: l => if k = e.1 then (k, v) :: l else e :: aSet k v l
theorem aGet_aSet (k k' : α) (v : β) : ∀ l : List (α × β), aGet k' (aSet k v l) = if k' = k then some v else aGet k' l
  | [] => by simp [aSet, aGet]
  | e :: l => by
    unfold aSet
    split
    · rename_i h
      subst h
      simp only [aGet]
      by_cases hk : k' = e.1 <;> simp [hk]
    · rename_i h
      simp only [aGet, aGet_aSet k k' v l]
      by_cases hk : k' = e.1
      · rw [if_pos hk, if_neg (fun he => h (he.symm.trans hk)), if_pos hk]
      · simp [hk]

def ANodup (l : List (α × β)) : Prop := (l.map (·.1)).Nodup
theorem mem_aSet {k : α} {v : β} {x : α} : ∀ {l : List (α × β)}, x ∈ (aSet k v l).map (·.1) → x = k ∨ x ∈ l.map (·.1)
  | [], h => by simp [aSet] at h; exact .inl h
  | e :: l, h => by
    unfold aSet at h
    split at h
    · simp only [List.map_cons, List.mem_cons] at h ⊢
      rcases h with h | h
      · exact .inl h
      · exact .inr (.inr h)
    · simp only [List.map_cons, List.mem_cons] at h ⊢
      rcases h with h | h
      · exact .inr (.inl h)
      · rcases mem_aSet h with h | h
        · exact .inl h
        · exact .inr (.inr h)
theorem ANodup.aSet {k : α} {v : β} : ∀ {l : List (α × β)}, ANodup l → ANodup (aSet k v l)
  | [], _ => by simp [ANodup, Pv.aSet]
  | e :: l, hn => by
    have hn' : e.1 ∉ l.map (·.1) ∧ ANodup l := by simpa [ANodup] using hn
    unfold Pv.aSet
    split
    · rename_i h; subst h; exact hn
    · rename_i h
      show ((e :: Pv.aSet k v l).map (·.1)).Nodup
      rw [List.map_cons, List.nodup_cons]
      refine ⟨fun hm => ?_, hn'.2.aSet⟩
      rcases mem_aSet hm with h1 | h1
      · exact h h1.symm
      · exact hn'.1 h1
variable {f : α → PV} {g : β → PV}
def entsOf (f : α → PV) (g : β → PV) (l : List (α × β)) : List (PV × PV) := l.map fun e => (f e.1, g e.2)
theorem mapFind_of (hf : ∀ a b, keyEq (f a) (f b) = decide (a = b)) (k : α) : ∀ l, mapFind (f k) (entsOf f g l) = (aGet k l).map g
  | [] => rfl
  | e :: l => by
    show (if keyEq (f k) (f e.1) then some (g e.2) else mapFind (f k) (entsOf f g l)) = _
    rw [hf, mapFind_of hf k l]
    by_cases h : k = e.1 <;> simp [aGet, h]
theorem mapSet_of (hf : ∀ a b, keyEq (f a) (f b) = decide (a = b)) (k : α) (v : β) : ∀ l, mapSet (f k) (g v) (entsOf f g l) = entsOf f g (aSet k v l)
  | [] => rfl
  | e :: l => by
    show (if keyEq (f k) (f e.1) then (f k, g v) :: entsOf f g l else (f e.1, g e.2) :: mapSet (f k) (g v) (entsOf f g l)) = _
    rw [hf, mapSet_of hf k v l]
    by_cases h : k = e.1 <;> simp [aSet, h, entsOf]
variable {P : Program} {ρ : Operand → PV} {h : Heap} {key : Key} {x y z : Operand} {t t' : TypeId} {v : PV}

omit [DecidableEq α] in
theorem ents_ok {kt : TypeId} {l : List (α × β)} (hk : ∀ a, keyOk P kt (f a)) : ∀ e ∈ entsOf f g l, keyOk P kt e.1 := fun e he => by
  obtain ⟨a, _, rfl⟩ := List.mem_map.1 he
  exact hk a.1

/-! ### A map at a key: its entries; the stamps are right -/
def MapAt (h : Heap) (k : Key) (es : List (PV × PV)) : Prop :=
  ∃ (bs : List Nat) (clk : Nat), h k = some (.map es bs clk) ∧ bs.length = es.length ∧ bs.Nodup ∧ ∀ b ∈ bs, b < clk

theorem MapAt.keep {h h' : Heap} {k : Key} {es : List (PV × PV)} (hm : MapAt h k es) (he : h' k = h k) : MapAt h' k es := by
  obtain ⟨bs, clk, h1, h2⟩ := hm
  exact ⟨bs, clk, he.trans h1, h2⟩

omit [DecidableEq α] in
theorem MapAt.new {h : Heap} {k : Key} : MapAt (hset h k (some (.map [] [] 0))) k (entsOf f g []) := ⟨[], 0, by simp [hset, entsOf], rfl, List.nodup_nil, by simp⟩

theorem mapSet_len {k v : PV} : ∀ {es : List (PV × PV)}, (mapSet k v es).length = if (mapFind k es).isSome then es.length else es.length + 1
  | [] => by simp [mapSet, mapFind]
  | e :: es => by
    unfold mapSet mapFind
    split
    · simp
    · rw [List.length_cons, mapSet_len]
      split <;> simp

def mSet (o : Option PObj) (k v : PV) : PObj :=
  match o with
  | some (.map es bs clk) => .map (mapSet k v es) (stB k es bs clk) (stC k es clk)
  | _ => .map [] [] 0
theorem MapAt.set {h : Heap} {k : Key} {l : List (α × β)} (hf : ∀ a b, keyEq (f a) (f b) = decide (a = b)) (hm : MapAt h k (entsOf f g l)) (a : α) (b : β) : MapAt (hset h k (some (mSet (h k) (f a) (g b)))) k (entsOf f g (aSet a b l)) := by
  obtain ⟨bs, clk, h1, h2, h3, h4⟩ := hm
  refine ⟨stB (f a) (entsOf f g l) bs clk, stC (f a) (entsOf f g l) clk, ?_, ?_, ?_, ?_⟩
  · simp only [hset, if_true, h1, mSet, mapSet_of hf]
  · rw [← mapSet_of hf, mapSet_len]
    unfold stB
    split <;> simp [h2]
  · unfold stB
    split
    · exact h3
    · refine List.nodup_append.2 ⟨h3, by simp, fun x hx y hy => ?_⟩
      simp at hy; subst hy
      have := h4 x hx; omega
  · unfold stB stC
    split
    · exact h4
    · intro x hx
      rcases List.mem_append.1 hx with h | h
      · have := h4 x h; omega
      · simp at h; omega

theorem e_mkmap : eff P ρ h key (.makeMap t none) = ⟨True, .map key, [(key, some (.map [] [] 0))], [], true⟩ := by
  simp only [eff, Option.isNone_none]

/-- A map asked for a key, for the value alone. -/
theorem e_look {kt et : TypeId} {k : Key} {l : List (α × β)} {a : α} {z : β} (hf : ∀ a b, keyEq (f a) (f b) = decide (a = b)) (hko : ∀ a, keyOk P kt (f a)) (hx : ρ x = .map k) (hy : ρ y = f a) (hm : MapAt h k (entsOf f g l)) (ht : mapTy P t = some (kt, et)) (hz : zeroFit P et = true) (hzv : zeroVal P et = g z) :
    eff P ρ h key (.lookup t x y false) = ⟨True, g ((aGet a l).getD z), [], [k], false⟩ := by
  have h1 : lookRes P et false (mapFind (f a) (entsOf f g l)) = g ((aGet a l).getD z) := by
    rw [mapFind_of hf]
    unfold lookRes
    rw [hzv]
    cases aGet a l <;> rfl
  obtain ⟨bs, clk, hm, _⟩ := hm
  simp only [eff, hx, hy, lookupEff, ht, hm, h1, hz]
  simp [hko a]
  exact fun u w hu => ents_ok (g := g) (l := l) hko (u, w) hu
theorem e_mset {kt et : TypeId} {k : Key} {l : List (α × β)} {a : α} {b : β} (hf : ∀ a b, keyEq (f a) (f b) = decide (a = b)) (hko : ∀ a, keyOk P kt (f a)) (hx : ρ x = .map k) (hy : ρ y = f a) (hz : ρ z = g b) (hc : (g b).cell = true) (hm : MapAt h k (entsOf f g l)) (ht : mapTy P t = some (kt, et)) :
    eff P ρ h key (.mapUpdate t x y z) = ⟨True, .dead, [(k, some (mSet (h k) (f a) (g b)))], [k], false⟩ := by
  obtain ⟨bs, clk, hm, _⟩ := hm
  simp only [eff, hx, hy, hz, mapUpdateEff, ht, hm, mSet, mval_cell hc]
  simp [hko a]
  exact fun u w hu => ents_ok (g := g) (l := l) hko (u, w) hu
/-! ### Iteration over a map -/
def clkOf (o : Option PObj) : Nat :=
  match o with
  | some (.map _ _ clk) => clk
  | _ => 0

/-- Where an iteration stands: what is still to come (each with its stamp). -/
def IterAt (h : Heap) (kit km : Key) (es : List (PV × PV)) (rem : List ((PV × PV) × Nat)) (cur : Option (PV × PV)) : Prop :=
  ∃ (bs : List Nat) (clk : Nat) (seen : List Nat), h kit = some (.iter km clk seen) ∧ h km = some (.map es bs clk) ∧ bs.length = es.length ∧ bs.Nodup ∧ (∀ b ∈ bs, b < clk) ∧ rem = leftOf es bs seen ∧ (∀ e, cur = some e → entryOf es bs seen = some e)

theorem IterAt.start {h : Heap} {kit km : Key} {es : List (PV × PV)} (hne : km ≠ kit) (hm : MapAt h km es) : ∃ rem, IterAt (hset h kit (some (.iter km (clkOf (h km)) []))) kit km es rem none ∧ rem.map (·.1) = es := by
  obtain ⟨bs, clk, h1, h2, h3, h4⟩ := hm
  refine ⟨leftOf es bs [], ⟨bs, clk, [], by simp [hset, h1, clkOf], by simp [hset, hne, h1], h2, h3, h4, rfl, by simp⟩, ?_⟩
  unfold leftOf
  rw [List.filter_eq_self.2 (by simp)]
  exact List.map_fst_zip (Nat.le_of_eq h2.symm)

theorem entryOf_snoc {es : List (PV × PV)} {bs seen : List Nat} (hl : bs.length = es.length) (hn : bs.Nodup) {p : (PV × PV) × Nat} (hp : p ∈ leftOf es bs seen) : entryOf es bs (seen ++ [p.2]) = some p.1 := by
  have hz : p ∈ es.zip bs := (List.mem_filter.1 hp).1
  unfold entryOf
  rw [List.getLast?_concat]
  simp only
  have key : ∀ (es : List (PV × PV)) (bs : List Nat), bs.Nodup → p ∈ es.zip bs → ((es.zip bs).find? fun q => q.2 == p.2).map (·.1) = some p.1 := by
    intro es
    induction es with
    | nil => intro bs _ h; simp at h
    | cons e es ih =>
      intro bs hn h
      cases bs with
      | nil => simp at h
      | cons b bs =>
        rw [List.zip_cons_cons] at h ⊢
        rw [List.find?_cons]
        rcases List.mem_cons.1 h with h | h
        · subst h; simp
        · have hb : p.2 ∈ bs := (List.of_mem_zip (a := p.1) (b := p.2) h).2
          have hne : (b == p.2) = false := by
            rw [beq_eq_false_iff_ne]
            intro e1
            subst e1
            exact (List.nodup_cons.1 hn).1 hb
          simp only [hne]
          exact ih bs (List.nodup_cons.1 hn).2 h
  exact key es bs hn hz

/-- What is left behind a step is what was left, without the entry that came. -/
theorem IterAt.step {h : Heap} {kit km : Key} {es : List (PV × PV)} {rem : List ((PV × PV) × Nat)} {cur : Option (PV × PV)} (hne : km ≠ kit) (hi : IterAt h kit km es rem cur) :
    ∃ bs clk seen, h kit = some (.iter km clk seen) ∧ h km = some (.map es bs clk) ∧ (∀ b ∈ bs, b < clk) ∧ rem = leftOf es bs seen ∧
      ∀ p ∈ rem, ∃ l1 l2, rem = l1 ++ p :: l2 ∧ IterAt (hset h kit (some (.iter km clk (seen ++ [p.2])))) kit km es (l1 ++ l2) (some p.1) := by
  obtain ⟨bs, clk, seen, h1, h2, h3, h4, h5, h6, _⟩ := hi
  refine ⟨bs, clk, seen, h1, h2, h5, h6, fun p hp => ?_⟩
  have hnd : (rem.map (·.2)).Nodup := by
    rw [h6]
    refine List.Nodup.sublist (List.Sublist.map _ List.filter_sublist) ?_
    rw [List.map_snd_zip (Nat.le_of_eq h3)]
    exact h4
  obtain ⟨l1, l2, hl⟩ := List.append_of_mem hp
  refine ⟨l1, l2, hl, bs, clk, seen ++ [p.2], by simp [hset], by simp [hset, hne, h2], h3, h4, h5, ?_, fun e he => ?_⟩
  · have h7 : leftOf es bs (seen ++ [p.2]) = rem.filter fun q => !(q.2 == p.2) := by
      rw [h6]; unfold leftOf
      rw [List.filter_filter]
      congr 1
      funext q
      rw [Bool.eq_iff_iff]
      simp
      exact and_comm
    rw [h7, hl, List.filter_append, List.filter_cons]
    rw [hl, List.map_append, List.map_cons, List.nodup_append] at hnd
    obtain ⟨_, hb, hc⟩ := hnd
    have ha : ∀ q ∈ l1, (!(q.2 == p.2)) = true := fun q hq => by
      have := hc q.2 (List.mem_map_of_mem hq) p.2 (by simp)
      simpa using this
    have hb' : ∀ q ∈ l2, (!(q.2 == p.2)) = true := fun q hq => by
      have h8 := (List.nodup_cons.1 hb).1
      have : q.2 ≠ p.2 := fun e => h8 (by rw [← e]; exact List.mem_map_of_mem hq)
      simpa using this
    rw [List.filter_eq_self.2 ha, List.filter_eq_self.2 hb']
    simp
  · cases he
    rw [h6] at hp
    exact entryOf_snoc h3 h4 hp

theorem IterAt.keep {h h' : Heap} {kit km : Key} {es : List (PV × PV)} {rem : List ((PV × PV) × Nat)} {cur cur' : Option (PV × PV)} (hi : IterAt h kit km es rem cur) (h1 : h' kit = h kit) (h2 : h' km = h km) (hc : cur' = none ∨ cur' = cur) : IterAt h' kit km es rem cur' := by
  obtain ⟨bs, clk, seen, a1, a2, a3, a4, a5, a6, a7⟩ := hi
  refine ⟨bs, clk, seen, h1.trans a1, h2.trans a2, a3, a4, a5, a6, ?_⟩
  rcases hc with rfl | rfl
  · simp
  · exact a7

end
end Go.Pv
