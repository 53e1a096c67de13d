/- Iteration over a map of typed entries; arrays; rows of texts. -/
import Derived.Test.YtjmjiegplnfiiaaPvZ5
namespace Go.Pv
open Go
section
variable {α β : Type} [DecidableEq α] {f : α → PV} {g : β → PV}

def entT (f : α → PV) (g : β → PV) (q : (α × β) × Nat) : (PV × PV) × Nat := ((f q.1.1, g q.1.2), q.2)

/-- Where an iteration stands: what is still to come, the entry that came last. -/
def IterT (f : α → PV) (g : β → PV) (h : Heap) (kit km : Key) (l : List (α × β)) (rem : List ((α × β) × Nat)) (cur : Option (α × β)) : Prop :=
  IterAt h kit km (entsOf f g l) (rem.map (entT f g)) (cur.map fun e => (f e.1, g e.2))

omit [DecidableEq α] in
theorem IterT.start {h : Heap} {kit km : Key} {l : List (α × β)} (hne : km ≠ kit) (hm : MapAt h km (entsOf f g l)) : ∃ rem, IterT f g (hset h kit (some (.iter km (clkOf (h km)) []))) kit km l rem none ∧ rem.map (·.1) = l := by
  obtain ⟨rem, h1, h2⟩ := IterAt.start hne hm
  have hlen : rem.length = l.length := by have := congrArg List.length h2; simpa [entsOf] using this
  refine ⟨l.zip (rem.map (·.2)), ?_, List.map_fst_zip (by simp [hlen])⟩
  have : (l.zip (rem.map (·.2))).map (entT f g) = rem := by
    apply List.ext_getElem?
    intro i
    have h3 := congrArg (·[i]?) h2
    simp only [entsOf, List.getElem?_map] at h3
    rw [List.getElem?_map]
    cases hq : l[i]? with
    | none =>
      have h4 : rem[i]? = none := by rw [List.getElem?_eq_none_iff] at hq ⊢; omega
      rw [h4]
      have : (l.zip (rem.map (·.2)))[i]? = none := by
        rw [List.getElem?_eq_none_iff, List.length_zip]
        rw [List.getElem?_eq_none_iff] at hq
        omega
      rw [this]; rfl
    | some a =>
      rw [hq] at h3
      cases hr : rem[i]? with
      | none => rw [hr] at h3; cases h3
      | some q =>
        rw [hr] at h3
        simp only [Option.map_some, Option.some.injEq] at h3
        have : (l.zip (rem.map (·.2)))[i]? = some (a, q.2) := by
          rw [List.getElem?_zip_eq_some]
          exact ⟨hq, by rw [List.getElem?_map, hr]; rfl⟩
        rw [this]
        obtain ⟨q1, q2⟩ := q
        simp only at h3
        simp only [Option.map_some, entT, h3]
  unfold IterT
  rw [this]
  exact h1

omit [DecidableEq α] in
/-- One step. -/
theorem IterT.step {h : Heap} {kit km : Key} {l : List (α × β)} {rem : List ((α × β) × Nat)} {cur : Option (α × β)} (hne : km ≠ kit) (hi : IterT f g h kit km l rem cur) (hr : rem ≠ []) :
    ∃ es bs clk seen, h kit = some (.iter km clk seen) ∧ h km = some (.map es bs clk) ∧ (∀ b ∈ bs, b < clk) ∧ leftOf es bs seen ≠ [] ∧
      ∀ p ∈ leftOf es bs seen, ∃ l1 x l2, rem = l1 ++ x :: l2 ∧ p = entT f g x ∧ IterT f g (hset h kit (some (.iter km clk (seen ++ [p.2])))) kit km l (l1 ++ l2) (some x.1) := by
  obtain ⟨bs, clk, seen, h1, h2, h3, h4, h5⟩ := IterAt.step hne hi
  refine ⟨_, bs, clk, seen, h1, h2, h3, by rw [← h4]; simpa using hr, fun p hp => ?_⟩
  rw [← h4] at hp
  obtain ⟨m1, m2, h6, h7⟩ := h5 p hp
  obtain ⟨l1, r1, h8, h9, h10⟩ := List.map_eq_append_iff.1 h6
  obtain ⟨x, l2, h11, h12, h13⟩ := List.map_eq_cons_iff.1 h10
  refine ⟨l1, x, l2, by rw [h8, h11], h12.symm, ?_⟩
  unfold IterT
  rw [List.map_append, h9, h13]
  have : p.1 = (f x.1.1, g x.1.2) := by rw [← h12]; rfl
  simp only [Option.map_some]
  rw [← this]
  exact h7

omit [DecidableEq α] in
theorem IterT.keep {h h' : Heap} {kit km : Key} {l : List (α × β)} {rem : List ((α × β) × Nat)} {cur : Option (α × β)} (hi : IterT f g h kit km l rem cur) (h1 : h' kit = h kit) (h2 : h' km = h km) : IterT f g h' kit km l rem cur :=
  IterAt.keep hi h1 h2 (.inr rfl)

variable {P : Program} {ρ : Operand → PV} {h : Heap} {key : Key} {x y : Operand} {t : TypeId}
omit [DecidableEq α] in
theorem MapAt.at {h h' : Heap} {k : Key} {es : List (PV × PV)} (hm : MapAt h k es) (he : h' = h) : MapAt h' k es := he ▸ hm
end

/-! ### Arrays -/
section
variable {P : Program} {ρ : Operand → PV} {h : Heap} {key : Key} {x y : Operand} {t : TypeId}
end

/-! ### An own slice in another place of the text -/
/-! ### Rows of texts -/
def cb (s : ByteArray) : List PV := [.str s]
theorem cb_pure (s : ByteArray) : ∀ p ∈ cb s, Pure p := fun p hp => by simp [cb] at hp; subst hp; exact .sc _
end Go.Pv

namespace Go.Pv
open Go Go.RowKit
/-! ### Appends in drawn regions; parts of own slices as what is appended -/
section
variable {P : Program} {K : PS → Prop} {d : Nat} {op : Op} {ty : TypeId} {pos : String} {aft : Array Edge} {rest : List Oper} {r : Nat → PV} {h : Heap} {cnt : Nat → Nat} {ops : Array Oper} {i : Nat} {G : Nat → Bool} {dd : Bool} {x y : Operand} {t : TypeId}

def SrcAt (h : Heap) (ds : List Nat) (sz : Nat) (u : PV) (rows : Rows) : Prop := (srcRows h sz u).1 ∧ (srcRows h sz u).2.1 = rows ∧ ∀ k ∈ (srcRows h sz u).2.2, k.1 ∈ ds
theorem SrcAt.ref {d1 g n sz : Nat} {rows : Rows} (hk : h (d1, g) = some (.rows sz rows)) (hn : rows.length = n) : SrcAt h [d1] sz (.ref (d1, g) sz 0 n) rows := by
  have h1 := src_ref (n2 := n) hk hn
  refine ⟨h1.1, h1.2, ?_⟩
  unfold srcRows; simp only [hk]; simp
theorem SrcAt.slice {d1 sz : Nat} {u : PV} {rows : Rows} (hs : SliceAt h d1 u sz rows) : SrcAt h [d1] sz u rows := by
  rcases hs with ⟨rfl, rfl⟩ | ⟨g, rfl, hg⟩
  · unfold SrcAt srcRows; simp
  · exact .ref hg rfl
theorem SrcAt.lit {sz : Nat} {tt : Bool} {rows : Rows} : SrcAt h [] sz (.lit tt sz rows) rows := by unfold SrcAt srcRows; simp

def subTo (u : PV) (n : Nat) : PV := match u with | .ref k sz off _ => .ref k sz off n | _ => .nil
def subFrom (u : PV) (n : Nat) : PV := match u with | .ref k sz off len => .ref k sz (off + n) (len - n) | _ => .nil
theorem SrcAt.to {d1 sz n : Nat} {u : PV} {rows : Rows} (hs : SliceAt h d1 u sz rows) (hn : n ≤ rows.length) : SrcAt h [d1] sz (subTo u n) (rows.take n) := by
  rcases hs with ⟨rfl, rfl⟩ | ⟨g, rfl, hg⟩
  · unfold SrcAt subTo srcRows; simp
  · unfold SrcAt subTo srcRows; simp only [hg]; simp; exact hn
theorem SrcAt.from {d1 sz n : Nat} {u : PV} {rows : Rows} (hs : SliceAt h d1 u sz rows) (hn : n ≤ rows.length) : SrcAt h [d1] sz (subFrom u n) (rows.drop n) := by
  rcases hs with ⟨rfl, rfl⟩ | ⟨g, rfl, hg⟩
  · unfold SrcAt subFrom srcRows; simp
  · unfold SrcAt subFrom srcRows; simp only [hg, Nat.zero_add]
    refine ⟨⟨trivial, by omega⟩, ?_, by simp⟩
    rw [← List.length_drop, List.take_length]

end
/-- A field of a record in an own row is stored. -/
theorem e_storeF {P : Program} {ρ : Operand → PV} {h : Heap} {key : Key} {x y : Operand} {t : TypeId} {α : Type} {f : α → List PV} {xs : List α} {k : Key} {sz i j : Nat} {a a' : α} {v : PV} (hx : ρ x = .ptr k sz i j) (hk : h k = some (.rows sz (xs.map f))) (hy : ρ y = v) (ha : xs[i]? = some a) (hset : setAt (f a) j (pcells v) = f a') (hs : tySize P t = 1) (ht : tyOk P t = true)
    (hj : (Nat.blt j sz && ((pcells v).all PV.cell && Nat.beq (pcells v).length 1)) = true) (hl : (f a).length = sz) :
    eff P ρ h key (.store t x y) = ⟨True, .dead, [(k, some (.rows sz ((xs.set i a').map f)))], [k], false⟩ := by
  have hi : i < xs.length := (List.getElem?_eq_some_iff.1 ha).1
  have h1 : setRow (xs.map f) i j (pcells v) = (xs.set i a').map f := by
    unfold setRow
    rw [List.map_set]
    congr 1
    rw [List.getD_eq_getElem?_getD, List.getElem?_map, ha]
    exact hset
  simp only [Bool.and_eq_true, Nat.blt_eq] at hj
  have h2 := Nat.eq_of_beq_eq_true hj.2.2
  simp only [eff, storeEff, hx, hk, hy, hs, ht, h1, h2, hj.2.1]
  simp [hi]; omega
end Go.Pv
