/- Iteration over a map of typed entries; arrays; rows of texts. -/
import Derived.Test.YtdbpfhbppcpbbaaPvZ5
namespace Go.Pv
open Go
section
variable {α β : Type} [DecidableEq α] {f : α → PV} {g : β → PV}

def entT (f : α → PV) (g : β → PV) (q : (α × β) × Nat) : (PV × PV) × Nat := ((f q.1.1, g q.1.2), q.2)

/-- Where an iteration stands: what is still to come, the entry that came last. -/
def IterT (f : α → PV) (g : β → PV) (h : Heap) (kit km : Key) (l : List (α × β)) (rem : List ((α × β) × Nat)) (cur : Option (α × β)) : Prop :=
  IterAt h kit km (entsOf f g l) (rem.map (entT f g)) (cur.map fun e => (f e.1, g e.2))

omit [DecidableEq α] in
theorem IterT.start {h : Heap} {kit km : Key} {l : List (α × β)} (hne : km ≠ kit) (hm : MapAt h km (entsOf f g l)) : ∃ rem, IterT f g (hset h kit (some (.iter km (clkOf (h km)) []))) kit km l rem none ∧ rem.map (·.1) = l := by
  obtain ⟨rem, h1, h2⟩ := IterAt.start hne hm
  have hlen : rem.length = l.length := by have := congrArg List.length h2; simpa [entsOf] using this
  refine ⟨l.zip (rem.map (·.2)), ?_, List.map_fst_zip (by simp [hlen])⟩
  have : (l.zip (rem.map (·.2))).map (entT f g) = rem := by
    apply List.ext_getElem?
    intro i
    have h3 := congrArg (·[i]?) h2
    simp only [entsOf, List.getElem?_map] at h3
    rw [List.getElem?_map]
    cases hq : l[i]? with
    | none =>
      have h4 : rem[i]? = none := by rw [List.getElem?_eq_none_iff] at hq ⊢; omega
      rw [h4]
      have : (l.zip (rem.map (·.2)))[i]? = none := by
        rw [List.getElem?_eq_none_iff, List.length_zip]
        rw [List.getElem?_eq_none_iff] at hq
        omega
      rw [this]; rfl
    | some a =>
      rw [hq] at h3
      cases hr : rem[i]? with
      | none => rw [hr] at h3; cases h3
      | some q =>
        rw [hr] at h3
        simp only [Option.map_some, Option.some.injEq] at h3
        have : (l.zip (rem.map (·.2)))[i]? = some (a, q.2) := by
          rw [List.getElem?_zip_eq_some]
          exact ⟨hq, by rw [List.getElem?_map, hr]; rfl⟩
        rw [this]
        obtain ⟨q1, q2⟩ := q
        simp only at h3
        simp only [Option.map_some, entT, h3]
  unfold IterT
  rw [this]
  exact h1

omit [DecidableEq α] in
/-- One step. -/
theorem IterT.step {h : Heap} {kit km : Key} {l : List (α × β)} {rem : List ((α × β) × Nat)} {cur : Option (α × β)} (hne : km ≠ kit) (hi : IterT f g h kit km l rem cur) (hr : rem ≠ []) :
    ∃ es bs clk seen, h kit = some (.iter km clk seen) ∧ h km = some (.map es bs clk) ∧ (∀ b ∈ bs, b < clk) ∧ leftOf es bs seen ≠ [] ∧
      ∀ p ∈ leftOf es bs seen, ∃ l1 x l2, rem = l1 ++ x :: l2 ∧ p = entT f g x ∧ IterT f g (hset h kit (some (.iter km clk (seen ++ [p.2])))) kit km l (l1 ++ l2) (some x.1) := by
  obtain ⟨bs, clk, seen, h1, h2, h3, h4, h5⟩ := IterAt.step hne hi
  refine ⟨_, bs, clk, seen, h1, h2, h3, by rw [← h4]; simpa using hr, fun p hp => ?_⟩
  rw [← h4] at hp
  obtain ⟨m1, m2, h6, h7⟩ := h5 p hp
  obtain ⟨l1, r1, h8, h9, h10⟩ := List.map_eq_append_iff.1 h6
  obtain ⟨x, l2, h11, h12, h13⟩ := List.map_eq_cons_iff.1 h10
  refine ⟨l1, x, l2, by rw [h8, h11], h12.symm, ?_⟩
  unfold IterT
  rw [List.map_append, h9, h13]
  have : p.1 = (f x.1.1, g x.1.2) := by rw [← h12]; rfl
  simp only [Option.map_some]
  rw [← this]
  exact h7

omit [DecidableEq α] in
theorem IterT.keep {h h' : Heap} {kit km : Key} {l : List (α × β)} {rem : List ((α × β) × Nat)} {cur : Option (α × β)} (hi : IterT f g h kit km l rem cur) (h1 : h' kit = h kit) (h2 : h' km = h km) : IterT f g h' kit km l rem cur :=
  IterAt.keep hi h1 h2 (.inr rfl)

variable {P : Program} {ρ : Operand → PV} {h : Heap} {key : Key} {x y : Operand} {t : TypeId}
omit [DecidableEq α] in
theorem e_nextT0 {kit km : Key} {l : List (α × β)} {cur : Option (α × β)} (hx : ρ x = .iter kit) (hi : IterT f g h kit km l [] cur) : eff P ρ h key (.next x false) = ⟨True, .tup [.bool false], [], [kit, km], false⟩ := e_next0 hx hi
omit [DecidableEq α] in
theorem e_entryT {kit km : Key} {l : List (α × β)} {rem : List ((α × β) × Nat)} {e : α × β} (hx : ρ x = .iter kit) (hi : IterT f g h kit km l rem (some e)) : eff P ρ h key (.entry x) = ⟨True, .tup [f e.1, g e.2], [], [kit, km], false⟩ := e_entry hx hi

omit [DecidableEq α] in
theorem MapAt.at {h h' : Heap} {k : Key} {es : List (PV × PV)} (hm : MapAt h k es) (he : h' = h) : MapAt h' k es := he ▸ hm
end

/-! ### Arrays -/
section
variable {P : Program} {ρ : Operand → PV} {h : Heap} {key : Key} {x y : Operand} {t : TypeId}
theorem e_buildA {parts : Array (Nat × Operand)} {cs : List PV} {ps : List (Nat × PV)} {pl : List (Nat × Nat × Bool)} {zs : List PV} (hz : zeroCellsOf P t = some zs) (hpl : places P t = pl) (hso : (arrOk P t).isSome = true) (hza : zs.all PV.cell = true) (hp : (parts.toList.map fun p => (p.1, ρ p.2)) = ps)
    (hf : fillOk pl zs.length ps) (hcs : fillCells pl zs ps = cs) : eff P ρ h key (.build t parts) = ⟨True, .agg cs, [], [], false⟩ := by
  simp only [eff, hp, buildEff, hz, hpl, hso, hza, hcs]; simp [hf]
/-- An element of an array of Booleans. -/
theorem e_indexB {bs : List Bool} {n k : Nat} {e : TypeId} (hx : ρ x = .agg (bs.map PV.bool)) (hy : ρ y = .int (k : Int)) (ht : arrOk P t = some (n, e)) (hs : tySize P e = 1) (hg : tyAgg P e = false) (hi : k < n) (hl : bs.length = n) :
    eff P ρ h key (.index t x y) = ⟨True, .bool (bs.getD k false), [], [], false⟩ := by
  refine e_indexA (kd := .i64) (i := (k : Int)) hx hy ht hs hg (by omega) (by simpa using hl) ?_
  rw [Int.toNat_natCast]
  simp only [List.getD_eq_getElem?_getD, List.getElem?_map]
  rw [List.getElem?_eq_getElem (by omega)]
  rfl
end

/-! ### An own slice in another place of the text -/
theorem p_ren {P : Program} {K : PS → Prop} {d : Nat} {ty : TypeId} {pos : String} {aft : Array Edge} {gd : Option (Nat × Bool)} {rest : List Oper} {r : Nat → PV} {h : Heap} {cnt : Nat → Nat} {x : Operand} {u : PV} {sz d1 : Nat} {rows : Rows} (hx : ev r x = u) (hs : SliceAt h d1 u sz rows)
    (hk : ∀ v' h' c', SliceAt h' d v' sz rows → (∀ k' : Key, k' ≠ (d, cnt d) → (∀ g, u = .ref (d1, g) sz 0 rows.length → k' ≠ (d1, g)) → h' k' = h k') → pOps P K rest ⟨setT r d v', h', c'⟩) :
    pOps P K (⟨some d, .assign x, ty, pos, aft, gd⟩ :: rest) ⟨r, h, cnt⟩ := by
  rcases hs with ⟨h1, rfl⟩ | ⟨g, rfl, hg⟩
  · exact p_step rfl (e_assign hx) trivial (hk _ _ _ (.inl ⟨h1, rfl⟩) fun _ _ _ => rfl)
  · unfold pOps
    refine .inr (.inr ⟨x, d, (d1, g), sz, rows.length, rows, rfl, rfl, hx, hg, ?_⟩)
    rw [putR_setT]
    refine hk _ _ _ (.inr ⟨cnt d, rfl, by simp⟩) fun k' h1 h2 => ?_
    simp only [if_neg h1, if_neg (h2 g rfl)]

/-! ### Rows of texts -/
def cb (s : ByteArray) : List PV := [.str s]
theorem cb_pure (s : ByteArray) : ∀ p ∈ cb s, Pure p := fun p hp => by simp [cb] at hp; subst hp; exact .sc _
theorem cb_clean (s : ByteArray) : ∀ p ∈ cb s, Clean p ∧ p.cell = true := fun p hp => by simp [cb] at hp; subst hp; exact ⟨.sc _, rfl⟩
end Go.Pv
