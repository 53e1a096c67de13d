/- Iteration over a map of typed entries; arrays; rows of texts. -/
import Derived.Test.YtigdmkhdmbbfiaaDoorPvZ5
namespace Go.Pv
open Go
section
variable {α β : Type} [DecidableEq α] {f : α → PV} {g : β → PV}

def entT (f : α → PV) (g : β → PV) (q : (α × β) × Nat) : (PV × PV) × Nat := ((f q.1.1, g q.1.2), q.2)

/-- Where an iteration stands: what is still to come, the entry that came last. -/
def IterT (f : α → PV) (g : β → PV) (h : Heap) (kit km : Key) (l : List (α × β)) (rem : List ((α × β) × Nat)) (cur : Option (α × β)) : Prop :=
  IterAt h kit km (entsOf f g l) (rem.map (entT f g)) (cur.map fun e => (f e.1, g e.2))

omit [DecidableEq α] in
theorem IterT.start {h : Heap} {kit km : Key} {l : List (α × β)} (hne : km ≠ kit) (hm : MapAt h km (entsOf f g l)) : ∃ rem, IterT f g (hset h kit (some (.iter km (clkOf (h km)) []))) kit km l rem none ∧ rem.map (·.1) = l := by
  obtain ⟨rem, h1, h2⟩ := IterAt.start hne hm
  have hlen : rem.length = l.length := by have := congrArg List.length h2; simpa [entsOf] using this
  refine ⟨l.zip (rem.map (·.2)), ?_, List.map_fst_zip (by simp [hlen])⟩
  have : (l.zip (rem.map (·.2))).map (entT f g) = rem := by
    apply List.ext_getElem?
    intro i
    have h3 := congrArg (·[i]?) h2
    simp only [entsOf, List.getElem?_map] at h3
    rw [List.getElem?_map]
    cases hq : l[i]? with
    | none =>
      have h4 : rem[i]? = none := by rw [List.getElem?_eq_none_iff] at hq ⊢; omega
      rw [h4]
      have : (l.zip (rem.map (·.2)))[i]? = none := by
        rw [List.getElem?_eq_none_iff, List.length_zip]
        rw [List.getElem?_eq_none_iff] at hq
        omega
      rw [this]; rfl
    | some a =>
      rw [hq] at h3
      cases hr : rem[i]? with
      | none => rw [hr] at h3; cases h3
      | some q =>
        rw [hr] at h3
        simp only [Option.map_some, Option.some.injEq] at h3
        have : (l.zip (rem.map (·.2)))[i]? = some (a, q.2) := by
          rw [List.getElem?_zip_eq_some]
          exact ⟨hq, by rw [List.getElem?_map, hr]; rfl⟩
        rw [this]
        obtain ⟨q1, q2⟩ := q
        simp only at h3
        simp only [Option.map_some, entT, h3]
  unfold IterT
  rw [this]
  exact h1

omit [DecidableEq α] in
/-- One step. -/
theorem IterT.step {h : Heap} {kit km : Key} {l : List (α × β)} {rem : List ((α × β) × Nat)} {cur : Option (α × β)} (hne : km ≠ kit) (hi : IterT f g h kit km l rem cur) (hr : rem ≠ []) :
    ∃ es bs clk seen, h kit = some (.iter km clk seen) ∧ h km = some (.map es bs clk) ∧ (∀ b ∈ bs, b < clk) ∧ leftOf es bs seen ≠ [] ∧
      ∀ p ∈ leftOf es bs seen, ∃ l1 x l2, rem = l1 ++ x :: l2 ∧ p = entT f g x ∧ IterT f g (hset h kit (some (.iter km clk (seen ++ [p.2])))) kit km l (l1 ++ l2) (some x.1) := by
  obtain ⟨bs, clk, seen, h1, h2, h3, h4, h5⟩ := IterAt.step hne hi
  refine ⟨_, bs, clk, seen, h1, h2, h3, by rw [← h4]; simpa using hr, fun p hp => ?_⟩
  rw [← h4] at hp
  obtain ⟨m1, m2, h6, h7⟩ := h5 p hp
  obtain ⟨l1, r1, h8, h9, h10⟩ := List.map_eq_append_iff.1 h6
  obtain ⟨x, l2, h11, h12, h13⟩ := List.map_eq_cons_iff.1 h10
  refine ⟨l1, x, l2, by rw [h8, h11], h12.symm, ?_⟩
  unfold IterT
  rw [List.map_append, h9, h13]
  have : p.1 = (f x.1.1, g x.1.2) := by rw [← h12]; rfl
  simp only [Option.map_some]
  rw [← this]
  exact h7

omit [DecidableEq α] in
theorem IterT.keep {h h' : Heap} {kit km : Key} {l : List (α × β)} {rem : List ((α × β) × Nat)} {cur : Option (α × β)} (hi : IterT f g h kit km l rem cur) (h1 : h' kit = h kit) (h2 : h' km = h km) : IterT f g h' kit km l rem cur :=
  IterAt.keep hi h1 h2 (.inr rfl)

variable {P : Program} {ρ : Operand → PV} {h : Heap} {key : Key} {x y : Operand} {t : TypeId}
omit [DecidableEq α] in
theorem MapAt.at {h h' : Heap} {k : Key} {es : List (PV × PV)} (hm : MapAt h k es) (he : h' = h) : MapAt h' k es := he ▸ hm
end

/-! ### Arrays -/
section
variable {P : Program} {ρ : Operand → PV} {h : Heap} {key : Key} {x y : Operand} {t : TypeId}
theorem e_buildA {parts : Array (Nat × Operand)} {cs : List PV} {ps : List (Nat × PV)} {pl : List (Nat × Nat × Bool)} {zs : List PV} (hz : zeroCellsOf P t = some zs) (hpl : places P t = pl) (hso : (arrOk P t).isSome = true) (hza : zs.all PV.cell = true) (hp : (parts.toList.map fun p => (p.1, ρ p.2)) = ps)
    (hf : fillOk pl zs.length ps) (hcs : fillCells pl zs ps = cs) : eff P ρ h key (.build t parts) = ⟨True, .agg cs, [], [], false⟩ := by
  simp only [eff, hp, buildEff, hz, hpl, hso, hza, hcs]; simp [hf]
end

/-! ### An own slice in another place of the text -/
theorem p_renS {P : Program} {K : PS → Prop} {d : Nat} (e : Nat) {ty : TypeId} {pos : String} {aft : Array Edge} {gd : Option (Nat × Bool)} {rest : List Oper} {r : Nat → PV} {h : Heap} {cnt : Nat → Nat} {x : Operand} {u : PV} {sz d1 : Nat} {rows : Rows} (hx : ev r x = u) (hs : SliceAt h d1 u sz rows)
    (hk : ∀ v' h' c', SliceAt h' e v' sz rows → (∀ k' : Key, k' ≠ (e, cnt e) → (∀ g, u = .ref (d1, g) sz 0 rows.length → k' ≠ (d1, g)) → h' k' = h k') → pOps P K rest ⟨setT r d v', h', c'⟩) :
    pOps P K (⟨some d, .assign x, ty, pos, aft, gd⟩ :: rest) ⟨r, h, cnt⟩ := by
  rcases hs with ⟨h1, rfl⟩ | ⟨g, rfl, hg⟩
  · exact p_step rfl (e_assign hx) trivial (hk _ _ _ (.inl ⟨h1, rfl⟩) fun _ _ _ => rfl)
  · unfold pOps
    refine .inr (.inr ⟨x, d, e, (d1, g), sz, rows.length, rows, rfl, rfl, hx, hg, ?_⟩)
    rw [putR_setT]
    refine hk _ _ _ (.inr ⟨cnt e, rfl, by simp⟩) fun k' h1 h2 => ?_
    simp only [if_neg h1, if_neg (h2 g rfl)]

/-! ### Rows of texts -/
def cb (s : ByteArray) : List PV := [.str s]
end Go.Pv

namespace Go.Pv
open Go Go.RowKit
/-! ### Appends in drawn regions; parts of own slices as what is appended -/
section
variable {P : Program} {K : PS → Prop} {d : Nat} {op : Op} {ty : TypeId} {pos : String} {aft : Array Edge} {rest : List Oper} {r : Nat → PV} {h : Heap} {cnt : Nat → Nat} {ops : Array Oper} {i : Nat} {G : Nat → Bool} {dd : Bool} {x y : Operand} {t : TypeId}

theorem s_any {gd : Option (Nat × Bool)} {e : Eff} {ts : List Ft} (rs ws : List Nat) (hg : gobB ops r G gd = true) (hgv : gval ops ⟨⟨r, h, cnt⟩, G⟩ gd = true) (hrd : ∀ k ∈ e.rd, k.1 ∈ rs) (hwr : ∀ k ∈ e.wr.map (·.1), k.1 ∈ ws) (hc : callOf r op = none) (hv : validB r G op = true) (he : eff P (ev r) h (d, cnt d) op = e) (hob : e.ob)
    (hk : sRun P ops dd K rest (i + 1) ⟨setT r d e.v, applyWr h e.wr, bumpC cnt d e.bump⟩ (setB G d true) (ts ++ [⟨i, rs, ws⟩])) : sRun P ops dd K (⟨some d, op, ty, pos, aft, gd⟩ :: rest) i ⟨r, h, cnt⟩ G ts := by
  intro tr ht
  unfold gOps
  refine ⟨gobB_ok hg, ?_⟩
  show match callOf r op with | none => _ | some (f, args) => _
  rw [hc]
  simp only [siteOf, Option.getD_some]
  rw [he, hgv]
  refine ⟨fun _ => ⟨validB_ok hv, hob⟩, (fun _ => rfl), ?_⟩
  have := hk (tr ++ [⟨i, e.rd, e.wr.map (·.1)⟩]) (ht.snoc rfl hrd hwr)
  simp only [stepG, stepS, putR_setT, setG_setB, effG, if_true]
  exact this

def SrcAt (h : Heap) (ds : List Nat) (sz : Nat) (u : PV) (rows : Rows) : Prop := (srcRows h sz u).1 ∧ (srcRows h sz u).2.1 = rows ∧ ∀ k ∈ (srcRows h sz u).2.2, k.1 ∈ ds
theorem SrcAt.ref {d1 g n sz : Nat} {rows : Rows} (hk : h (d1, g) = some (.rows sz rows)) (hn : rows.length = n) : SrcAt h [d1] sz (.ref (d1, g) sz 0 n) rows := by
  have h1 := src_ref (n2 := n) hk hn
  refine ⟨h1.1, h1.2, ?_⟩
  unfold srcRows; simp only [hk]; simp
theorem SrcAt.slice {d1 sz : Nat} {u : PV} {rows : Rows} (hs : SliceAt h d1 u sz rows) : SrcAt h [d1] sz u rows := by
  rcases hs with ⟨rfl, rfl⟩ | ⟨g, rfl, hg⟩
  · unfold SrcAt srcRows; simp
  · exact .ref hg rfl
theorem SrcAt.lit {sz : Nat} {tt : Bool} {rows : Rows} : SrcAt h [] sz (.lit tt sz rows) rows := by unfold SrcAt srcRows; simp

def subTo (u : PV) (n : Nat) : PV := match u with | .ref k sz off _ => .ref k sz off n | _ => .nil
def subFrom (u : PV) (n : Nat) : PV := match u with | .ref k sz off len => .ref k sz (off + n) (len - n) | _ => .nil
theorem SrcAt.to {d1 sz n : Nat} {u : PV} {rows : Rows} (hs : SliceAt h d1 u sz rows) (hn : n ≤ rows.length) : SrcAt h [d1] sz (subTo u n) (rows.take n) := by
  rcases hs with ⟨rfl, rfl⟩ | ⟨g, rfl, hg⟩
  · unfold SrcAt subTo srcRows; simp
  · unfold SrcAt subTo srcRows; simp only [hg]; simp; exact hn
theorem SrcAt.from {d1 sz n : Nat} {u : PV} {rows : Rows} (hs : SliceAt h d1 u sz rows) (hn : n ≤ rows.length) : SrcAt h [d1] sz (subFrom u n) (rows.drop n) := by
  rcases hs with ⟨rfl, rfl⟩ | ⟨g, rfl, hg⟩
  · unfold SrcAt subFrom srcRows; simp
  · unfold SrcAt subFrom srcRows; simp only [hg, Nat.zero_add]
    refine ⟨⟨trivial, by omega⟩, ?_, by simp⟩
    rw [← List.length_drop, List.take_length]

theorem s_appG {gd : Option (Nat × Bool)} {ts : Array TypeId} {t2 : TypeId} {u u2 : PV} {sz d1 : Nat} {rows rows2 : Rows} {tl : List Ft} {ds : List Nat} (rs ws : List Nat) (hgd : gobB ops r G gd = true) (hgv : gval ops ⟨⟨r, h, cnt⟩, G⟩ gd = true) (hr1 : d1 ∈ rs) (hr2 : ∀ z ∈ ds, z ∈ rs) (hw1 : d1 ∈ ws ∧ d ∈ ws) (hts : ts.toList = [t, t2]) (hx : ev r x = u) (hy : ev r y = u2) (hs : SliceAt h d1 u sz rows) (hsr : SrcAt h ds sz u2 rows2)
    (hv : validB r G (.call { callee := .builtin .append, args := #[x, y], argTypes := ts }) = true)
    (hok : (sliceOk P t && (decide (P.bytesOf (elemTy P t) < 2 ^ 15) && (decide (intKind P t2 = none) && (zeroOk P (elemTy P t) && ((P.underlying t2).isSome && decide (tySize P (elemTy P t) = sz)))))) = true) (hlen : rows.length + rows2.length < 2 ^ 32)
    (hk : ∀ v' h' c', SliceAt h' d v' sz (rows ++ rows2) → (∀ k' : Key, k' ≠ (d, cnt d) → (∀ g, u = .ref (d1, g) sz 0 rows.length → k' ≠ (d1, g)) → h' k' = h k') → sRun P ops dd K rest (i + 1) ⟨setT r d v', h', c'⟩ (setB G d true) (tl ++ [⟨i, rs, ws⟩])) :
    sRun P ops dd K (⟨some d, .call { callee := .builtin .append, args := #[x, y], argTypes := ts }, ty, pos, aft, gd⟩ :: rest) i ⟨r, h, cnt⟩ G tl := by
  simp only [Bool.and_eq_true, decide_eq_true_eq] at hok
  obtain ⟨o1, o2, o3, o4, o5, o6⟩ := hok
  subst o6
  obtain ⟨hs1, hs2, hs3⟩ := hsr
  have he : ∀ u, ev r x = u → eff P (ev r) h (d, cnt d) (.call { callee := .builtin .append, args := #[x, y], argTypes := ts }) = appendEff P h (d, cnt d) t t2 u u2 := fun u hu => by
    show builtinEff P h (d, cnt d) .append ts.toList [ev r x, ev r y] = _
    rw [hts, hu, hy]; rfl
  have hrs : ∀ k ∈ (srcRows h (tySize P (elemTy P t)) u2).2.2, k.1 ∈ rs := fun k hk' => hr2 _ (hs3 k hk')
  rcases hs with ⟨rfl, rfl⟩ | ⟨g, rfl, hg⟩
  · have hq := he _ hx
    unfold appendEff at hq
    simp only [hs2] at hq
    cases hne : rows2.isEmpty with
    | true =>
      have hr2' : rows2 = [] := by simpa using hne
      rw [hne] at hq
      simp only [cond_true] at hq
      exact s_any rs ws hgd hgv hrs (by simp) rfl hv hq ⟨⟨o1, o2, o3, o4, o5⟩, hs1⟩ (hk _ _ _ (.inl ⟨by rw [hr2']; rfl, rfl⟩) fun k' _ _ => rfl)
    | false =>
      rw [hne] at hq
      simp only [cond_false] at hq
      refine s_any rs ws hgd hgv hrs (by simp [hw1.2]) rfl hv hq ⟨⟨o1, o2, o3, o4, o5⟩, hs1, (by intro e; rw [e] at hne; cases hne), by simp at hlen; omega⟩ (hk _ _ _ (.inr ⟨cnt d, by rw [List.nil_append], by rw [List.nil_append]; exact hset_self _ _ _⟩) fun k' h1 _ => hset_ne h1)
  · have hq := he _ hx
    unfold appendEff at hq
    simp only [hg, hs2] at hq
    refine s_any rs ws hgd hgv (by intro k hk'; rcases List.mem_cons.1 hk' with rfl | hk'; exact hr1; exact hrs k hk') (by simp [hw1.1, hw1.2]) rfl hv hq (by refine ⟨⟨o1, o2, o3, o4, o5⟩, hs1, ?_⟩; simp; omega) (hk _ (hset (hset h (d1, g) none) (d, cnt d) (some (.rows (tySize P (elemTy P t)) (rows.take rows.length ++ rows2)))) _ (.inr ⟨cnt d, by rw [List.length_append], ?_⟩) fun k' h1 h2 => ?_)
    · rw [hset_self]; first | rw [List.drop_zero, List.take_length] | rw [List.take_length]
    · rw [hset_ne h1, hset_ne (h2 g rfl)]
theorem s_app {ts : Array TypeId} {t2 : TypeId} {u u2 : PV} {sz d1 : Nat} {rows rows2 : Rows} {tl : List Ft} {ds : List Nat} (rs ws : List Nat) (hr1 : d1 ∈ rs) (hr2 : ∀ z ∈ ds, z ∈ rs) (hw1 : d1 ∈ ws ∧ d ∈ ws) (hts : ts.toList = [t, t2]) (hx : ev r x = u) (hy : ev r y = u2) (hs : SliceAt h d1 u sz rows) (hsr : SrcAt h ds sz u2 rows2)
    (hv : validB r G (.call { callee := .builtin .append, args := #[x, y], argTypes := ts }) = true)
    (hok : (sliceOk P t && (decide (P.bytesOf (elemTy P t) < 2 ^ 15) && (decide (intKind P t2 = none) && (zeroOk P (elemTy P t) && ((P.underlying t2).isSome && decide (tySize P (elemTy P t) = sz)))))) = true) (hlen : rows.length + rows2.length < 2 ^ 32)
    (hk : ∀ v' h' c', SliceAt h' d v' sz (rows ++ rows2) → (∀ k' : Key, k' ≠ (d, cnt d) → (∀ g, u = .ref (d1, g) sz 0 rows.length → k' ≠ (d1, g)) → h' k' = h k') → sRun P ops dd K rest (i + 1) ⟨setT r d v', h', c'⟩ (setB G d true) (tl ++ [⟨i, rs, ws⟩])) :
    sRun P ops dd K (⟨some d, .call { callee := .builtin .append, args := #[x, y], argTypes := ts }, ty, pos, aft, none⟩ :: rest) i ⟨r, h, cnt⟩ G tl :=
  s_appG rs ws rfl rfl hr1 hr2 hw1 hts hx hy hs hsr hv hok hlen hk
theorem e_slt {ρ : Operand → PV} {key : Key} {t' : TypeId} {a b : ByteArray} (hx : ρ x = .str a) (hy : ρ y = .str b) : eff P ρ h key (.binOp .lss t x y t') = ⟨True, (strBin .lss a b).v, [], [], false⟩ := by
  simp only [eff, hx, hy, binEffN, binEff, strBin]
end
end Go.Pv
