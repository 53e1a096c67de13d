/- Appends that tell how the generations go on. No conditions. -/
import Derived.Test.YtigdmkhdmbbfiaaPvZ8
namespace Go.Pv
open Go
theorem cset_leM (c : Nat → Nat) (s : Nat) : ∀ t, c t ≤ cset c s t := fun t => by unfold cset; split <;> omega
theorem gen_ne {a g : Nat} (h : 1 ≤ g) : ((a, 0) : Key) ≠ (a, g) := fun e => by have := congrArg Prod.snd e; simp at this; omega
section
variable {P : Program} {h : Heap} {key : Key} {x y z : Operand} {t t' : TypeId} {v : PV} {K : PS → Prop} {d : Nat} {ty : TypeId} {pos : String} {aft : Array Edge} {gd : Option (Nat × Bool)} {rest : List Oper} {r : Nat → PV} {cnt : Nat → Nat}
theorem p_appM {ts : Array TypeId} {t2 : TypeId} {u u2 : PV} {sz d1 : Nat} {rows rows2 : Rows} (hts : ts.toList = [t, t2]) (hx : ev r x = u) (hy : ev r y = u2) (hs : SliceAt h d1 u sz rows) (hsr : (srcRows h sz u2).1 ∧ (srcRows h sz u2).2.1 = rows2)
    (hok : (sliceOk P t && (decide (P.bytesOf (elemTy P t) < 2 ^ 15) && (decide (intKind P t2 = none) && (zeroOk P (elemTy P t) && ((P.underlying t2).isSome && decide (tySize P (elemTy P t) = sz)))))) = true) (hlen : rows.length + rows2.length < 2 ^ 32)
    (hk : ∀ v' h' c', SliceAt h' d v' sz (rows ++ rows2) → (∀ k' : Key, k' ≠ (d, cnt d) → (∀ g, u = .ref (d1, g) sz 0 rows.length → k' ≠ (d1, g)) → h' k' = h k') → (∀ s, cnt s ≤ c' s) → pOps P K rest ⟨setT r d v', h', c'⟩) :
    pOps P K (⟨some d, .call { callee := .builtin .append, args := #[x, y], argTypes := ts }, ty, pos, aft, gd⟩ :: rest) ⟨r, h, cnt⟩ := by
  simp only [Bool.and_eq_true, decide_eq_true_eq] at hok
  obtain ⟨o1, o2, o3, o4, o5, o6⟩ := hok
  subst o6
  have he : ∀ u, ev r x = u → eff P (ev r) h (d, cnt d) (.call { callee := .builtin .append, args := #[x, y], argTypes := ts }) = appendEff P h (d, cnt d) t t2 u u2 := fun u hu => by
    show builtinEff P h (d, cnt d) .append ts.toList [ev r x, ev r y] = _
    rw [hts, hu, hy]; rfl
  rcases hs with ⟨rfl, rfl⟩ | ⟨g, rfl, hg⟩
  · have hq := he _ hx
    unfold appendEff at hq
    simp only [hsr.2] at hq
    cases hne : rows2.isEmpty with
    | true =>
      have hr2 : rows2 = [] := by simpa using hne
      rw [hne] at hq
      simp only [cond_true] at hq
      exact p_step rfl hq ⟨⟨o1, o2, o3, o4, o5⟩, hsr.1⟩ (hk _ _ _ (.inl ⟨by rw [hr2]; rfl, rfl⟩) (fun k' _ _ => rfl) fun _ => Nat.le_refl _)
    | false =>
      rw [hne] at hq
      simp only [cond_false] at hq
      refine p_new rfl hq ⟨⟨o1, o2, o3, o4, o5⟩, hsr.1, (by intro e; rw [e] at hne; cases hne), by simp at hlen; omega⟩ (hk _ _ _ (.inr ⟨cnt d, by rw [List.nil_append], by rw [List.nil_append]; exact hset_self _ _ _⟩) (fun k' h1 _ => hset_ne h1) (cset_leM _ _))
  · have hq := he _ hx
    unfold appendEff at hq
    simp only [hg, hsr.2] at hq
    refine p_renew rfl hq (by refine ⟨⟨o1, o2, o3, o4, o5⟩, hsr.1, ?_⟩; simp; omega) (hk _ _ _ (.inr ⟨cnt d, by rw [List.length_append], ?_⟩) (fun k' h1 h2 => ?_) (cset_leM _ _))
    · rw [hset_self, List.drop_zero, List.take_length]
    · rw [hset_ne h1, hset_ne (h2 g rfl)]

end
section
variable {P : Program} {K : PS → Prop} {d : Nat} {op : Op} {ty : TypeId} {pos : String} {aft : Array Edge} {rest : List Oper} {r : Nat → PV} {h : Heap} {cnt : Nat → Nat} {ops : Array Oper} {i : Nat} {G : Nat → Bool} {dd : Bool} {x y : Operand} {t : TypeId}
theorem s_appGM {gd : Option (Nat × Bool)} {ts : Array TypeId} {t2 : TypeId} {u u2 : PV} {sz d1 : Nat} {rows rows2 : Rows} {tl : List Ft} {ds : List Nat} (rs ws : List Nat) (hgd : gobB ops r G gd = true) (hgv : gval ops ⟨⟨r, h, cnt⟩, G⟩ gd = true) (hr1 : d1 ∈ rs) (hr2 : ∀ z ∈ ds, z ∈ rs) (hw1 : d1 ∈ ws ∧ d ∈ ws) (hts : ts.toList = [t, t2]) (hx : ev r x = u) (hy : ev r y = u2) (hs : SliceAt h d1 u sz rows) (hsr : SrcAt h ds sz u2 rows2)
    (hv : validB r G (.call { callee := .builtin .append, args := #[x, y], argTypes := ts }) = true)
    (hok : (sliceOk P t && (decide (P.bytesOf (elemTy P t) < 2 ^ 15) && (decide (intKind P t2 = none) && (zeroOk P (elemTy P t) && ((P.underlying t2).isSome && decide (tySize P (elemTy P t) = sz)))))) = true) (hlen : rows.length + rows2.length < 2 ^ 32)
    (hk : ∀ v' h' c', SliceAt h' d v' sz (rows ++ rows2) → (∀ k' : Key, k' ≠ (d, cnt d) → (∀ g, u = .ref (d1, g) sz 0 rows.length → k' ≠ (d1, g)) → h' k' = h k') → (∀ s, cnt s ≤ c' s) → sRun P ops dd K rest (i + 1) ⟨setT r d v', h', c'⟩ (setB G d true) (tl ++ [⟨i, rs, ws⟩])) :
    sRun P ops dd K (⟨some d, .call { callee := .builtin .append, args := #[x, y], argTypes := ts }, ty, pos, aft, gd⟩ :: rest) i ⟨r, h, cnt⟩ G tl := by
  simp only [Bool.and_eq_true, decide_eq_true_eq] at hok
  obtain ⟨o1, o2, o3, o4, o5, o6⟩ := hok
  subst o6
  obtain ⟨hs1, hs2, hs3⟩ := hsr
  have he : ∀ u, ev r x = u → eff P (ev r) h (d, cnt d) (.call { callee := .builtin .append, args := #[x, y], argTypes := ts }) = appendEff P h (d, cnt d) t t2 u u2 := fun u hu => by
    show builtinEff P h (d, cnt d) .append ts.toList [ev r x, ev r y] = _
    rw [hts, hu, hy]; rfl
  have hrs : ∀ k ∈ (srcRows h (tySize P (elemTy P t)) u2).2.2, k.1 ∈ rs := fun k hk' => hr2 _ (hs3 k hk')
  rcases hs with ⟨rfl, rfl⟩ | ⟨g, rfl, hg⟩
  · have hq := he _ hx
    unfold appendEff at hq
    simp only [hs2] at hq
    cases hne : rows2.isEmpty with
    | true =>
      have hr2' : rows2 = [] := by simpa using hne
      rw [hne] at hq
      simp only [cond_true] at hq
      exact s_any rs ws hgd hgv hrs (by simp) rfl hv hq ⟨⟨o1, o2, o3, o4, o5⟩, hs1⟩ (hk _ _ _ (.inl ⟨by rw [hr2']; rfl, rfl⟩) (fun k' _ _ => rfl) fun _ => Nat.le_refl _)
    | false =>
      rw [hne] at hq
      simp only [cond_false] at hq
      refine s_any rs ws hgd hgv hrs (by simp [hw1.2]) rfl hv hq ⟨⟨o1, o2, o3, o4, o5⟩, hs1, (by intro e; rw [e] at hne; cases hne), by simp at hlen; omega⟩ (hk _ _ _ (.inr ⟨cnt d, by rw [List.nil_append], by rw [List.nil_append]; exact hset_self _ _ _⟩) (fun k' h1 _ => hset_ne h1) (cset_leM _ _))
  · have hq := he _ hx
    unfold appendEff at hq
    simp only [hg, hs2] at hq
    refine s_any rs ws hgd hgv (by intro k hk'; rcases List.mem_cons.1 hk' with rfl | hk'; exact hr1; exact hrs k hk') (by simp [hw1.1, hw1.2]) rfl hv hq (by refine ⟨⟨o1, o2, o3, o4, o5⟩, hs1, ?_⟩; simp; omega) (hk _ (hset (hset h (d1, g) none) (d, cnt d) (some (.rows (tySize P (elemTy P t)) (rows.take rows.length ++ rows2)))) _ (.inr ⟨cnt d, by rw [List.length_append], ?_⟩) (fun k' h1 h2 => ?_) (cset_leM _ _))
    · rw [hset_self]; first | rw [List.drop_zero, List.take_length] | rw [List.take_length]
    · rw [hset_ne h1, hset_ne (h2 g rfl)]
end
end Go.Pv
