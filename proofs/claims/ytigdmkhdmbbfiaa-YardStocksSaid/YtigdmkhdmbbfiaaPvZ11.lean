/- Drawn regions with one call that changes own memory, told in full: the others leave it alone or wait. -/
import Derived.Test.YtigdmkhdmbbfiaaPvZ10
namespace Go.Pv
open Go Go.RowKit
section
variable {P : Program} {K : PS → Prop} {d : Nat} {op : Op} {ty : TypeId} {pos : String} {aft : Array Edge} {rest : List Oper} {r : Nat → PV} {h : Heap} {cnt : Nat → Nat} {ops : Array Oper} {i : Nat} {G : Nat → Bool}
/-- What is left of a region, behind the items tr. -/
def xS (P : Program) (ops : Array Oper) (K : PS → Prop) (rest : List Oper) (i : Nat) (σ : GS) (tr : List XIt) : Prop :=
  ∃ (L : List XIt) (σ' : GS), XRun P ops L σ σ' ∧ L.map (·.i) = List.range' i rest.length ∧ (tr ++ L).Pairwise (XIndep ops) ∧ K (fin ops.toList σ'.s)
theorem keyless_key {ρ : Operand → PV} {h : Heap} {k k' : Key} {op : Op} (hk : keyless op = true) : eff P ρ h k op = eff P ρ h k' op := by
  cases op <;> first | rfl | (simp [keyless] at hk)
theorem x_end {tr : List XIt} (hp : tr.Pairwise (XIndep ops)) (hd : guardedOf ops.toList = []) (hk : K ⟨r, h, cnt⟩) : xS P ops K [] i ⟨⟨r, h, cnt⟩, G⟩ tr := by
  refine ⟨[], _, .nil _, rfl, by simpa using hp, ?_⟩
  unfold fin
  rw [fin_deadT, hd]
  have : deadT r [] = r := by funext j; simp [deadT]
  rw [this]; exact hk
theorem XAt.next {x : XIt} {σ : GS} {tr : List XIt} (hx : XAt P ops x σ) (hi : x.i = i) {o : Oper} (hk : xS P ops K rest (i + 1) (stepX σ x) (tr ++ [x])) : xS P ops K (o :: rest) i σ tr := by
  obtain ⟨L, σ', h1, h2, h3, h4⟩ := hk
  refine ⟨x :: L, σ', .cons hx h1, ?_, by simpa using h3, h4⟩
  rw [List.map_cons, h2, hi, List.length_cons, List.range'_succ]
theorem x_step {ob : Prop} {v : PV} {rd : List Key} {tr : List XIt} (ho : ops[i]? = some ⟨some d, op, ty, pos, aft, none⟩) (hc : callOf r op = none) (hv : validB r G op = true) (he : eff P (ev r) h (d, cnt d) op = ⟨ob, v, [], rd, false⟩) (hob : ob)
    (hk : xS P ops K rest (i + 1) ⟨⟨setT r d v, h, cnt⟩, setB G d true⟩ (tr ++ [⟨i, ⟨some d, op, ty, pos, aft, none⟩, true, ⟨ob, v, [], rd, false⟩, ⟨i, rd, []⟩, none, fun h' => eff P (ev r) h' (0, 0) op⟩])) :
    xS P ops K (⟨some d, op, ty, pos, aft, none⟩ :: rest) i ⟨⟨r, h, cnt⟩, G⟩ tr := by
  refine XAt.next (x := ⟨i, ⟨some d, op, ty, pos, aft, none⟩, true, ⟨ob, v, [], rd, false⟩, ⟨i, rd, []⟩, none, fun h' => eff P (ev r) h' (0, 0) op⟩) ⟨⟨ho, rfl, trivial, rfl, .inl ⟨hc, fun _ => ⟨validB_ok hv, hob⟩, (fun h => by cases h), ?_, rfl, rfl⟩⟩, fun hkl _ h' key => keyless_key hkl⟩ rfl ?_
  · show _ = effG true _
    simp only [siteOf, Option.getD_some, effG, if_true]
    exact he.symm
  · show xS P ops K rest (i + 1) ⟨⟨putR r (some d) v, _, _⟩, setG G (some d) true⟩ _
    rw [putR_setT, setG_setB]; exact hk
theorem x_hcall {f : FuncId} {args : List PV} {v : PV} {ha : Heap} {ca : Nat → Nat} {tr : List XIt} (ho : ops[i]? = some ⟨some d, op, ty, pos, aft, none⟩) (hc : callOf r op = some (f, args)) (hv : validB r G op = true) (hp : HCallsR P f args h cnt fun v' h' c' => v' = v ∧ h' = ha ∧ c' = ca)
    (hk : xS P ops K rest (i + 1) ⟨⟨setT r d v, ha, ca⟩, setB G d true⟩ (tr ++ [⟨i, ⟨some d, op, ty, pos, aft, none⟩, true, .val True v, ⟨i, [], []⟩, some (h, ha, ca), fun _ => .val True v⟩])) :
    xS P ops K (⟨some d, op, ty, pos, aft, none⟩ :: rest) i ⟨⟨r, h, cnt⟩, G⟩ tr := by
  refine XAt.next (x := ⟨i, ⟨some d, op, ty, pos, aft, none⟩, true, .val True v, ⟨i, [], []⟩, some (h, ha, ca), fun _ => .val True v⟩) ⟨ho, trivial, rfl, validB_ok hv, rfl, f, args, hc, hp⟩ rfl ?_
  show xS P ops K rest (i + 1) ⟨⟨putR r (some d) v, ha, ca⟩, setG G (some d) true⟩ _
  rw [putR_setT, setG_setB]; exact hk
/-- Two items that write nothing. -/
theorem xfree_nn {x y : XIt} (hx : x.hc = none) (hy : y.hc = none) (ha : x.o.apart ops y.o = true) (hs0 : Nat.beq (siteOf x.o) (siteOf y.o) = false) (h1 : x.ft.wr = []) (h2 : y.ft.wr = []) : XFree ops x y := by
  refine ⟨ha, ?_⟩
  rw [hx, hy]
  exact ⟨.inl (Nat.ne_of_beq_eq_false hs0), by rw [h1]; exact fun k hk => by simp at hk, .inr (by rw [h2]; exact fun k hk => by simp at hk), by rw [h1]; exact fun k hk => by simp at hk⟩
theorem xfree_cn {x y : XIt} {hb ha : Heap} {c : Nat → Nat} (hx : x.hc = some (hb, ha, c)) (hy : y.hc = none) (hap : x.o.apart ops y.o = true) (hc : Calm y hb ha) : XFree ops x y := by
  refine ⟨hap, ?_⟩
  rw [hx, hy]
  exact hc
theorem load_same {ρ : Operand → PV} {x : Operand} {t : TypeId} {k k' : Key} {sz i j : Nat} {hb ha : Heap} (hx : ρ x = .ptr k sz i j) (hk : ha k = hb k) : eff P ρ hb k' (.load t x) = eff P ρ ha k' (.load t x) := by
  simp only [eff, hx, loadEff, hk]
theorem pwp_seq_x {Q : Exit → PS → Prop} {b : Code} {id : Nat} {ops : Array Oper} (hx : ∀ K : PS → Prop, (∀ s', pwp P b Q s' → K s') → xS P ops K ops.toList 0 ⟨⟨r, h, cnt⟩, fun _ => true⟩ []) : pwp P (.seq (.region id ops true) b) Q ⟨r, h, cnt⟩ :=
  pwp_seq_k fun K hK => by
    show pRegion P ops true K _
    unfold pRegion
    intro _
    rw [show (noGuards ops && !true) = false by simp]
    obtain ⟨L, σ', h1, h2, h3, h4⟩ := hx K hK
    exact .inr ⟨rfl, L, σ', h1, by rw [h2, List.range_eq_range']; simp, by simpa using h3, h4⟩
end
end Go.Pv
