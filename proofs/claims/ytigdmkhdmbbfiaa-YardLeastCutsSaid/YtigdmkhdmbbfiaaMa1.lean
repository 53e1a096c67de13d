/- Own tables: plain laws. No conditions. -/
import Derived.Test.YtigdmkhdmbbfiaaCu1
import Derived.Test.YtigdmkhdmbbfiaaPvGh
set_option linter.unusedSimpArgs false
set_option linter.unusedVariables false
set_option maxRecDepth 100000
namespace Go.Proofs.Ytigdmkhdmbbfiaa
open Go Go.Pv
theorem pwp_plainK {P : Program} {Q : Exit → PS → Prop} {s : PS} {id : Nat} {ops : Array Oper} (hg : noGuards ops = true) (h : Known s → ∀ K : PS → Prop, (∀ s', Q .normal s' → K s') → pOps P K ops.toList s) : pwp P (.region id ops false) Q s := by
 show pRegion P ops false (Q .normal) s
 unfold pRegion
 intro hk
 rw [hg]
 exact h hk _ fun _ h => h
/-! ### Own tables: rows of their own block behind an own row of slices -/
section
variable {P : Program} {ρ : Operand → PV} {h : Heap} {key : Key} {x y : Operand} {t : TypeId}
theorem e_mkV {l c : Operand} {L : Int} {n : Nat} (hx : ρ l = .int L) (hy : ρ c = .int L) (hn : L = (n : Int)) (hz : zeroCellsOf P (elemTy P t) = some [.nil]) (ho : sliceOk P t = true) (hs : tySize P (elemTy P t) = 1) (hb : P.bytesOf (elemTy P t) < 2 ^ 15) (hl : n < 2 ^ 32) :
   eff P ρ h key (.makeSlice t l c) = ⟨True, .ref key 1 0 n, [(key, some (.rows 1 ((List.replicate n PV.nil).map cv)))], [], true⟩ := by
 subst hn
 have h1 : (List.replicate n PV.nil).map cv = List.replicate n [PV.nil] := by simp [cv]
 simp only [eff, hx, hy, makeSliceEff, hz, ho, hs, hb, h1]
 simp [PV.cell]; omega
theorem e_loadV {k : Key} {zs : List PV} {i : Nat} {v : PV} (hx : ρ x = .ptr k 1 i 0) (hk : h k = some (.rows 1 (zs.map cv))) (hg : tyAgg P t = false) (hs : tySize P t = 1) (ht : tyOk P t = true) (ha : zs[i]? = some v) :
   eff P ρ h key (.load t x) = ⟨True, v, [], [k], false⟩ := by
 have hi : i < zs.length := (List.getElem?_eq_some_iff.1 ha).1
 exact e_loadH hx hk hg hs ht (by simpa using hi) (by omega) ((cell_map ha _).trans rfl)
theorem e_storeV {k : Key} {zs : List PV} {i : Nat} {v : PV} (hx : ρ x = .ptr k 1 i 0) (hk : h k = some (.rows 1 (zs.map cv))) (hy : ρ y = v) (hp : pcells v = [v]) (hc : v.cell = true) (hi : i < zs.length) (hs : tySize P t = 1) (ht : tyOk P t = true) :
   eff P ρ h key (.store t x y) = ⟨True, .dead, [(k, some (.rows 1 ((zs.set i v).map cv)))], [k], false⟩ := by
 have h1 : setRow (zs.map cv) i 0 [v] = (zs.set i v).map cv := by
   unfold setRow setAt
   rw [List.map_set]
   congr 1
   simp [List.getD_eq_getElem?_getD, hi, cv]
 simp only [eff, storeEff, hx, hk, hy, hp, hs, ht, h1]
 simp [hi, hc]
end
def upd {α : Type} (b : Nat → Nat → α) (i j : Nat) (w : α) : Nat → Nat → α := fun i' j' => if i' = i ∧ j' = j then w else b i' j'
def mrows (s D n : Nat) (gs : List Nat) : List PV := gs.map (fun g => PV.ref (s, g) 1 0 D) ++ List.replicate (n - gs.length) PV.nil
structure Mat {α : Type} (h : Heap) (k0 : Key) (s n D : Nat) (f : α → List PV) (gs : List Nat) (b : Nat → Nat → α) : Prop where
 le : gs.length ≤ n
 nd : gs.Nodup
 out : h k0 = some (.rows 1 ((mrows s D n gs).map cv))
 inn : ∀ i g, gs[i]? = some g → h (s, g) = some (.rows 1 (((List.range D).map (b i)).map f))
section
variable {α : Type} {h h' : Heap} {k0 : Key} {s n D : Nat} {f : α → List PV} {gs : List Nat} {b b' : Nat → Nat → α} {i j g : Nat} {w z : α}
theorem mrows_len (hl : gs.length ≤ n) : (mrows s D n gs).length = n := by simp [mrows]; omega
theorem Mat.row (hM : Mat h k0 s n D f gs b) (hi : i < gs.length) : (mrows s D n gs)[i]? = some (.ref (s, gs.getD i 0) 1 0 D) := by
 rw [mrows, List.getElem?_append_left (by simpa using hi), List.getElem?_map, List.getElem?_eq_getElem hi, List.getD_eq_getElem?_getD, List.getElem?_eq_getElem hi]; rfl
theorem Mat.at (hM : Mat h k0 s n D f gs b) (hi : i < gs.length) : h (s, gs.getD i 0) = some (.rows 1 (((List.range D).map (b i)).map f)) :=
 hM.inn i _ (by rw [List.getD_eq_getElem?_getD, List.getElem?_eq_getElem hi]; rfl)
theorem mcell (hj : j < D) : ((List.range D).map (b i))[j]? = some (b i j) := by rw [List.getElem?_map, List.getElem?_range hj]; rfl
theorem Mat.keep (hM : Mat h k0 s n D f gs b) (h1 : h' k0 = h k0) (h2 : ∀ g, h' (s, g) = h (s, g)) : Mat h' k0 s n D f gs b :=
 ⟨hM.le, hM.nd, h1.trans hM.out, fun i g hg => (h2 g).trans (hM.inn i g hg)⟩
theorem Mat.set {d e : Nat} {o : Option PObj} (h1 : Nat.beq k0.1 d = false) (h2 : Nat.beq s d = false) (hM : Mat h k0 s n D f gs b) : Mat (hset h (d, e) o) k0 s n D f gs b :=
 hM.keep (hset_ne (by intro q; rw [q] at h1; simp at h1)) fun g => hset_ne (key_ne h2)
theorem Mat.new : Mat (hset h k0 (some (.rows 1 ((List.replicate n PV.nil).map cv)))) k0 s n D f [] b :=
 ⟨Nat.zero_le _, List.nodup_nil, by rw [hset_self]; simp [mrows], fun i g hg => by simp at hg⟩
theorem Mat.congr (hM : Mat h k0 s n D f gs b) (hb : ∀ i j, i < gs.length → j < D → b i j = b' i j) : Mat h k0 s n D f gs b' :=
 ⟨hM.le, hM.nd, hM.out, fun i g hg => by
   rw [hM.inn i g hg]
   congr 3
   exact List.map_congr_left fun j hj => hb i j (List.getElem?_eq_some_iff.1 hg).1 (List.mem_range.1 hj)⟩
theorem Mat.add (h0 : Nat.beq k0.1 s = false) (hM : Mat h k0 s n D f gs (fun _ _ => z)) (hf : ∀ g' o, h (s, g') = some o → g' < g) (hi : i = gs.length) (hn : i < n) :
   Mat (hset (hset h (s, g) (some (.rows 1 ((List.replicate D z).map f)))) k0 (some (.rows 1 (((mrows s D n gs).set i (.ref (s, g) 1 0 D)).map cv)))) k0 s n D f (gs ++ [g]) (fun _ _ => z) := by
 subst hi
 have hne : ∀ g', g' ∈ gs → g' ≠ g := fun g' hg e => by
   obtain ⟨j, hj⟩ := List.mem_iff_getElem?.1 hg
   have := hf _ _ (hM.inn j g' hj)
   omega
 have hk : ∀ g', ((s, g') : Key) ≠ k0 := fun g' e => by rw [← e] at h0; simp at h0
 refine ⟨by simp; omega, ?_, ?_, fun i g' hg => ?_⟩
 · rw [List.nodup_append]
   exact ⟨hM.nd, by simp, fun a ha b hb => by simp at hb; subst hb; exact hne a ha⟩
 · rw [hset_self]
   congr 3
   apply List.ext_getElem?
   intro j
   rw [List.getElem?_set, mrows_len hM.le, mrows, mrows]
   by_cases e : gs.length = j
   · subst e
     simp [hn]
   · rw [if_neg e]
     simp only [List.map_append, List.map_cons, List.map_nil, List.length_append, List.length_cons, List.length_nil]
     rcases Nat.lt_or_ge j gs.length with q | q
     · rw [List.getElem?_append_left (by simpa using q), List.append_assoc, List.getElem?_append_left (by simpa using q)]
     · rw [List.getElem?_append_right (by simpa using q), List.getElem?_append_right (by simp; omega)]
       simp only [List.length_map, List.length_append, List.length_cons, List.length_nil, List.getElem?_replicate]
       by_cases e2 : j < n
       · rw [if_pos (by omega), if_pos (by omega)]
       · rw [if_neg (by omega), if_neg (by omega)]
 · rw [hset_ne (hk g')]
   by_cases e : i < gs.length
   · rw [List.getElem?_append_left e] at hg
     rw [hset_ne (fun q => hne g' (List.mem_of_getElem? hg) (by cases q; rfl)), hM.inn i g' hg]
   · rw [List.getElem?_append_right (by omega)] at hg
     have h1 : g' = g := by
       cases hq : i - gs.length with
       | zero => rw [hq] at hg; simp at hg; exact hg.symm
       | succ m => rw [hq] at hg; simp at hg
     subst h1
     rw [hset_self]
     congr 3
     exact (List.eq_replicate_iff.2 ⟨by simp, fun a ha => by obtain ⟨_, _, rfl⟩ := List.mem_map.1 ha; rfl⟩).symm
theorem Mat.upd (h0 : Nat.beq k0.1 s = false) (hM : Mat h k0 s n D f gs b) (hi : i < gs.length) (hj : j < D) :
   Mat (hset h (s, gs.getD i 0) (some (.rows 1 ((((List.range D).map (b i)).set j w).map f)))) k0 s n D f gs (upd b i j w) := by
 have hk : ∀ g', k0 ≠ (s, g') := fun g' e => by rw [e] at h0; simp at h0
 have hgi : gs[i]? = some (gs.getD i 0) := by rw [List.getD_eq_getElem?_getD, List.getElem?_eq_getElem hi]; rfl
 refine ⟨hM.le, hM.nd, (hset_ne (hk _)).trans hM.out, fun i' g' hg => ?_⟩
 by_cases e : i' = i
 · subst e
   rw [hgi] at hg; cases hg
   rw [hset_self]
   congr 3
   apply List.ext_getElem?
   intro j'
   rw [List.getElem?_set, List.length_map, List.length_range]
   rcases Nat.lt_or_ge j' D with q | q
   · rw [mcell q, mcell q, _root_.Go.Proofs.Ytigdmkhdmbbfiaa.upd]
     by_cases e2 : j = j'
     · subst e2; simp [q]
     · rw [if_neg e2, if_neg (fun q2 => e2 q2.2.symm)]
   · rw [List.getElem?_eq_none (by simpa using q), List.getElem?_eq_none (by simpa using q)]
     split <;> first | rfl | (rename_i q2; subst q2; simp; omega)
 · have h1 : g' ≠ gs.getD i 0 := fun q => e (by
     subst q
     have h2 := List.getElem?_eq_some_iff.1 hg
     have h3 := List.getElem?_eq_some_iff.1 hgi
     obtain ⟨h4, h5⟩ := h2; obtain ⟨h6, h7⟩ := h3; exact (List.getElem_inj hM.nd).1 (h5.trans h7.symm))
   rw [hset_ne (fun q => h1 (by cases q; rfl)), hM.inn i' g' hg]
   congr 3
   exact List.map_congr_left fun j' _ => by rw [_root_.Go.Proofs.Ytigdmkhdmbbfiaa.upd, if_neg (fun q => e q.1)]
end

end Go.Proofs.Ytigdmkhdmbbfiaa
