import Derived.Test.YtjmjiegplnfiiaaLstA
import Derived.Test.YtjmjiegplnfiiaaOrdA
/- The heap of an order: push and pop. No conditions. -/
set_option linter.unusedSimpArgs false
set_option linter.unusedVariables false
set_option maxRecDepth 100000
namespace Go.Proofs.Ytjmjiegplnfiiaa
open Go Go.Pv
/-! ### Own slices of integers that may end ahead of their block's end -/
def PartAt (h : Heap) (d : Nat) (v : PV) (l : List Int) : Prop := (l = [] ∧ v = .nil) ∨ ∃ g t, v = .ref (d, g) 1 0 l.length ∧ h (d, g) = some (.rows 1 ((l ++ t).map ci))
theorem PartAt.keep {h h' : Heap} {d : Nat} {v : PV} {l : List Int} (hs : PartAt h d v l) (hk : ∀ g, h' (d, g) = h (d, g)) : PartAt h' d v l := by
 rcases hs with h1 | ⟨g, t, h1, h2⟩
 · exact .inl h1
 · exact .inr ⟨g, t, h1, (hk g).trans h2⟩
theorem PartAt.nil {h : Heap} {d : Nat} : PartAt h d .nil [] := .inl ⟨rfl, rfl⟩
section
variable {P : Program} {K : PS → Prop} {d : Nat} {ty t : TypeId} {pos : String} {aft : Array Edge} {gd : Option (Nat × Bool)} {rest : List Oper} {r : Nat → PV} {h : Heap} {cnt : Nat → Nat} {op : Op} {x y : Operand}
theorem p_appP {ts : Array TypeId} {t2 : TypeId} {u u2 : PV} {d1 : Nat} {l : List Int} {n : Int} (hts : ts.toList = [t, t2]) (hx : ev r x = u) (hy : ev r y = u2) (hs : PartAt h d1 u l) (hsr : (srcRows h 1 u2).1 ∧ (srcRows h 1 u2).2.1 = [ci n])
   (hok : (sliceOk P t && (decide (P.bytesOf (elemTy P t) < 2 ^ 15) && (decide (intKind P t2 = none) && (zeroOk P (elemTy P t) && ((P.underlying t2).isSome && decide (tySize P (elemTy P t) = 1)))))) = true) (hlen : l.length + 1 < 2 ^ 32)
   (hk : ∀ v' h' c', (∃ g, v' = .ref (d, g) 1 0 (l.length + 1) ∧ h' (d, g) = some (.rows 1 ((l ++ [n]).map ci))) → (∀ k' : Key, k'.1 ≠ d → k'.1 ≠ d1 → h' k' = h k') → pOps P K rest ⟨setT r d v', h', c'⟩) :
   pOps P K (⟨some d, .call { callee := .builtin .append, args := #[x, y], argTypes := ts }, ty, pos, aft, gd⟩ :: rest) ⟨r, h, cnt⟩ := by
 simp only [Bool.and_eq_true, decide_eq_true_eq] at hok
 obtain ⟨o1, o2, o3, o4, o5, o6⟩ := hok
 have he : ∀ u, ev r x = u → eff P (ev r) h (d, cnt d) (.call { callee := .builtin .append, args := #[x, y], argTypes := ts }) = appendEff P h (d, cnt d) t t2 u u2 := fun u hu => by
   show builtinEff P h (d, cnt d) .append ts.toList [ev r x, ev r y] = _
   rw [hts, hu, hy]; rfl
 rcases hs with ⟨rfl, rfl⟩ | ⟨g, tl, rfl, hg⟩
 · have hq := he _ hx
   unfold appendEff at hq
   simp only [o6, hsr.2] at hq
   refine p_new rfl hq ⟨⟨o1, o2, o3, o4, o5⟩, hsr.1, by simp, by simp⟩ (hk _ _ _ ⟨cnt d, rfl, hset_self _ _ _⟩ fun k' h1 _ => hset_ne fun e => h1 (by rw [e]))
 · have hq := he _ hx
   unfold appendEff at hq
   simp only [hg, o6, hsr.2] at hq
   refine p_renew rfl hq (by refine ⟨⟨o1, o2, o3, o4, o5⟩, hsr.1, ?_⟩; simp; omega) (hk _ _ _ ⟨cnt d, rfl, ?_⟩ fun k' h1 h2 => ?_)
   · rw [hset_self, List.drop_zero, List.map_append, List.take_append_of_le_length (by simp), List.take_of_length_le (by simp), List.map_append]; rfl
   · rw [hset_ne fun e => h1 (by rw [e]), hset_ne fun e => h2 (by rw [e])]
end
theorem up_get {q : List Int} {z : Int} (h : 0 < z) (h2 : z.toNat < q.length) : q[((z - 1) / 2).toNat]? = some (at0 q (up z.toNat)) := by
 rw [show ((z - 1) / 2).toNat = up z.toNat by unfold up; omega]
 exact at0_get (by unfold up; omega)
theorem swp_up {q : List Int} {z : Int} (h : 0 < z) : (q.set ((z - 1) / 2).toNat (at0 q z.toNat)).set z.toNat (at0 q (up z.toNat)) = swp q (up z.toNat) z.toNat := by
 rw [show ((z - 1) / 2).toNat = up z.toNat by unfold up; omega]; rfl
theorem up_next {z : Int} (h : 0 < z) : ((z - 1) / 2).toNat = up z.toNat := by unfold up; omega
/-- What a push leaves. -/
def PushR (h0 : Heap) (n : Int) (l : List Int) (h' : Heap) : Prop := ∃ v' l', h' (4, 0) = some (.rows 1 [[v']]) ∧ PartAt h' 12 v' l' ∧ HeapL l' ∧ l'.Perm (n :: l) ∧ ∀ k' : Key, k' ≠ (4, 0) → k'.1 ≠ 11 → k'.1 ≠ 12 → h' k' = h0 k'
theorem PushR.of {h0 h' : Heap} {n : Int} {l q : List Int} {g : Nat} (h1 : h' (4, 0) = some (.rows 1 [[.ref (12, g) 1 0 (l.length + 1)]])) (h2 : h' (12, g) = some (.rows 1 (q.map ci))) (h3 : HeapL q) (h4 : q.Perm (n :: l)) (h5 : ∀ k' : Key, k' ≠ (4, 0) → k'.1 ≠ 11 → k'.1 ≠ 12 → h' k' = h0 k') : PushR h0 n l h' :=
 ⟨_, q, h1, .inr ⟨g, [], by rw [h4.length_eq]; rfl, by rw [List.append_nil]; exact h2⟩, h3, h4, h5⟩
theorem app_get {l t : List Int} {i : Int} (h : 0 ≤ i ∧ i < l.length) : (l ++ t)[i.toNat]? = some (at0 l i.toNat) := by
 rw [List.getElem?_append_left (by omega)]; exact at0_get (by omega)
theorem take_set0 {l t : List Int} (h : l ≠ []) : ((l ++ t).set ((0 : Int)).toNat (at0 l ((l.length : Int) - 1).toNat)).take (l.length - 1) = mv0 l := by
 have h0 : 0 < l.length := List.length_pos_iff.2 h
 rw [show ((0 : Int)).toNat = 0 from rfl, show ((l.length : Int) - 1).toNat = l.length - 1 by omega, List.set_append_left _ _ h0, List.take_append_of_le_length (by simp)]; rfl
theorem take_swp {q : List Int} {a b m : Nat} (ha : a < m) (hb : b < m) (hm : m ≤ q.length) : (swp q a b).take m = swp (q.take m) a b := by
 simp only [swp, List.take_set, take_at ha, take_at hb]
theorem min1 {Q : List Int} {i : Nat} (h : 2 * i + 2 < Q.length → at0 Q (2 * i + 1) ≤ at0 Q (2 * i + 2)) : ∀ j, 0 < j → j < Q.length → up j = i → at0 Q (2 * i + 1) ≤ at0 Q j := fun j h1 h2 h3 => by
 have : j = 2 * i + 1 ∨ j = 2 * i + 2 := by unfold up at h3; omega
 rcases this with rfl | rfl
 · exact Int.le_refl _
 · exact h h2
theorem min2 {Q : List Int} {i : Nat} (h : at0 Q (2 * i + 2) ≤ at0 Q (2 * i + 1)) : ∀ j, 0 < j → j < Q.length → up j = i → at0 Q (2 * i + 2) ≤ at0 Q j := fun j h1 h2 h3 => by
 have : j = 2 * i + 1 ∨ j = 2 * i + 2 := by unfold up at h3; omega
 rcases this with rfl | rfl
 · exact h
 · exact Int.le_refl _
section
variable {q : List Int} {m : Nat} {z : Int}
theorem pop_step1 (hD : DownI (q.take m) z.toNat) (hm : m ≤ q.length) (hz : 0 ≤ z) (hlt : 2 * z + 1 < (m : Int)) (hc : 2 * z + 1 + 1 < (m : Int) → at0 q (2 * z + 1).toNat ≤ at0 q (2 * z + 1 + 1).toNat) (hs : at0 q (2 * z + 1).toNat < at0 q z.toNat) :
   DownI ((swp q z.toNat (2 * z + 1).toNat).take m) (2 * z + 1).toNat := by
 have hl : (q.take m).length = m := by rw [List.length_take]; omega
 have e1 : (2 * z + 1).toNat = 2 * z.toNat + 1 := by omega
 have e2 : (2 * z + 1 + 1).toNat = 2 * z.toNat + 2 := by omega
 rw [take_swp (by omega) (by omega) hm]
 rw [e1] at hs hc ⊢
 rw [e2] at hc
 refine hD.step (by omega) (by omega) (by omega) (by unfold up; omega) (min1 fun h => ?_) (by rw [take_at (by omega), take_at (by omega)]; exact hs)
 rw [take_at (by omega), take_at (by omega)]; exact hc (by omega)
theorem pop_step2 (hD : DownI (q.take m) z.toNat) (hm : m ≤ q.length) (hz : 0 ≤ z) (hlt : 2 * z + 1 + 1 < (m : Int)) (hc : at0 q (2 * z + 1 + 1).toNat < at0 q (2 * z + 1).toNat) (hs : at0 q (2 * z + 1 + 1).toNat < at0 q z.toNat) :
   DownI ((swp q z.toNat (2 * z + 1 + 1).toNat).take m) (2 * z + 1 + 1).toNat := by
 have hl : (q.take m).length = m := by rw [List.length_take]; omega
 have e1 : (2 * z + 1).toNat = 2 * z.toNat + 1 := by omega
 have e2 : (2 * z + 1 + 1).toNat = 2 * z.toNat + 2 := by omega
 rw [take_swp (by omega) (by omega) hm]
 rw [e2] at hs hc ⊢
 rw [e1] at hc
 refine hD.step (by omega) (by omega) (by omega) (by unfold up; omega) (min2 ?_) (by rw [take_at (by omega), take_at (by omega)]; exact hs)
 rw [take_at (by omega), take_at (by omega)]; omega
theorem pop_stop0 (hD : DownI (q.take m) z.toNat) (hz : 0 ≤ z) (hlt : (m : Int) ≤ 2 * z + 1) : HeapL (q.take m) :=
 hD.stop fun j h1 h2 h3 => by rw [List.length_take] at h2; unfold up at h3; omega
theorem pop_stop1 (hD : DownI (q.take m) z.toNat) (hm : m ≤ q.length) (hz : 0 ≤ z) (hlt : 2 * z + 1 < (m : Int)) (hc : 2 * z + 1 + 1 < (m : Int) → at0 q (2 * z + 1).toNat ≤ at0 q (2 * z + 1 + 1).toNat) (hs : at0 q z.toNat ≤ at0 q (2 * z + 1).toNat) : HeapL (q.take m) := by
 have hl : (q.take m).length = m := by rw [List.length_take]; omega
 have e1 : (2 * z + 1).toNat = 2 * z.toNat + 1 := by omega
 have e2 : (2 * z + 1 + 1).toNat = 2 * z.toNat + 2 := by omega
 rw [e1] at hs hc
 rw [e2] at hc
 refine hD.stop fun j h1 h2 h3 => Int.le_trans (b := at0 (q.take m) (2 * z.toNat + 1)) ?_ (min1 (fun h => ?_) j h1 h2 h3)
 · rw [take_at (by omega), take_at (by omega)]; exact hs
 · rw [take_at (by omega), take_at (by omega)]; exact hc (by omega)
theorem pop_stop2 (hD : DownI (q.take m) z.toNat) (hm : m ≤ q.length) (hz : 0 ≤ z) (hlt : 2 * z + 1 + 1 < (m : Int)) (hc : at0 q (2 * z + 1 + 1).toNat < at0 q (2 * z + 1).toNat) (hs : at0 q z.toNat ≤ at0 q (2 * z + 1 + 1).toNat) : HeapL (q.take m) := by
 have hl : (q.take m).length = m := by rw [List.length_take]; omega
 have e1 : (2 * z + 1).toNat = 2 * z.toNat + 1 := by omega
 have e2 : (2 * z + 1 + 1).toNat = 2 * z.toNat + 2 := by omega
 rw [e2] at hs hc
 rw [e1] at hc
 refine hD.stop fun j h1 h2 h3 => Int.le_trans (b := at0 (q.take m) (2 * z.toNat + 2)) ?_ (min2 ?_ j h1 h2 h3)
 · rw [take_at (by omega), take_at (by omega)]; exact hs
 · rw [take_at (by omega), take_at (by omega)]; omega
theorem pop_perm {a : Int} {l : List Int} {k : Int} (h : (a :: q.take m).Perm l) (hm : m ≤ q.length) (hz : 0 ≤ z ∧ z < m) (hk : 0 ≤ k ∧ k < m) : (a :: (swp q z.toNat k.toNat).take m).Perm l := by
 rw [take_swp (by omega) (by omega) hm]
 exact ((swp_perm (by rw [List.length_take]; omega) (by rw [List.length_take]; omega)).cons a).trans h
end
/-- What a pop leaves. -/
def PopR (h0 : Heap) (l : List Int) (v : PV) (h' : Heap) : Prop := v = .int (at0 l 0) ∧ ∃ v' l', h' (4, 0) = some (.rows 1 [[v']]) ∧ PartAt h' 12 v' l' ∧ HeapL l' ∧ (at0 l 0 :: l').Perm l ∧ ∀ k' : Key, k' ≠ (4, 0) → k'.1 ≠ 12 → h' k' = h0 k'
theorem PopR.of {h0 h' : Heap} {l q : List Int} {g : Nat} (h1 : h' (4, 0) = some (.rows 1 [[.ref (12, g) 1 0 (l.length - 1)]])) (h2 : h' (12, g) = some (.rows 1 (q.map ci))) (hq : l.length - 1 ≤ q.length) (h3 : HeapL (q.take (l.length - 1))) (h4 : (at0 l 0 :: q.take (l.length - 1)).Perm l) (h5 : ∀ k' : Key, k' ≠ (4, 0) → k'.1 ≠ 12 → h' k' = h0 k') : PopR h0 l (.int (at0 l 0)) h' :=
 ⟨rfl, _, q.take (l.length - 1), h1, .inr ⟨g, q.drop (l.length - 1), by rw [List.length_take, Nat.min_eq_left hq], by rw [List.take_append_drop]; exact h2⟩, h3, h4, h5⟩

theorem frH110 : (inFrame Try.f110.ntmps (Try.f110.body.getD .skip) && Try.f110.results.toList.all (resScope Try.f110.ntmps)) = true := by kernel_rfl
theorem pushH (h0 : Heap) (c0 : Nat → Nat) (l : List Int) (n : Int) (v0 : PV) (hb : h0 (4, 0) = some (.rows 1 [[v0]])) (hv : PartAt h0 12 v0 l) (hl : l.length ≤ 1000000) (hh : HeapL l) : HCallsR Try.prog 110 [.ptr (4, 0) 1 0 0, .int n] h0 c0 (fun _ h' _ => PushR h0 n l h') := by
 refine HCallsR.of_code Try.func110 rfl rfl (by kernel_rfl) mixed frH110 (by show _ ≤ 56; simp) (pwp_seq_plain rfl fun K1 hK1 => p_e rfl (e_move (v := .ptr _ _ _ _) rfl) (p_e rfl (e_move (v := .ptr _ _ _ _) rfl) (p_e rfl (e_nilc rfl) (p_e rfl (e_loadH (v := v0) rfl hb (by kernel_rfl) (by kernel_rfl) (by kernel_rfl) (by exact Nat.zero_lt_one) (by decide) rfl) (p_mS rfl (p_new rfl (e_bslice (rows := [ci n]) (zs := [.int 0]) (sz := 1) (by kernel_rfl) (by kernel_rfl) rfl (by kernel_rfl) (by decide) rfl rfl (by exact ⟨by decide, rfl, rfl, trivial⟩) rfl) trivial ?_))))))
 refine p_appP (d1 := 12) (l := l) (n := n) rfl rfl rfl (hv.keep fun g => hset_ne (key_ne rfl)) (src_ref (hset_self _ _ _) rfl) (by kernel_rfl) (by omega) fun v1 h1 c1 hv1 hf1 => ?_
 obtain ⟨g, rfl, hg⟩ := hv1
 have hb1 := ((hf1 (4, 0) (by decide) (by decide)).trans (hset_ne (key_ne rfl))).trans hb
 have hfr : ∀ k' : Key, k' ≠ (4, 0) → k'.1 ≠ 11 → k'.1 ≠ 12 → h1 k' = h0 k' := fun k' q1 q2 q3 => (hf1 k' q3 q3).trans (hset_ne fun e => q2 (by rw [e]))
 refine p_e rfl (e_nilc rfl) (p_store rfl (e_store1 rfl hb1 rfl rfl rfl (by decide) (by kernel_rfl) rfl (by kernel_rfl)) trivial (p_end (hK1 _ ?_))); clear hK1 K1
 refine pwp_seq_plain rfl fun K2 hK2 => p_e rfl (e_move (v := .ptr _ _ _ _) rfl) (p_e rfl (e_nilc rfl) (p_e rfl (e_lH (v := .ref _ _ _ _) rfl (hset_self _ _ _) rfl) (p_e rfl (e_assign (v := .ref _ _ _ _) rfl) (p_end (hK2 _ ?_))))); clear hK2 K2
 refine pwp_seq_plain rfl fun K3 hK3 => p_e rfl (e_move (v := .ref _ _ _ _) rfl) (p_e rfl (e_lenR rfl (by kernel_rfl)) (p_e rfl (e_sub rfl rfl (by omega)) (p_aS rfl (p_end (hK3 _ ?_))))); clear hK3 K3
 refine pwp_block (pwp_loopR (α := Int × (List Int)) [4] (fun (a4 : Int × (List Int)) => [(5, .int (a4.1))]) (fun (a4 : Int × (List Int)) (h : Heap) (_ : Nat → Nat) => (0 ≤ (a4.1) ∧ (a4.1) ≤ (l.length : Int)) ∧ (UpI (a4.2) (a4.1).toNat) ∧ ((a4.2).Perm (n :: l)) ∧ (h (4, 0) = some (.rows 1 [[.ref (12, g) 1 0 (l.length + 1)]])) ∧ (∀ k' : Key, k' ≠ (4, 0) → k'.1 ≠ 11 → k'.1 ≠ 12 → h k' = h0 k') ∧ (h (12, g) = some (.rows 1 ((a4.2).map ci)))) (fun (a4 : Int × (List Int)) => (a4.1).toNat) (((l.length + 1 : Nat) : Int) - 1, l ++ [n]) (by exact ⟨rfl, trivial⟩) (by exact ⟨by omega, by rw [show (((l.length + 1 : Nat) : Int) - 1).toNat = l.length by omega]; exact UpI.start hh, by exact List.perm_append_comm, by exact hset_self _ _ _, by exact fun k' q1 q2 q3 => (hset_ne q1).trans (hfr k' q1 q2 q3), ((hset_ne (key_ne rfl)).trans hg)⟩) fun a4 r5 h6 c7 hj8 => ?_)
 obtain ⟨z, q⟩ := a4
 obtain ⟨hz, hup, hpm, hbx, hfx, hihj8_0⟩ := hj8
 try dsimp only at hz
 try dsimp only at hup
 try dsimp only at hpm
 try dsimp only at hbx
 try dsimp only at hfx
 try dsimp only at hihj8_0
 show pwp _ _ (loopQ _ _ _) ⟨sets (mix _ _ _) [(5, .int z)], _, _⟩
 refine pwp_seq_seq (pwp_seq_gops rfl fun K9 hK9 => g_begin (g_mS rfl rfl (g_e rfl (e_gt rfl rfl) (g_mS rfl rfl ?_))))
 refine g_cases (fun hb10 => ?_) (fun hb10 => ?_)
 ·have hb10R := hb10; try simp only [zz] at hb10
  refine g_e rfl (e_move (v := .ref _ _ _ _) rfl) (g_mS rfl rfl (g_e rfl (e_sub rfl rfl (by omega)) (g_e rfl (e_quo rfl rfl (by omega) (by omega) (by omega)) (g_e rfl (e_ixaR0 rfl rfl (by kernel_rfl) (by kernel_rfl) (by omega)) (g_e rfl (e_loadI (a := (at0 q (up z.toNat))) rfl hihj8_0 (by kernel_rfl) (by kernel_rfl) (by kernel_rfl) (up_get (by omega) hup.1)) (g_e rfl (e_move (v := .ref _ _ _ _) rfl) (g_mS rfl rfl ?_)))))))
  refine g_e rfl (e_ixaR0 rfl rfl (by kernel_rfl) (by kernel_rfl) (by omega)) (g_e rfl (e_loadI (a := (at0 q z.toNat)) rfl hihj8_0 (by kernel_rfl) (by kernel_rfl) (by kernel_rfl) (at0_get hup.1)) (g_e rfl (e_gt rfl rfl) (g_pT rfl rfl rfl (g_end (ds := [23, 24, 25, 26, 27, 28, 29, 30, 31, 32, 33]) (by kernel_rfl) rfl (hK9 _ ?_))))); clear hK9 K9
  refine pwp_seq_cond rfl fun K11 hK11 => ⟨fun hb12 => ?_, fun hb12 => ?_⟩
  ·have hb12R := hb12; try simp only [zz] at hb12
   have hzl := hup.1
   have hql := hpm.length_eq
   rw [List.length_cons] at hql
   refine pwp_skip (seq_norm (hK11 _ ?_)); clear hK11 K11
   refine pwp_seq_block fun K13 hK13 => pwp_gops rfl fun K14 hK14 => s_begin (s_e rfl (e_move (v := .ref _ _ _ _) rfl) (s_e rfl (e_move (v := .sc _) rfl) (s_e rfl (e_sub rfl rfl (by omega)) (s_e rfl (e_quo rfl rfl (by omega) (by omega) (by omega)) (s_e rfl (e_move (v := .ref _ _ _ _) rfl) ?_)))))
   refine s_e rfl (e_move (v := .sc _) rfl) (s_e rfl (e_move (v := .ref _ _ _ _) rfl) (s_e rfl (e_move (v := .sc _) rfl) (s_e rfl (e_ixaR0 rfl rfl (by kernel_rfl) (by kernel_rfl) (by omega)) (s_step [12] (by simp) rfl rfl rfl rfl (e_loadI (a := (at0 q z.toNat)) rfl hihj8_0 (by kernel_rfl) (by kernel_rfl) (by kernel_rfl) (at0_get hup.1)) trivial (s_e rfl (e_move (v := .ref _ _ _ _) rfl) (s_e rfl (e_move (v := .sc _) rfl) (s_e rfl (e_sub rfl rfl (by omega)) ?_)))))))
   refine s_e rfl (e_quo rfl rfl (by omega) (by omega) (by omega)) (s_e rfl (e_ixaR0 rfl rfl (by kernel_rfl) (by kernel_rfl) (by omega)) (s_step [12] (by simp) rfl rfl rfl rfl (e_loadI (a := (at0 q (up z.toNat))) rfl hihj8_0 (by kernel_rfl) (by kernel_rfl) (by kernel_rfl) (up_get (by omega) hup.1)) trivial (s_e rfl (e_ixaR0 rfl rfl (by kernel_rfl) (by kernel_rfl) (by omega)) (s_store [12] (by simp) rfl rfl (e_storeI (zs := q) (a := (at0 q z.toNat)) rfl hihj8_0 rfl (by (first | omega | (simp only [List.length_set]; omega))) (by kernel_rfl) (by kernel_rfl)) trivial (s_e rfl (e_ixaR0 rfl rfl (by kernel_rfl) (by kernel_rfl) (by omega)) (s_store [12] (by simp) rfl rfl (e_storeI (zs := ((q).set (((z - (1)) / (2))).toNat (at0 q z.toNat))) (a := (at0 q (up z.toNat))) rfl (hset_self _ _ _) rfl (by (first | omega | (simp only [List.length_set]; omega))) (by kernel_rfl) (by kernel_rfl)) trivial (s_end (ds := []) (by kernel_rfl) (by kernel_rfl) (hK14 _ ?_)))))))); clear hK14 K14
   refine block_norm (seq_norm (hK13 _ ?_)); clear hK13 K13
   refine pwp_plain rfl fun K15 hK15 => p_mS rfl (p_e rfl (e_sub rfl rfl (by omega)) (p_e rfl (e_quo rfl rfl (by omega) (by omega) (by omega)) (p_aS rfl (p_end (hK15 _ ?_))))); clear hK15 K15
   have hst := hup.step (by omega) (by omega)
   exact loop_again ((((z - 1) / 2), swp q (up z.toNat) z.toNat)) (by show _ < _; simp only; omega) ⟨rfl, trivial⟩ ⟨rfl, trivial⟩ (by exact ⟨by (show 0 ≤ (z - 1) / 2 ∧ (z - 1) / 2 ≤ (l.length : Int); omega), by (rw [up_next (by omega)]; exact hst), by exact (swp_perm (by unfold up; omega) hup.1).trans hpm, by exact (hset_ne (key_ne rfl)).trans ((hset_ne (key_ne rfl)).trans hbx), by exact fun k' q1 q2 q3 => (hset_ne fun e => q3 (by rw [e])).trans ((hset_ne fun e => q3 (by rw [e])).trans (hfx k' q1 q2 q3)), ((hset_self _ _ _).trans (by rw [swp_up (by omega)]))⟩)
  have hb12R := hb12; try simp only [zz] at hb12
  have hql := hpm.length_eq
  refine pwp_exit (exit_seq ?_)
  clear hK11 K11
  refine exit_loop (exit_here (end0n   ?_))
  exact PushR.of hbx (by assumption) (hup.stop (.inr (by omega))) hpm hfx
 have hb10R := hb10; try simp only [zz] at hb10
 iterate 11 refine g_skip rfl rfl rfl ?_
 refine g_pF rfl rfl rfl (g_end (ds := [23, 24, 25, 26, 27, 28, 29, 30, 31, 32, 33]) (by kernel_rfl) rfl (hK9 _ ?_)); clear hK9 K9
 refine pwp_seq_cond (t := false) rfl fun K16 hK16 => ⟨nofun, fun _ => ?_⟩
 refine pwp_exit (exit_seq ?_)
 clear hK16 K16
 refine exit_loop (exit_here (end0n   ?_))
 exact PushR.of hbx (by assumption) (hup.stop (.inl (by omega))) hpm hfx

theorem frH111 : (inFrame Try.f111.ntmps (Try.f111.body.getD .skip) && Try.f111.results.toList.all (resScope Try.f111.ntmps)) = true := by kernel_rfl
theorem popH (h0 : Heap) (c0 : Nat → Nat) (l : List Int) (v0 : PV) (hb : h0 (4, 0) = some (.rows 1 [[v0]])) (hv : PartAt h0 12 v0 l) (hl : l.length ≤ 1000000) (hh : HeapL l) (hne : l ≠ []) : HCallsR Try.prog 111 [.ptr (4, 0) 1 0 0] h0 c0 (fun v h' _ => PopR h0 l v h') := by
 refine HCallsR.of_code Try.func111 rfl rfl (by kernel_rfl) mixed frH111 (by show _ ≤ 80; simp) ?_
 rcases hv with ⟨e, _⟩ | ⟨g, t, rfl, hg⟩
 · exact absurd e hne
 have hl0 : 0 < l.length := List.length_pos_iff.2 hne
 have hlt : (l ++ t).length = l.length + t.length := List.length_append
 refine pwp_seq_plain rfl fun K1 hK1 => p_aS rfl (p_end (hK1 _ ?_)); clear hK1 K1
 refine pwp_seq_plain rfl fun K2 hK2 => p_e rfl (e_move (v := .ptr _ _ _ _) rfl) (p_e rfl (e_nilc rfl) (p_e rfl (e_lH (v := .ref _ _ _ _) rfl hb rfl) (p_e rfl (e_assign (v := .ref _ _ _ _) rfl) (p_end (hK2 _ ?_))))); clear hK2 K2
 refine pwp_seq_plain rfl fun K3 hK3 => p_e rfl (e_move (v := .ref _ _ _ _) rfl) (p_e rfl (e_ixaR0 rfl rfl (by kernel_rfl) (by kernel_rfl) (by omega)) (p_e rfl (e_loadI (a := (at0 l 0)) rfl hg (by kernel_rfl) (by kernel_rfl) (by kernel_rfl) (app_get (i := 0) (by omega))) (p_e rfl (e_move (v := .ref _ _ _ _) rfl) (p_e rfl (e_lenR rfl (by kernel_rfl)) (p_e rfl (e_sub rfl rfl (by omega)) (p_aS rfl ?_))))))
 refine p_aS rfl (p_end (hK3 _ ?_)); clear hK3 K3
 refine pwp_seq_plain rfl fun K4 hK4 => p_e rfl (e_move (v := .ref _ _ _ _) rfl) (p_e rfl (e_move (v := .ref _ _ _ _) rfl) (p_mS rfl (p_e rfl (e_ixaR0 rfl rfl (by kernel_rfl) (by kernel_rfl) (by omega)) (p_e rfl (e_loadI (a := (at0 l ((l.length : Int) - 1).toNat)) rfl hg (by kernel_rfl) (by kernel_rfl) (by kernel_rfl) (app_get (by omega))) (p_e rfl (e_ixaR0 rfl rfl (by kernel_rfl) (by kernel_rfl) (by omega)) (p_store rfl (e_storeI (zs := (l ++ t)) (a := (at0 l ((l.length : Int) - 1).toNat)) rfl hg rfl (by (first | omega | (simp only [List.length_set]; omega))) (by kernel_rfl) (by kernel_rfl)) trivial ?_))))))
 refine p_end (hK4 _ ?_); clear hK4 K4
 refine pwp_seq_plain rfl fun K5 hK5 => p_e rfl (e_move (v := .ref _ _ _ _) rfl) (p_mS rfl (p_e rfl (e_cutR (n := l.length - 1) rfl (congrArg PV.int (by omega : ((l.length : Int) - 1) = ((l.length - 1 : Nat) : Int))) (by omega) (by kernel_rfl) (by kernel_rfl)) (p_e rfl (e_assign (v := .ref _ _ _ _) rfl) (p_end (hK5 _ ?_))))); clear hK5 K5
 refine pwp_seq_plain rfl fun K6 hK6 => p_e rfl (e_move (v := .ptr _ _ _ _) rfl) (p_e rfl (e_move (v := .ref _ _ _ _) rfl) (p_e rfl (e_nilc rfl) (p_store rfl (e_store1 rfl ((hset_ne (key_ne rfl)).trans hb) rfl rfl rfl (by decide) (by kernel_rfl) rfl (by kernel_rfl)) trivial (p_end (hK6 _ ?_))))); clear hK6 K6
 refine pwp_seq_seq (pwp_seq_plain rfl fun K7 hK7 => p_aS rfl (p_end (hK7 _ ?_))); clear hK7 K7
 refine pwp_seq_block fun K8 hK8 => pwp_loopR (α := Int × (List Int)) [3, 4, 5] (fun (a9 : Int × (List Int)) => [(6, .int (a9.1))]) (fun (a9 : Int × (List Int)) (h : Heap) (_ : Nat → Nat) => (0 ≤ (a9.1) ∧ (a9.1) ≤ (l.length : Int)) ∧ (DownI ((a9.2).take (l.length - 1)) (a9.1).toNat) ∧ ((a9.2).length = l.length + t.length) ∧ ((at0 l 0 :: (a9.2).take (l.length - 1)).Perm l) ∧ (h (4, 0) = some (.rows 1 [[.ref (12, g) 1 0 (l.length - 1)]])) ∧ (∀ k' : Key, k' ≠ (4, 0) → k'.1 ≠ 12 → h k' = h0 k') ∧ (h (12, g) = some (.rows 1 ((a9.2).map ci)))) (fun (a9 : Int × (List Int)) => l.length - (a9.1).toNat) (0, (l ++ t).set ((0 : Int)).toNat (at0 l ((l.length : Int) - 1).toNat)) (by exact ⟨rfl, trivial⟩) (by exact ⟨by omega, by rw [take_set0 hne]; exact mv0_down hh, by simp, by rw [take_set0 hne]; exact mv0_perm hne, by exact hset_self _ _ _, by exact fun k' q1 q2 => (hset_ne q1).trans (hset_ne fun e => q2 (by rw [e])), ((hset_ne (key_ne rfl)).trans (hset_self _ _ _))⟩) fun a9 r10 h11 c12 hj13 => ?_
 obtain ⟨z, q⟩ := a9
 obtain ⟨hz, hD, hql, hpm, hbx, hfx, hihj13_0⟩ := hj13
 try dsimp only at hz
 try dsimp only at hD
 try dsimp only at hql
 try dsimp only at hpm
 try dsimp only at hbx
 try dsimp only at hfx
 try dsimp only at hihj13_0
 show pwp _ _ (loopQ _ _ _) ⟨sets (mix _ _ _) [(6, .int z)], _, _⟩
 refine pwp_seq_seq (pwp_seq_plain rfl fun K14 hK14 => p_mS rfl (p_e rfl (e_mul rfl rfl (by omega)) (p_e rfl (e_add rfl rfl (by omega)) (p_mS rfl (p_e rfl (e_lt rfl rfl) (p_end (hK14 _ ?_))))))); clear hK14 K14
 refine pwp_seq_cond rfl fun K15 hK15 => ⟨fun hb16 => ?_, fun hb16 => ?_⟩
 ·have hb16R := hb16; try simp only [zz] at hb16
  refine pwp_skip (seq_norm (hK15 _ ?_)); clear hK15 K15
  refine pwp_block (pwp_seq_plain rfl fun K17 hK17 => p_mS rfl (p_e rfl (e_mul rfl rfl (by omega)) (p_e rfl (e_add rfl rfl (by omega)) (p_aS rfl (p_end (hK17 _ ?_)))))); clear hK17 K17
  refine pwp_seq_seq (pwp_seq_gops rfl fun K18 hK18 => g_begin (g_mS rfl rfl (g_e rfl (e_add rfl rfl (by omega)) (g_mS rfl rfl (g_e rfl (e_lt rfl rfl) (g_mS rfl rfl ?_))))))
  refine g_cases (fun hb19 => ?_) (fun hb19 => ?_)
  ·have hb19R := hb19; try simp only [zz] at hb19
   refine g_e rfl (e_move (v := .ref _ _ _ _) rfl) (g_mS rfl rfl (g_e rfl (e_add rfl rfl (by omega)) (g_e rfl (e_ixaR0 rfl rfl (by kernel_rfl) (by kernel_rfl) (by omega)) (g_e rfl (e_loadI (a := (at0 q (2 * z + 1 + 1).toNat)) rfl hihj13_0 (by kernel_rfl) (by kernel_rfl) (by kernel_rfl) (at0_get (by omega))) (g_e rfl (e_move (v := .ref _ _ _ _) rfl) (g_mS rfl rfl (g_e rfl (e_ixaR0 rfl rfl (by kernel_rfl) (by kernel_rfl) (by omega)) ?_)))))))
   refine g_e rfl (e_loadI (a := (at0 q (2 * z + 1).toNat)) rfl hihj13_0 (by kernel_rfl) (by kernel_rfl) (by kernel_rfl) (at0_get (by omega))) (g_e rfl (e_lt rfl rfl) (g_pT rfl rfl rfl (g_end (ds := [42, 43, 44, 45, 46, 47, 48, 49, 50, 51]) (by kernel_rfl) rfl (hK18 _ ?_)))); clear hK18 K18
   refine pwp_seq_cond rfl fun K20 hK20 => ⟨fun hb21 => ?_, fun hb21 => ?_⟩
   ·have hb21R := hb21; try simp only [zz] at hb21
    refine pwp_plain rfl fun K22 hK22 => p_mS rfl (p_e rfl (e_add rfl rfl (by omega)) (p_aS rfl (p_end (hK22 _ ?_)))); clear hK22 K22
    refine seq_norm (hK20 _ ?_); clear hK20 K20
    refine pwp_seq_seq (pwp_seq_gops rfl fun K23 hK23 => g_begin (g_e rfl (e_move (v := .ref _ _ _ _) rfl) (g_mS rfl rfl (g_e rfl (e_ixaR0 rfl rfl (by kernel_rfl) (by kernel_rfl) (by omega)) (g_e rfl (e_loadI (a := (at0 q z.toNat)) rfl hihj13_0 (by kernel_rfl) (by kernel_rfl) (by kernel_rfl) (at0_get (by omega))) (g_e rfl (e_move (v := .ref _ _ _ _) rfl) ?_))))))
    refine g_mS rfl rfl (g_e rfl (e_ixaR0 rfl rfl (by kernel_rfl) (by kernel_rfl) (by omega)) (g_e rfl (e_loadI (a := (at0 q (2 * z + 1 + 1).toNat)) rfl hihj13_0 (by kernel_rfl) (by kernel_rfl) (by kernel_rfl) (at0_get (by omega))) (g_e rfl (e_le rfl rfl) (g_end (ds := []) (by kernel_rfl) rfl (hK23 _ ?_))))); clear hK23 K23
    refine pwp_seq_cond rfl fun K24 hK24 => ⟨fun hb25 => ?_, fun hb25 => ?_⟩
    ·have hb25R := hb25; try simp only [zz] at hb25
     refine pwp_exit (exit_seq ?_)
     clear hK24 K24
     refine exit_block (by decide) (exit_loop (exit_here (seq_norm (hK8 _ ?_)))); clear hK8 K8
     refine pwp_seq_plain rfl fun K26 hK26 => p_mS rfl (p_aS rfl (p_end (hK26 _ ?_))); clear hK26 K26
     refine pwp_ret (end1 (v := .sc _) rfl ?_)
     exact PopR.of hbx (by assumption) (by omega) (pop_stop2 hD (by omega) hz.1 (by omega) (by omega) (by omega)) hpm hfx
    have hb25R := hb25; try simp only [zz] at hb25
    refine pwp_skip (seq_norm (hK24 _ ?_)); clear hK24 K24
    refine pwp_seq_gops rfl fun K27 hK27 => s_begin (s_e rfl (e_move (v := .ref _ _ _ _) rfl) (s_e rfl (e_move (v := .sc _) rfl) (s_e rfl (e_move (v := .ref _ _ _ _) rfl) (s_e rfl (e_move (v := .sc _) rfl) (s_e rfl (e_move (v := .ref _ _ _ _) rfl) (s_e rfl (e_move (v := .sc _) rfl) ?_))))))
    refine s_e rfl (e_ixaR0 rfl rfl (by kernel_rfl) (by kernel_rfl) (by omega)) (s_step [12] (by simp) rfl rfl rfl rfl (e_loadI (a := (at0 q (2 * z + 1 + 1).toNat)) rfl hihj13_0 (by kernel_rfl) (by kernel_rfl) (by kernel_rfl) (at0_get (by omega))) trivial (s_e rfl (e_move (v := .ref _ _ _ _) rfl) (s_e rfl (e_move (v := .sc _) rfl) (s_e rfl (e_ixaR0 rfl rfl (by kernel_rfl) (by kernel_rfl) (by omega)) (s_step [12] (by simp) rfl rfl rfl rfl (e_loadI (a := (at0 q z.toNat)) rfl hihj13_0 (by kernel_rfl) (by kernel_rfl) (by kernel_rfl) (at0_get (by omega))) trivial (s_e rfl (e_ixaR0 rfl rfl (by kernel_rfl) (by kernel_rfl) (by omega)) (s_store [12] (by simp) rfl rfl (e_storeI (zs := q) (a := (at0 q (2 * z + 1 + 1).toNat)) rfl hihj13_0 rfl (by (first | omega | (simp only [List.length_set]; omega))) (by kernel_rfl) (by kernel_rfl)) trivial ?_)))))))
    refine s_e rfl (e_ixaR0 rfl rfl (by kernel_rfl) (by kernel_rfl) (by omega)) (s_store [12] (by simp) rfl rfl (e_storeI (zs := ((q).set (z).toNat (at0 q (2 * z + 1 + 1).toNat))) (a := (at0 q z.toNat)) rfl (hset_self _ _ _) rfl (by (first | omega | (simp only [List.length_set]; omega))) (by kernel_rfl) (by kernel_rfl)) trivial (s_end (ds := []) (by kernel_rfl) (by kernel_rfl) (hK27 _ ?_))); clear hK27 K27
    refine pwp_plain rfl fun K28 hK28 => p_mS rfl (p_aS rfl (p_end (hK28 _ ?_))); clear hK28 K28
    refine block_norm ?_
    exact loop_again ((((((2) * z) + (1)) + (1)), swp q z.toNat (((((2) * z) + (1)) + (1))).toNat)) (by show _ < _; simp only; omega) ⟨rfl, rfl, rfl, trivial⟩ ⟨rfl, trivial⟩ (by exact ⟨by (show 0 ≤ _ + _ ∧ _ + _ ≤ _; omega), by first | exact pop_step1 hD (by omega) hz.1 (by omega) (by omega) (by omega) | exact pop_step2 hD (by omega) hz.1 (by omega) (by omega) (by omega), by rw [swp_len]; exact hql, by exact pop_perm hpm (by omega) (by omega) (by omega), by exact (hset_ne (key_ne rfl)).trans ((hset_ne (key_ne rfl)).trans hbx), by exact fun k' q1 q2 => (hset_ne fun e => q2 (by rw [e])).trans ((hset_ne fun e => q2 (by rw [e])).trans (hfx k' q1 q2)), ((hset_self _ _ _).trans (by rfl))⟩)
   have hb21R := hb21; try simp only [zz] at hb21
   refine pwp_skip (seq_norm (hK20 _ ?_)); clear hK20 K20
   refine pwp_seq_seq (pwp_seq_gops rfl fun K29 hK29 => g_begin (g_e rfl (e_move (v := .ref _ _ _ _) rfl) (g_mS rfl rfl (g_e rfl (e_ixaR0 rfl rfl (by kernel_rfl) (by kernel_rfl) (by omega)) (g_e rfl (e_loadI (a := (at0 q z.toNat)) rfl hihj13_0 (by kernel_rfl) (by kernel_rfl) (by kernel_rfl) (at0_get (by omega))) (g_e rfl (e_move (v := .ref _ _ _ _) rfl) ?_))))))
   refine g_mS rfl rfl (g_e rfl (e_ixaR0 rfl rfl (by kernel_rfl) (by kernel_rfl) (by omega)) (g_e rfl (e_loadI (a := (at0 q (2 * z + 1).toNat)) rfl hihj13_0 (by kernel_rfl) (by kernel_rfl) (by kernel_rfl) (at0_get (by omega))) (g_e rfl (e_le rfl rfl) (g_end (ds := []) (by kernel_rfl) rfl (hK29 _ ?_))))); clear hK29 K29
   refine pwp_seq_cond rfl fun K30 hK30 => ⟨fun hb31 => ?_, fun hb31 => ?_⟩
   ·have hb31R := hb31; try simp only [zz] at hb31
    refine pwp_exit (exit_seq ?_)
    clear hK30 K30
    refine exit_block (by decide) (exit_loop (exit_here (seq_norm (hK8 _ ?_)))); clear hK8 K8
    refine pwp_seq_plain rfl fun K32 hK32 => p_mS rfl (p_aS rfl (p_end (hK32 _ ?_))); clear hK32 K32
    refine pwp_ret (end1 (v := .sc _) rfl ?_)
    exact PopR.of hbx (by assumption) (by omega) (pop_stop1 hD (by omega) hz.1 (by omega) (by omega) (by omega)) hpm hfx
   have hb31R := hb31; try simp only [zz] at hb31
   refine pwp_skip (seq_norm (hK30 _ ?_)); clear hK30 K30
   refine pwp_seq_gops rfl fun K33 hK33 => s_begin (s_e rfl (e_move (v := .ref _ _ _ _) rfl) (s_e rfl (e_move (v := .sc _) rfl) (s_e rfl (e_move (v := .ref _ _ _ _) rfl) (s_e rfl (e_move (v := .sc _) rfl) (s_e rfl (e_move (v := .ref _ _ _ _) rfl) (s_e rfl (e_move (v := .sc _) rfl) ?_))))))
   refine s_e rfl (e_ixaR0 rfl rfl (by kernel_rfl) (by kernel_rfl) (by omega)) (s_step [12] (by simp) rfl rfl rfl rfl (e_loadI (a := (at0 q (2 * z + 1).toNat)) rfl hihj13_0 (by kernel_rfl) (by kernel_rfl) (by kernel_rfl) (at0_get (by omega))) trivial (s_e rfl (e_move (v := .ref _ _ _ _) rfl) (s_e rfl (e_move (v := .sc _) rfl) (s_e rfl (e_ixaR0 rfl rfl (by kernel_rfl) (by kernel_rfl) (by omega)) (s_step [12] (by simp) rfl rfl rfl rfl (e_loadI (a := (at0 q z.toNat)) rfl hihj13_0 (by kernel_rfl) (by kernel_rfl) (by kernel_rfl) (at0_get (by omega))) trivial (s_e rfl (e_ixaR0 rfl rfl (by kernel_rfl) (by kernel_rfl) (by omega)) (s_store [12] (by simp) rfl rfl (e_storeI (zs := q) (a := (at0 q (2 * z + 1).toNat)) rfl hihj13_0 rfl (by (first | omega | (simp only [List.length_set]; omega))) (by kernel_rfl) (by kernel_rfl)) trivial ?_)))))))
   refine s_e rfl (e_ixaR0 rfl rfl (by kernel_rfl) (by kernel_rfl) (by omega)) (s_store [12] (by simp) rfl rfl (e_storeI (zs := ((q).set (z).toNat (at0 q (2 * z + 1).toNat))) (a := (at0 q z.toNat)) rfl (hset_self _ _ _) rfl (by (first | omega | (simp only [List.length_set]; omega))) (by kernel_rfl) (by kernel_rfl)) trivial (s_end (ds := []) (by kernel_rfl) (by kernel_rfl) (hK33 _ ?_))); clear hK33 K33
   refine pwp_plain rfl fun K34 hK34 => p_mS rfl (p_aS rfl (p_end (hK34 _ ?_))); clear hK34 K34
   refine block_norm ?_
   exact loop_again (((((2) * z) + (1)), swp q z.toNat ((((2) * z) + (1))).toNat)) (by show _ < _; simp only; omega) ⟨rfl, rfl, rfl, trivial⟩ ⟨rfl, trivial⟩ (by exact ⟨by (show 0 ≤ _ + _ ∧ _ + _ ≤ _; omega), by first | exact pop_step1 hD (by omega) hz.1 (by omega) (by omega) (by omega) | exact pop_step2 hD (by omega) hz.1 (by omega) (by omega) (by omega), by rw [swp_len]; exact hql, by exact pop_perm hpm (by omega) (by omega) (by omega), by exact (hset_ne (key_ne rfl)).trans ((hset_ne (key_ne rfl)).trans hbx), by exact fun k' q1 q2 => (hset_ne fun e => q2 (by rw [e])).trans ((hset_ne fun e => q2 (by rw [e])).trans (hfx k' q1 q2)), ((hset_self _ _ _).trans (by rfl))⟩)
  have hb19R := hb19; try simp only [zz] at hb19
  iterate 10 refine g_skip rfl rfl rfl ?_
  refine g_pF rfl rfl rfl (g_end (ds := [42, 43, 44, 45, 46, 47, 48, 49, 50, 51]) (by kernel_rfl) rfl (hK18 _ ?_)); clear hK18 K18
  refine pwp_seq_cond (t := false) rfl fun K35 hK35 => ⟨nofun, fun _ => ?_⟩
  refine pwp_skip (seq_norm (hK35 _ ?_)); clear hK35 K35
  refine pwp_seq_seq (pwp_seq_gops rfl fun K36 hK36 => g_begin (g_e rfl (e_move (v := .ref _ _ _ _) rfl) (g_mS rfl rfl (g_e rfl (e_ixaR0 rfl rfl (by kernel_rfl) (by kernel_rfl) (by omega)) (g_e rfl (e_loadI (a := (at0 q z.toNat)) rfl hihj13_0 (by kernel_rfl) (by kernel_rfl) (by kernel_rfl) (at0_get (by omega))) (g_e rfl (e_move (v := .ref _ _ _ _) rfl) ?_))))))
  refine g_mS rfl rfl (g_e rfl (e_ixaR0 rfl rfl (by kernel_rfl) (by kernel_rfl) (by omega)) (g_e rfl (e_loadI (a := (at0 q (2 * z + 1).toNat)) rfl hihj13_0 (by kernel_rfl) (by kernel_rfl) (by kernel_rfl) (at0_get (by omega))) (g_e rfl (e_le rfl rfl) (g_end (ds := []) (by kernel_rfl) rfl (hK36 _ ?_))))); clear hK36 K36
  refine pwp_seq_cond rfl fun K37 hK37 => ⟨fun hb38 => ?_, fun hb38 => ?_⟩
  ·have hb38R := hb38; try simp only [zz] at hb38
   refine pwp_exit (exit_seq ?_)
   clear hK37 K37
   refine exit_block (by decide) (exit_loop (exit_here (seq_norm (hK8 _ ?_)))); clear hK8 K8
   refine pwp_seq_plain rfl fun K39 hK39 => p_mS rfl (p_aS rfl (p_end (hK39 _ ?_))); clear hK39 K39
   refine pwp_ret (end1 (v := .sc _) rfl ?_)
   exact PopR.of hbx (by assumption) (by omega) (pop_stop1 hD (by omega) hz.1 (by omega) (by omega) (by omega)) hpm hfx
  have hb38R := hb38; try simp only [zz] at hb38
  refine pwp_skip (seq_norm (hK37 _ ?_)); clear hK37 K37
  refine pwp_seq_gops rfl fun K40 hK40 => s_begin (s_e rfl (e_move (v := .ref _ _ _ _) rfl) (s_e rfl (e_move (v := .sc _) rfl) (s_e rfl (e_move (v := .ref _ _ _ _) rfl) (s_e rfl (e_move (v := .sc _) rfl) (s_e rfl (e_move (v := .ref _ _ _ _) rfl) (s_e rfl (e_move (v := .sc _) rfl) ?_))))))
  refine s_e rfl (e_ixaR0 rfl rfl (by kernel_rfl) (by kernel_rfl) (by omega)) (s_step [12] (by simp) rfl rfl rfl rfl (e_loadI (a := (at0 q (2 * z + 1).toNat)) rfl hihj13_0 (by kernel_rfl) (by kernel_rfl) (by kernel_rfl) (at0_get (by omega))) trivial (s_e rfl (e_move (v := .ref _ _ _ _) rfl) (s_e rfl (e_move (v := .sc _) rfl) (s_e rfl (e_ixaR0 rfl rfl (by kernel_rfl) (by kernel_rfl) (by omega)) (s_step [12] (by simp) rfl rfl rfl rfl (e_loadI (a := (at0 q z.toNat)) rfl hihj13_0 (by kernel_rfl) (by kernel_rfl) (by kernel_rfl) (at0_get (by omega))) trivial (s_e rfl (e_ixaR0 rfl rfl (by kernel_rfl) (by kernel_rfl) (by omega)) (s_store [12] (by simp) rfl rfl (e_storeI (zs := q) (a := (at0 q (2 * z + 1).toNat)) rfl hihj13_0 rfl (by (first | omega | (simp only [List.length_set]; omega))) (by kernel_rfl) (by kernel_rfl)) trivial ?_)))))))
  refine s_e rfl (e_ixaR0 rfl rfl (by kernel_rfl) (by kernel_rfl) (by omega)) (s_store [12] (by simp) rfl rfl (e_storeI (zs := ((q).set (z).toNat (at0 q (2 * z + 1).toNat))) (a := (at0 q z.toNat)) rfl (hset_self _ _ _) rfl (by (first | omega | (simp only [List.length_set]; omega))) (by kernel_rfl) (by kernel_rfl)) trivial (s_end (ds := []) (by kernel_rfl) (by kernel_rfl) (hK40 _ ?_))); clear hK40 K40
  refine pwp_plain rfl fun K41 hK41 => p_mS rfl (p_aS rfl (p_end (hK41 _ ?_))); clear hK41 K41
  refine block_norm ?_
  exact loop_again (((((2) * z) + (1)), swp q z.toNat ((((2) * z) + (1))).toNat)) (by show _ < _; simp only; omega) ⟨rfl, rfl, rfl, trivial⟩ ⟨rfl, trivial⟩ (by exact ⟨by (show 0 ≤ _ + _ ∧ _ + _ ≤ _; omega), by first | exact pop_step1 hD (by omega) hz.1 (by omega) (by omega) (by omega) | exact pop_step2 hD (by omega) hz.1 (by omega) (by omega) (by omega), by rw [swp_len]; exact hql, by exact pop_perm hpm (by omega) (by omega) (by omega), by exact (hset_ne (key_ne rfl)).trans ((hset_ne (key_ne rfl)).trans hbx), by exact fun k' q1 q2 => (hset_ne fun e => q2 (by rw [e])).trans ((hset_ne fun e => q2 (by rw [e])).trans (hfx k' q1 q2)), ((hset_self _ _ _).trans (by rfl))⟩)
 have hb16R := hb16; try simp only [zz] at hb16
 refine pwp_exit (exit_seq ?_)
 clear hK15 K15
 refine exit_loop (exit_here (seq_norm (hK8 _ ?_))); clear hK8 K8
 refine pwp_seq_plain rfl fun K42 hK42 => p_mS rfl (p_aS rfl (p_end (hK42 _ ?_))); clear hK42 K42
 refine pwp_ret (end1 (v := .sc _) rfl ?_)
 exact PopR.of hbx (by assumption) (by omega) (pop_stop0 hD hz.1 (by omega)) hpm hfx

end Go.Proofs.Ytjmjiegplnfiiaa

/- For each task those that need it. No conditions. -/
set_option linter.unusedSimpArgs false
set_option linter.unusedVariables false
set_option maxRecDepth 100000
namespace Go.Proofs.Ytjmjiegplnfiiaa
open Go Go.Pv
theorem pwp_plainK {P : Program} {Q : Exit → PS → Prop} {s : PS} {id : Nat} {ops : Array Oper} (hg : noGuards ops = true) (h : Known s → ∀ K : PS → Prop, (∀ s', Q .normal s' → K s') → pOps P K ops.toList s) : pwp P (.region id ops false) Q s := by
 show pRegion P ops false (Q .normal) s
 unfold pRegion
 intro hk
 rw [hg]
 exact h hk _ fun _ h => h
section
variable {P : Program} {d : Nat} {t : TypeId} {h : Heap} {key : Key} {ρ : Operand → PV} {x y : Operand}
theorem e_mkV {l c : Operand} {L : Int} {n : Nat} (hx : ρ l = .int L) (hy : ρ c = .int L) (hn : L = (n : Int)) (hz : zeroCellsOf P (elemTy P t) = some [.nil]) (ho : sliceOk P t = true) (hs : tySize P (elemTy P t) = 1) (hb : P.bytesOf (elemTy P t) < 2 ^ 15) (hl : n < 2 ^ 32) :
   eff P ρ h key (.makeSlice t l c) = ⟨True, .ref key 1 0 n, [(key, some (.rows 1 ((List.replicate n PV.nil).map cv)))], [], true⟩ := by
 subst hn
 have h1 : (List.replicate n PV.nil).map cv = List.replicate n [PV.nil] := by simp [cv]
 simp only [eff, hx, hy, makeSliceEff, hz, ho, hs, hb, h1]
 simp [PV.cell]; omega
theorem e_loadV {k : Key} {zs : List PV} {i : Nat} {v : PV} (hx : ρ x = .ptr k 1 i 0) (hk : h k = some (.rows 1 (zs.map cv))) (hg : tyAgg P t = false) (hs : tySize P t = 1) (ht : tyOk P t = true) (ha : zs[i]? = some v) :
   eff P ρ h key (.load t x) = ⟨True, v, [], [k], false⟩ := by
 have hi : i < zs.length := (List.getElem?_eq_some_iff.1 ha).1
 exact e_loadH hx hk hg hs ht (by simpa using hi) (by omega) ((cell_map ha _).trans rfl)
theorem e_storeV {k : Key} {zs : List PV} {i : Nat} {v : PV} (hx : ρ x = .ptr k 1 i 0) (hk : h k = some (.rows 1 (zs.map cv))) (hy : ρ y = v) (hp : pcells v = [v]) (hc : v.cell = true) (hi : i < zs.length) (hs : tySize P t = 1) (ht : tyOk P t = true) :
   eff P ρ h key (.store t x y) = ⟨True, .dead, [(k, some (.rows 1 ((zs.set i v).map cv)))], [k], false⟩ := by
 have h1 : setRow (zs.map cv) i 0 [v] = (zs.set i v).map cv := by
   unfold setRow setAt
   rw [List.map_set]
   congr 1
   simp [List.getD_eq_getElem?_getD, hi, cv]
 simp only [eff, storeEff, hx, hk, hy, hp, hs, ht, h1]
 simp [hi, hc]
end
theorem Fresh.keep {h h' : Heap} {c c' : Nat → Nat} {d : Nat} (hf : Fresh h c d) (hk : ∀ g, h' (d, g) = h (d, g)) (hc : c' d = c d) : Fresh h' c' d := fun g o h1 => by rw [hc]; exact hf g o ((hk g).symm.trans h1)
/-- Lists of lists of integers, read: as they are handed back. -/
def clf (l : List Int) : List PV := [.lit false 1 (l.map ci)]
theorem clf_pure (l : List Int) : ∀ p ∈ clf l, Pure p := fun p hp => by
 simp [clf] at hp; subst hp; exact .lit _ _ _ fun row hr => pure_map ci_pure row hr
theorem out_np {h : Heap} {d e g n : Nat} {vs : List PV} {ls : List (List Int)} (hn : NP h d 1 ci vs ls) (hk : h (e, g) = some (.rows 1 (vs.map cv))) (hl : ls.length = n) : Out h (.ref (e, g) 1 0 n) (.lit false 1 (ls.map clf)) := by
 refine .ref hk (by rw [List.length_map, hn.len]; omega) (by rw [List.length_map, hl]) (fun row hr => by obtain ⟨l, _, rfl⟩ := List.mem_map.1 hr; rfl) (fun i j row row' p p' h1 h2 h3 h4 => ?_) fun row hr p hp => by obtain ⟨l, _, rfl⟩ := List.mem_map.1 hr; simp [clf] at hp; subst hp; rfl
 rw [Nat.zero_add, List.getElem?_map] at h1
 rw [List.getElem?_map] at h2
 cases hv : vs[i]? with
 | none => rw [hv] at h1; cases h1
 | some v =>
   cases hli : ls[i]? with
   | none => rw [hli] at h2; cases h2
   | some l =>
     rw [hv] at h1; rw [hli] at h2
     cases h1; cases h2
     cases j with
     | succ j => simp [cv] at h3
     | zero =>
       cases h3; cases h4
       exact out_slice (hn.at_ i _ l hv hli) rfl (fun _ => rfl) fun a p hp => by simp [ci] at hp; subst hp; exact ⟨.sc _, rfl⟩

/-! ### Users, as they come -/
def usP (nd : List (List Int)) (k x : Nat) : List Int := ((List.range k).filter fun i => decide ((x : Int) ∈ nd_ nd i)).map fun i : Nat => (i : Int)
def usQ (nd : List (List Int)) (k j x : Nat) : List Int := usP nd k x ++ if (x : Int) ∈ (nd_ nd k).take j then [(k : Int)] else []
def usT (nd : List (List Int)) (k j : Nat) : List (List Int) := (List.range nd.length).map (usQ nd k j)
/-- For each task those that need it. -/
def usL (nd : List (List Int)) : List (List Int) := (List.range nd.length).map fun x : Nat => usR nd (x : Int)
theorem usT_len {nd : List (List Int)} {k j : Nat} : (usT nd k j).length = nd.length := by simp [usT]
theorem usT_get {nd : List (List Int)} {k j x : Nat} (h : x < nd.length) : (usT nd k j)[x]? = some (usQ nd k j x) := by
 simp [usT, List.getElem?_range, h]
theorem usT_0 {nd : List (List Int)} : usT nd 0 0 = List.replicate nd.length [] := by
 rw [usT, List.map_congr_left (g := fun _ => ([] : List Int)) (fun x _ => by simp [usQ, usP]), List.map_const', List.length_range]
theorem usP_succ {nd : List (List Int)} {k x : Nat} : usP nd (k + 1) x = usP nd k x ++ if (x : Int) ∈ nd_ nd k then [(k : Int)] else [] := by
 simp only [usP, List.range_succ, List.filter_append, List.map_append]
 congr 1
 by_cases h : (x : Int) ∈ nd_ nd k
 · rw [if_pos h, List.filter_cons_of_pos (by simp only [h, decide_true])]; rfl
 · rw [if_neg h, List.filter_cons_of_neg (by simp only [h, decide_false, Bool.false_eq_true, not_false_eq_true])]; rfl
theorem usT_end {nd : List (List Int)} {k j : Nat} (hj : (nd_ nd k).length ≤ j) : usT nd k j = usT nd (k + 1) 0 := by
 simp only [usT]
 refine List.map_congr_left fun x _ => ?_
 simp only [usQ, usP_succ, List.take_of_length_le hj, List.take_zero, List.not_mem_nil, if_false, List.append_nil]
theorem usT_all {nd : List (List Int)} {k : Nat} (hk : k = nd.length) : usT nd k 0 = usL nd := by
 subst hk
 simp only [usT, usL]
 refine List.map_congr_left fun x _ => ?_
 simp only [usQ, usP, usR, List.take_zero, List.not_mem_nil, if_false, List.append_nil]
theorem usT_step {nd : List (List Int)} {k j x : Nat} (hn : (nd_ nd k).Nodup) (hj : j < (nd_ nd k).length) (hx : at0 (nd_ nd k) j = (x : Int)) (hxl : x < nd.length) : (usT nd k j).set x (usQ nd k j x ++ [(k : Int)]) = usT nd k (j + 1) := by
 apply List.ext_getElem (by simp [usT])
 intro y h1 h2
 rw [List.getElem_set]
 simp only [usT, List.getElem_map, List.getElem_range]
 have hnt : at0 (nd_ nd k) j ∉ (nd_ nd k).take j := fun hq => by
   obtain ⟨i, hi, e⟩ := List.getElem_of_mem hq
   rw [List.length_take] at hi
   rw [List.getElem_take, ← at0_elem hj] at e
   have := (List.getElem_inj hn).1 e
   omega
 by_cases e : x = y
 · subst e
   rw [if_pos rfl]
   simp only [usQ]
   rw [if_neg (by rw [← hx]; exact hnt), if_pos ((take_mem_succ hj).2 (.inr hx.symm)), List.append_nil]
 · rw [if_neg e]
   simp only [usQ]
   have : (y : Int) ∈ (nd_ nd k).take (j + 1) ↔ (y : Int) ∈ (nd_ nd k).take j := by
     rw [take_mem_succ hj, hx]
     exact ⟨fun h => h.resolve_right (fun q => e (by omega)), .inl⟩
   simp only [this]
abbrev ndX (xs : List Task) : List (List Int) := xs.map Task.needs
theorem ndX_len {xs : List Task} : (ndX xs).length = xs.length := List.length_map _
theorem ndX_at {xs : List Task} {k : Nat} {x : Task} (h : xs[k]? = some x) : nd_ (ndX xs) k = x.needs := by
 simp [nd_, ndX, List.getD_eq_getElem?_getD, List.getElem?_map, h]
theorem usQ_len {nd : List (List Int)} {k j x : Nat} : (usQ nd k j x).length ≤ k + 1 := by
 have h1 := List.length_filter_le (fun i => decide ((x : Int) ∈ nd_ nd i)) (List.range k)
 simp only [usQ, usP, List.length_append, List.length_map]
 rw [List.length_range] at h1
 split <;> simp only [List.length_nil, List.length_cons] <;> omega

theorem fr73 : (inFrame Try.f73.ntmps (Try.f73.body.getD .skip) && Try.f73.results.toList.all (resScope Try.f73.ntmps)) = true := by kernel_rfl
theorem usersC (xs : List Task) (hl : xs.length ≤ 10000) (hnl : ∀ x ∈ xs, x.needs.length ≤ 1000) (hok : NdOK (ndX xs)) : PCalls Try.prog 73 [.lit true 6 (xs.map Task.enc)] (.lit false 1 ((usL (ndX xs)).map clf)) := by
 refine PCalls.of_code Try.func73 rfl rfl (by kernel_rfl) mixed fr73 (by show _ ≤ 38; simp) (.lit _ _ _ fun row hr => pure_map clf_pure row hr) ?_
 have hndl := ndX_len (xs := xs)
 refine pwp_seq_plain rfl fun K1 hK1 => p_e rfl (e_assign (v := .nil) rfl) (p_end (hK1 _ ?_)); clear hK1 K1
 refine pwp_seq_plain rfl fun K2 hK2 => p_e rfl (e_move (v := .lit _ _ _) rfl) (p_e rfl (e_len rfl (by kernel_rfl)) (p_new rfl (e_mkV (n := xs.length) rfl rfl (by rw [List.length_map]) (by kernel_rfl) (by kernel_rfl) (by kernel_rfl) (by decide +kernel) (by omega)) trivial (p_e rfl (e_assign (v := .ref _ _ _ _) rfl) (p_end (hK2 _ ?_))))); clear hK2 K2
 refine pwp_seq_seq (pwp_seq_plain rfl fun K3 hK3 => p_e rfl (e_move (v := .lit _ _ _) rfl) (p_e rfl (e_len rfl (by kernel_rfl)) (p_mS rfl (p_end (hK3 _ ?_))))); clear hK3 K3
 refine pwp_seq_block fun K4 hK4 => pwp_loopR (α := Nat × (List PV)) [3, 11, 12] (fun (a5 : Nat × (List PV)) => [(13, .int (a5.1))]) (fun (a5 : Nat × (List PV)) (h : Heap) (_ : Nat → Nat) => ((a5.1) ≤ xs.length) ∧ (NP h 33 1 ci (a5.2) (usT (ndX xs) (a5.1) 0)) ∧ (h (10, 0) = some (.rows 1 ((a5.2).map cv)))) (fun (a5 : Nat × (List PV)) => xs.length - (a5.1)) (0, List.replicate xs.length .nil) (by exact ⟨rfl, trivial⟩) (by exact ⟨by exact Nat.zero_le _, by rw [usT_0, ndX_len]; exact NP.nils _, (hset_self _ _ _)⟩) fun a5 r6 h7 c8 hj9 => ?_
 obtain ⟨k, vs⟩ := a5
 obtain ⟨hk, hnp, hihj9_0⟩ := hj9
 try dsimp only at hk
 try dsimp only at hnp
 try dsimp only at hihj9_0
 show pwp _ _ (loopQ _ _ _) ⟨sets (mix _ _ _) [(13, .int k)], _, _⟩
 refine pwp_seq_plain rfl fun K10 hK10 => p_e rfl (e_lt rfl rfl) (p_end (hK10 _ ?_)); clear hK10 K10
 refine pwp_seq_cond rfl fun K11 hK11 => ⟨fun hb12 => ?_, fun hb12 => ?_⟩
 ·have hb12R := hb12; try simp only [zz] at hb12
  obtain ⟨x, hx, hd, ht⟩ := get_lt (xs := xs) (i := k) (by omega)
  have hxn := hnl x (List.mem_of_getElem? hx)
  refine pwp_skip (seq_norm (hK11 _ ?_)); clear hK11 K11
  refine pwp_seq_block fun K13 hK13 => pwp_seq_plain rfl fun K14 hK14 => p_mS rfl (p_e rfl (e_ixL rfl rfl) (p_e rfl (e_loadA (n := 6) rfl (by kernel_rfl) (by kernel_rfl) (by kernel_rfl) (by first | omega | (simp only [List.length_map]; omega)) (by decide) (by first | exact agg_map hx rfl)) (p_new rfl (e_alloc (cs := [.str ByteArray.empty, .str ByteArray.empty, .int 0, .int 0, .int 0, .nil]) (n := 6) (by kernel_rfl) rfl (by decide)) (ob_alloc (by decide)) (p_aS rfl (p_store rfl (e_storeA rfl (hset_self _ _ _) rfl rfl rfl (by kernel_rfl) rfl (by kernel_rfl)) trivial ?_)))))
  refine p_end (hK14 _ ?_); clear hK14 K14
  refine pwp_seq_plain rfl fun K15 hK15 => p_e rfl (e_faQ pl6 rfl) (p_e rfl (e_lH (v := .lit _ _ _) rfl (hset_self _ _ _) rfl) (p_e rfl (e_len rfl (by kernel_rfl)) (p_mS rfl (p_end (hK15 _ ?_))))); clear hK15 K15
  refine pwp_block (pwp_loopR (α := Nat × (List PV)) [3, 4, 11, 12, 13, 19, 20] (fun (a16 : Nat × (List PV)) => [(21, .int (a16.1))]) (fun (a16 : Nat × (List PV)) (h : Heap) (_ : Nat → Nat) => ((a16.1) ≤ x.needs.length) ∧ (NP h 33 1 ci (a16.2) (usT (ndX xs) k (a16.1))) ∧ (h (10, 0) = some (.rows 1 ((a16.2).map cv)))) (fun (a16 : Nat × (List PV)) => x.needs.length - (a16.1)) (0, vs) (by exact ⟨rfl, trivial⟩) (by exact ⟨by exact Nat.zero_le _, by exact hnp.keep fun g => (hset_ne (key_ne rfl)).trans (hset_ne (key_ne rfl)), ((hset_ne (key_ne rfl)).trans ((hset_ne (key_ne rfl)).trans hihj9_0))⟩) fun a16 r17 h18 c19 hj20 => ?_)
  obtain ⟨j, vs⟩ := a16
  obtain ⟨hj, hnp, hihj20_0⟩ := hj20
  try dsimp only at hj
  try dsimp only at hnp
  try dsimp only at hihj20_0
  show pwp _ _ (loopQ _ _ _) ⟨sets (mix _ _ _) [(21, .int j)], _, _⟩
  refine pwp_seq_plain rfl fun K21 hK21 => p_e rfl (e_lt rfl rfl) (p_end (hK21 _ ?_)); clear hK21 K21
  refine pwp_seq_cond rfl fun K22 hK22 => ⟨fun hb23 => ?_, fun hb23 => ?_⟩
  ·have hb23R := hb23; try simp only [zz] at hb23
   refine pwp_skip (seq_norm (hK22 _ ?_)); clear hK22 K22
   refine pwp_seq_block fun K24 hK24 => pwp_seq_plain rfl fun K25 hK25 => p_e rfl (e_ixL rfl rfl) (p_e rfl (e_load (v := .sc _) rfl (by kernel_rfl) (by kernel_rfl) (by kernel_rfl) (by first | omega | (simp only [List.length_map]; omega)) (by decide) ((cell_map (at0_get (l := x.needs) (i := j) (by omega)) _).trans rfl)) (p_aS rfl (p_end (hK25 _ ?_)))); clear hK25 K25
   have hzr := hok.rng k; rw [ndX_at hx] at hzr
   obtain ⟨hz0, hzl⟩ := hzr _ (at0_mem (l := x.needs) (i := j) (by omega))
   obtain ⟨z, hz⟩ : ∃ z : Nat, at0 x.needs j = (z : Int) := ⟨(at0 x.needs j).toNat, by omega⟩
   have hzl2 : z < (ndX xs).length := by omega
   obtain ⟨u, hu⟩ : ∃ u, vs[z]? = some u := ⟨vs[z]'(by rw [hnp.len, usT_len]; exact hzl2), List.getElem?_eq_getElem _⟩
   rw [hz]
   refine pwp_plainK rfl fun hkn K26 hK26 => ?_
   have hfs := hkn.fresh 33
   refine p_e rfl (e_move (v := .ref _ _ _ _) rfl) (p_mS rfl (p_e rfl (e_move (v := .ref _ _ _ _) rfl) (p_mS rfl (p_e rfl (e_ixaR0 rfl rfl (by kernel_rfl) (by kernel_rfl) (by omega)) (p_e rfl (e_loadV (v := u) rfl hihj20_0 (by kernel_rfl) (by kernel_rfl) (by kernel_rfl) hu) (p_mS rfl (p_new rfl (e_bslice (rows := [ci (k : Int)]) (zs := [.int 0]) (sz := 1) (by kernel_rfl) (by kernel_rfl) rfl (by kernel_rfl) (by decide) rfl rfl (by exact ⟨by decide, rfl, rfl, trivial⟩) rfl) trivial ?_)))))))
   have hul := hnp.get hu (usT_get hzl2)
   refine p_appK (u := u) (sz := 1) (d1 := 33) (rows := (usQ (ndX xs) k j z).map ci) (rows2 := [ci (k : Int)]) rfl rfl rfl (hul.keep fun g => hset_ne (key_ne rfl)) (src_ref (hset_self _ _ _) rfl) (by kernel_rfl) (by have := usQ_len (nd := ndX xs) (k := k) (j := j) (x := z); simp only [List.length_map, List.length_cons, List.length_nil]; omega) (by simp) fun h1 hr1 hf1 => ?_
   have ho1 := (hf1 (10, 0) (key_ne rfl) (fun _ _ => key_ne rfl)).trans ((hset_ne (key_ne rfl)).trans hihj20_0)
   refine p_e rfl (e_ixaR0 rfl rfl (by kernel_rfl) (by kernel_rfl) (by omega)) (p_store rfl (e_storeV rfl ho1 rfl rfl rfl (by rw [hnp.len, usT_len]; exact hzl2) (by kernel_rfl) (by kernel_rfl)) trivial ?_)
   have hnp2 := ((hnp.keep (fun g => hset_ne (key_ne rfl))).app (Fresh.keep (d := 33) hfs (fun g => hset_ne (key_ne rfl)) rfl) (l' := usQ (ndX xs) k j z ++ [(k : Int)]) (v' := .ref (33, _) 1 0 (((usQ (ndX xs) k j z).map ci).length + [ci (k : Int)].length)) hu (usT_get hzl2) (congrArg (PV.ref _ 1 0) (by simp only [List.length_map, List.length_append, List.length_cons, List.length_nil])) (hr1.trans (by rw [List.map_append]; rfl)) (fun k' q1 q2 => hf1 k' q1 (fun g e => q2 g (by rw [e, List.length_map]))))
   rw [usT_step (hok.nodup k) (by rw [ndX_at hx]; omega) (by rw [ndX_at hx]; exact hz) hzl2] at hnp2
   refine p_end (hK26 _ ?_); clear hK26 K26
   refine block_norm (seq_norm (hK24 _ ?_)); clear hK24 K24
   refine pwp_plain rfl fun K27 hK27 => p_e rfl (e_add rfl rfl (by omega)) (p_mS rfl (p_end (hK27 _ ?_))); clear hK27 K27
   exact loop_again ((j + 1, _)) (by show _ < _; simp only; omega) ⟨rfl, rfl, rfl, rfl, rfl, rfl, rfl, trivial⟩ ⟨rfl, trivial⟩ (by exact ⟨by show _ + 1 ≤ _; omega, by (show NP _ 33 1 ci _ _; refine hnp2.keep ?_; intro g; exact hset_ne (key_ne rfl)), (hset_self _ _ _)⟩)
  have hb23R := hb23; try simp only [zz] at hb23
  obtain rfl : j = x.needs.length := by omega
  refine pwp_exit (exit_seq ?_)
  clear hK22 K22
  refine exit_loop (exit_here (block_norm (seq_norm (hK13 _ ?_)))); clear hK13 K13
  refine pwp_plain rfl fun K28 hK28 => p_e rfl (e_add rfl rfl (by omega)) (p_mS rfl (p_end (hK28 _ ?_))); clear hK28 K28
  exact loop_again ((k + 1, vs)) (by show _ < _; simp only; omega) ⟨rfl, rfl, rfl, trivial⟩ ⟨rfl, trivial⟩ (by exact ⟨by show _ + 1 ≤ _; omega, by rw [← usT_end (Nat.le_of_eq (congrArg List.length (ndX_at hx)))]; exact hnp, hihj20_0⟩)
 have hb12R := hb12; try simp only [zz] at hb12
 obtain rfl : k = xs.length := by omega
 refine pwp_exit (exit_seq ?_)
 clear hK11 K11
 refine exit_loop (exit_here (seq_norm (hK4 _ ?_))); clear hK4 K4
 refine pwp_seq_plain rfl fun K29 hK29 => p_e rfl (e_move (v := .ref _ _ _ _) rfl) (p_e rfl (e_assign (v := .ref _ _ _ _) rfl) (p_end (hK29 _ ?_))); clear hK29 K29
 refine pwp_ret (end1 (v := .ref _ _ _ _) rfl ?_)
 exact out_np (usT_all (nd := ndX xs) ndX_len.symm ▸ hnp) (by assumption) (by simp [usL])

end Go.Proofs.Ytjmjiegplnfiiaa

/- Order: always the least ready task next. No conditions. -/
set_option linter.unusedSimpArgs false
set_option linter.unusedVariables false
set_option maxRecDepth 100000
namespace Go.Proofs.Ytjmjiegplnfiiaa
open Go Go.Pv
theorem PartAt.len {h : Heap} {d : Nat} {u : PV} {l : List Int} {P : Program} {ρ : Operand → PV} {key : Key} {x : Operand} {t2 : TypeId} (hs : PartAt h d u l) (hx : ρ x = u) (ht : sliceOk P t2 = true) : eff P ρ h key (.call { callee := .builtin .len, args := #[x], argTypes := #[t2] }) = ⟨True, .int l.length, [], [], false⟩ := by
 rcases hs with ⟨rfl, rfl⟩ | ⟨g, t, rfl, hg⟩
 · exact e_lenN hx ht
 · exact e_lenR hx ht
theorem set_get7 {l : List Int} {i : Nat} {v : Int} (h : i < l.length) : (l.set i v)[i]? = some v := by
 rw [List.getElem?_set_self h]
theorem nd_len {xs : List Task} {b : Nat} (h : ∀ x ∈ xs, x.needs.length ≤ b) (i : Nat) : (nd_ (ndX xs) i).length ≤ b := by
 simp only [nd_, ndX, List.getD_eq_getElem?_getD, List.getElem?_map]
 cases hx : xs[i]? with
 | none => simp
 | some x => exact h x (List.mem_of_getElem? hx)
theorem usL_get {nd : List (List Int)} {x : Nat} (h : x < nd.length) : (usL nd)[x]? = some (usR nd (x : Int)) := by
 simp [usL, List.getElem?_range, h]
/-- What 'sorted' hands back. -/
def srtR (nd : List (List Int)) : List Int × Int := if (ordR nd).length < nd.length then ([], 24) else (ordR nd, 0)
theorem srt_1 {nd : List (List Int)} (h : (ordR nd).length < nd.length) : srtR nd = ([], 24) := if_pos h
theorem srt_2 {nd : List (List Int)} (h : ¬ (ordR nd).length < nd.length) : srtR nd = (ordR nd, 0) := if_neg h
theorem ord_len {nd : List (List Int)} {D : List Int} (h : OrdAt nd D) : D.length ≤ nd.length := by have := h.len; omega
theorem srt_out0 {h : Heap} {nd : List (List Int)} (hs : (ordR nd).length < nd.length) : Out h (.tup [.nil, .int 24]) (.tup [.lit false 1 ((srtR nd).1.map ci), .int (srtR nd).2]) := by
 rw [srt_1 hs]; exact out_2 (.nil 1) (out_i rfl)
theorem srt_out {h : Heap} {nd : List (List Int)} {d : Nat} {v : PV} {rows : Pv.Rows} (hs : ¬ (ordR nd).length < nd.length) (hv : SliceAt h d v 1 rows) (he : rows = (ordR nd).map ci) : Out h (.tup [v, .int 0]) (.tup [.lit false 1 ((srtR nd).1.map ci), .int (srtR nd).2]) := by
 rw [srt_2 hs]
 exact out_2 (out_slice hv he (fun _ => rfl) fun a p hp => by simp [ci] at hp; subst hp; exact ⟨.sc _, rfl⟩) (out_i rfl)

theorem fr71 : (inFrame Try.f71.ntmps (Try.f71.body.getD .skip) && Try.f71.results.toList.all (resScope Try.f71.ntmps)) = true := by kernel_rfl
theorem sortedC (xs : List Task) (hl : xs.length ≤ 10000) (hnl : ∀ x ∈ xs, x.needs.length ≤ 1000) (hok : NdOK (ndX xs)) : PCalls Try.prog 71 [.lit true 6 (xs.map Task.enc)] (.tup [.lit false 1 ((srtR (ndX xs)).1.map ci), .int (srtR (ndX xs)).2]) := by
 refine PCalls.of_code Try.func71 rfl rfl (by kernel_rfl) mixed fr71 (by show _ ≤ 76; simp) (pure_2 (.lit _ _ _ fun row hr => pure_map ci_pure row hr) (.sc _)) ?_
 have hndl := ndX_len (xs := xs)
 refine pwp_seq_plain rfl fun K1 hK1 => p_e rfl (e_assign (v := .nil) rfl) (p_aS rfl (p_end (hK1 _ ?_))); clear hK1 K1
 refine pwp_seq_plain rfl fun K2 hK2 => p_new rfl (e_alloc (cs := [.nil]) (n := 1) (by kernel_rfl) rfl (by decide)) (ob_alloc (by decide)) (p_end (hK2 _ ?_)); clear hK2 K2
 refine pwp_seq_plain rfl fun K3 hK3 => p_e rfl (e_move (v := .lit _ _ _) rfl) (p_e rfl (e_len rfl (by kernel_rfl)) (p_new rfl (e_mkI (n := xs.length) rfl rfl (by rw [List.length_map]) (by kernel_rfl) (by kernel_rfl) (by kernel_rfl) (by decide +kernel) (by omega)) trivial (p_e rfl (e_assign (v := .ref _ _ _ _) rfl) (p_end (hK3 _ ?_))))); clear hK3 K3
 refine pwp_seq_seq (pwp_seq_plain rfl fun K4 hK4 => p_e rfl (e_move (v := .lit _ _ _) rfl) (p_e rfl (e_len rfl (by kernel_rfl)) (p_mS rfl (p_end (hK4 _ ?_))))); clear hK4 K4
 refine pwp_seq_block fun K5 hK5 => pwp_loopR (α := Nat × (List Int) × (List Int) × PV) [0, 4, 5, 16, 17] (fun (a6 : Nat × (List Int) × (List Int) × PV) => [(18, .int (a6.1))]) (fun (a6 : Nat × (List Int) × (List Int) × PV) (h : Heap) (_ : Nat → Nat) => ((a6.1) ≤ xs.length) ∧ (K0 (ndX xs) (a6.1) (a6.2.1) (a6.2.2.1)) ∧ (PartAt h 12 (a6.2.2.2) (a6.2.2.1)) ∧ (h (4, 0) = some (.rows 1 [[(a6.2.2.2)]])) ∧ (h (15, 0) = some (.rows 1 ((a6.2.1).map ci)))) (fun (a6 : Nat × (List Int) × (List Int) × PV) => xs.length - (a6.1)) (0, List.replicate xs.length 0, [], .nil) (by exact ⟨rfl, trivial⟩) (by exact ⟨by exact Nat.zero_le _, by exact ndX_len (xs := xs) ▸ K0.start, by exact PartAt.nil, ((hset_ne (key_ne rfl)).trans (hset_self _ _ _)), (hset_self _ _ _)⟩) fun a6 r7 h8 c9 hj10 => ?_
 obtain ⟨k, op, rd, v⟩ := a6
 obtain ⟨hk, hk0, hpt, hihj10_0, hihj10_1⟩ := hj10
 try dsimp only at hk
 try dsimp only at hk0
 try dsimp only at hpt
 try dsimp only at hihj10_0
 try dsimp only at hihj10_1
 show pwp _ _ (loopQ _ _ _) ⟨sets (mix _ _ _) [(18, .int k)], _, _⟩
 refine pwp_seq_plain rfl fun K11 hK11 => p_e rfl (e_lt rfl rfl) (p_end (hK11 _ ?_)); clear hK11 K11
 refine pwp_seq_cond rfl fun K12 hK12 => ⟨fun hb13 => ?_, fun hb13 => ?_⟩
 ·have hb13R := hb13; try simp only [zz] at hb13
  obtain ⟨x, hx, hd, ht⟩ := get_lt (xs := xs) (i := k) (by omega)
  have hnx := hnl x (List.mem_of_getElem? hx)
  refine pwp_skip (seq_norm (hK12 _ ?_)); clear hK12 K12
  refine pwp_seq_block fun K14 hK14 => pwp_seq_plain rfl fun K15 hK15 => p_mS rfl (p_e rfl (e_ixL rfl rfl) (p_e rfl (e_loadA (n := 6) rfl (by kernel_rfl) (by kernel_rfl) (by kernel_rfl) (by first | omega | (simp only [List.length_map]; omega)) (by decide) (by first | exact agg_map hx rfl)) (p_new rfl (e_alloc (cs := [.str ByteArray.empty, .str ByteArray.empty, .int 0, .int 0, .int 0, .nil]) (n := 6) (by kernel_rfl) rfl (by decide)) (ob_alloc (by decide)) (p_aS rfl (p_store rfl (e_storeA rfl (hset_self _ _ _) rfl rfl rfl (by kernel_rfl) rfl (by kernel_rfl)) trivial ?_)))))
  refine p_end (hK15 _ ?_); clear hK15 K15
  refine pwp_seq_plain rfl fun K16 hK16 => p_e rfl (e_move (v := .ref _ _ _ _) rfl) (p_mS rfl (p_e rfl (e_faQ pl6 rfl) (p_e rfl (e_lH (v := .lit _ _ _) rfl (hset_self _ _ _) rfl) (p_e rfl (e_len rfl (by kernel_rfl)) (p_e rfl (e_ixaR0 rfl rfl (by kernel_rfl) (by kernel_rfl) (by (first | omega | (rw [hk0.op.len]; omega)))) (p_store rfl (e_storeI (zs := op) (a := ((((x.needs).map ci).length : Nat) : Int)) rfl ((hset_ne (key_ne rfl)).trans ((hset_ne (key_ne rfl)).trans hihj10_1)) rfl (by (first | (rw [hk0.op.len]; omega) | (rw [hkj.op.len]; exact hul))) (by kernel_rfl) (by kernel_rfl)) trivial ?_))))))
  refine p_end (hK16 _ ?_); clear hK16 K16
  refine pwp_seq_plain rfl fun K17 hK17 => p_e rfl (e_move (v := .ref _ _ _ _) rfl) (p_mS rfl (p_e rfl (e_ixaR0 rfl rfl (by kernel_rfl) (by kernel_rfl) (by (first | omega | (rw [hk0.op.len]; omega)))) (p_e rfl (e_loadI (a := ((((x.needs).map ci).length : Nat) : Int)) rfl (hset_self _ _ _) (by kernel_rfl) (by kernel_rfl) (by kernel_rfl) (set_get7 (by rw [hk0.op.len]; omega))) (p_e rfl (e_eq rfl rfl) (p_end (hK17 _ ?_)))))); clear hK17 K17
  refine pwp_cond rfl (fun hb18 => ?_) (fun hb18 => ?_)
  ·have hb18R := hb18; try simp only [zz] at hb18
   refine pwp_plain rfl fun K19 hK19 => p_mS rfl (p_hcall rfl (pushH _ _ rd (k : Int) v ((hset_ne (key_ne rfl)).trans ((hset_ne (key_ne rfl)).trans ((hset_ne (key_ne rfl)).trans hihj10_0))) (hpt.keep fun g => (hset_ne (key_ne rfl)).trans ((hset_ne (key_ne rfl)).trans ((hset_ne (key_ne rfl)).trans (rfl)))) (by have := hk0.rd.len; omega) hk0.rd.heap) fun v20 h21 c22 hR23 => ?_)
   obtain ⟨v24, rd25, hb26, hp27, hh28, hpm29, hf30⟩ := hR23
   have hhp := hh28; have hpm := hpm29
   have ho31 := (hf30 (15, 0) (by decide) (by decide) (by decide)).trans (hset_self _ _ _)
   refine p_end (hK19 _ ?_); clear hK19 K19
   refine block_norm (seq_norm (hK14 _ ?_)); clear hK14 K14
   refine pwp_plain rfl fun K32 hK32 => p_e rfl (e_add rfl rfl (by omega)) (p_mS rfl (p_end (hK32 _ ?_))); clear hK32 K32
   exact loop_again ((k + 1, op.set k ((nd_ (ndX xs) k).length : Int), rd25, v24)) (by show _ < _; simp only; omega) ⟨rfl, rfl, rfl, rfl, rfl, trivial⟩ ⟨rfl, trivial⟩ (by exact ⟨by show _ + 1 ≤ _; omega, by first | exact hk0.step (by omega) (.inl ⟨by rw [ndX_at hx]; simp only [List.length_map] at *; omega, hhp, hpm⟩) | exact hk0.step (by omega) (.inr ⟨by rw [ndX_at hx]; simp only [List.length_map] at *; omega, rfl⟩), by exact hp27, hb26, (ho31.trans (by (simp only [List.length_map, ndX_at hx]; rfl)))⟩)
  have hb18R := hb18; try simp only [zz] at hb18
  refine pwp_skip (block_norm (seq_norm (hK14 _ ?_))); clear hK14 K14
  refine pwp_plain rfl fun K33 hK33 => p_e rfl (e_add rfl rfl (by omega)) (p_mS rfl (p_end (hK33 _ ?_))); clear hK33 K33
  exact loop_again ((k + 1, op.set k ((nd_ (ndX xs) k).length : Int), rd, v)) (by show _ < _; simp only; omega) ⟨rfl, rfl, rfl, rfl, rfl, trivial⟩ ⟨rfl, trivial⟩ (by exact ⟨by show _ + 1 ≤ _; omega, by first | exact hk0.step (by omega) (.inl ⟨by rw [ndX_at hx]; simp only [List.length_map] at *; omega, hhp, hpm⟩) | exact hk0.step (by omega) (.inr ⟨by rw [ndX_at hx]; simp only [List.length_map] at *; omega, rfl⟩), by exact (hpt.keep fun g => (hset_ne (key_ne rfl)).trans ((hset_ne (key_ne rfl)).trans ((hset_ne (key_ne rfl)).trans (rfl)))), ((hset_ne (key_ne rfl)).trans ((hset_ne (key_ne rfl)).trans ((hset_ne (key_ne rfl)).trans hihj10_0))), ((hset_self _ _ _).trans (by (simp only [List.length_map, ndX_at hx]; rfl)))⟩)
 have hb13R := hb13; try simp only [zz] at hb13
 have hki := hk0.stop (by omega)
 refine pwp_exit (exit_seq ?_)
 clear hK12 K12
 refine exit_loop (exit_here (seq_norm (hK5 _ ?_))); clear hK5 K5
 refine pwp_seq_plain rfl fun K34 hK34 => p_e rfl (e_move (v := .lit _ _ _) rfl) (p_call rfl (.cons inn_lit .nil) (usersC _ hl hnl hok) (p_e rfl (e_assign (v := .lit _ _ _) rfl) (p_end (hK34 _ ?_)))); clear hK34 K34
 refine pwp_seq_plain rfl fun K35 hK35 => p_e rfl (e_assign (v := .nil) rfl) (p_end (hK35 _ ?_)); clear hK35 K35
 refine pwp_seq_block fun K36 hK36 => pwp_loopR (α := (List Int) × PV × (List Int) × (List Int) × PV) [0, 4, 5, 8] (fun (a37 : (List Int) × PV × (List Int) × (List Int) × PV) => [(9, (a37.2.1))]) (fun (a37 : (List Int) × PV × (List Int) × (List Int) × PV) (h : Heap) (_ : Nat → Nat) => (KI (ndX xs) (a37.1) (a37.2.2.1) (a37.2.2.2.1)) ∧ (PartAt h 12 (a37.2.2.2.2) (a37.2.2.2.1)) ∧ (SliceAt h 46 (a37.2.1) 1 ((a37.1).map ci)) ∧ (h (4, 0) = some (.rows 1 [[(a37.2.2.2.2)]])) ∧ (h (15, 0) = some (.rows 1 ((a37.2.2.1).map ci)))) (fun (a37 : (List Int) × PV × (List Int) × (List Int) × PV) => leftR (ndX xs) (a37.1)) ([], _, _, _, _) (by exact ⟨rfl, trivial⟩) (by exact ⟨by exact hki, by exact hpt, .nil, hihj10_0, hihj10_1⟩) fun a37 r38 h39 c40 hj41 => ?_
 obtain ⟨D, w, op, rd, v⟩ := a37
 obtain ⟨hki, hpt, hihj41_0, hihj41_1, hihj41_2⟩ := hj41
 try dsimp only at hki
 try dsimp only at hpt
 try dsimp only at hihj41_0
 try dsimp only at hihj41_1
 try dsimp only at hihj41_2
 show pwp _ _ (loopQ _ _ _) ⟨sets (mix _ _ _) [(9, w)], _, _⟩
 refine pwp_seq_seq (pwp_seq_plain rfl fun K42 hK42 => p_e rfl (e_loadH (v := v) rfl hihj41_1 (by kernel_rfl) (by kernel_rfl) (by kernel_rfl) (by exact Nat.zero_lt_one) (by decide) rfl) (p_e rfl (PartAt.len hpt rfl (by kernel_rfl)) (p_e rfl (e_gt rfl rfl) (p_end (hK42 _ ?_))))); clear hK42 K42
 refine pwp_seq_cond rfl fun K43 hK43 => ⟨fun hb44 => ?_, fun hb44 => ?_⟩
 ·have hb44R := hb44; try simp only [zz] at hb44
  have hrl := hb44
  refine pwp_skip (seq_norm (hK43 _ ?_)); clear hK43 K43
  refine pwp_block (pwp_seq_plain rfl fun K45 hK45 => ?_)
  have hne : rd ≠ [] := fun e => by rw [e] at hrl; exact absurd hrl (by decide)
  refine p_hcall rfl (popH _ _ rd v hihj41_1 hpt (by have := hki.rd.len; omega) hki.rd.heap hne) fun v46 h47 c48 hR49 => ?_
  obtain ⟨hv42, v50, rd51, hb52, hp53, hh54, hpm55, hf56⟩ := hR49
  obtain ⟨x, hxl, hx0, hxr, hord, hleft, hkj0⟩ := hki.top hne hh54 hpm55
  rw [hx0] at hv42; subst hv42
  have hdl := ord_len hki.ord; have hdl2 := ord_len hord; have hull : (usL (ndX xs)).length = (ndX xs).length := (by simp [usL])
  have ho57 := (hf56 (15, 0) (by decide) (by decide)).trans hihj41_2
  have hs58 := (hihj41_0).keep fun g => hf56 (46, g) (by intro e; cases e) (by show (46 : Nat) ≠ _; decide)
  refine p_aS rfl (p_end (hK45 _ ?_)); clear hK45 K45
  refine pwp_seq_plain rfl fun K59 hK59 => p_e rfl (e_move (v := _) rfl) (p_mS rfl (p_new rfl (e_bslice (rows := [ci (x : Int)]) (zs := [.int 0]) (sz := 1) (by kernel_rfl) (by kernel_rfl) rfl (by kernel_rfl) (by decide) rfl rfl (by exact ⟨by decide, rfl, rfl, trivial⟩) rfl) trivial (p_app rfl rfl rfl (hs58.keep fun _ => (hset_ne (key_ne rfl)).trans (rfl)) (src_ref (hset_self _ _ _) rfl) (by kernel_rfl) (by simp only [List.length_append, List.length_map, List.length_nil, List.length_cons]; omega) fun v60 h61 c62 hs63 hf64 => ?_)))
  have ho65 := (hf64 (4, _) (key_ne rfl) (fun _ _ => key_ne rfl)).trans ((hset_ne (key_ne rfl)).trans hb52)
  have ho66 := (hf64 (15, _) (key_ne rfl) (fun _ _ => key_ne rfl)).trans ((hset_ne (key_ne rfl)).trans ho57)
  have ho67 := (hf64 (45, _) (key_ne rfl) (fun _ _ => key_ne rfl)).trans (hset_self _ _ _)
  have hp68 := (hp53.keep fun g => (hset_ne (key_ne rfl)).trans (rfl)).keep fun g => (hf64 (12, g) (key_ne rfl) (fun _ _ => key_ne rfl))
  refine p_e rfl (e_assign (v := _) rfl) (p_end (hK59 _ ?_)); clear hK59 K59
  refine pwp_seq_plain rfl fun K69 hK69 => p_e rfl (e_move (v := .lit _ _ _) rfl) (p_mS rfl (p_e rfl (e_ixL rfl rfl) (p_e rfl (e_load (v := .lit _ _ _) rfl (by kernel_rfl) (by kernel_rfl) (by kernel_rfl) (by first | omega | (simp only [List.length_map]; omega)) (by decide) ((cell_map (usL_get hxl) _).trans rfl)) (p_e rfl (e_len rfl (by kernel_rfl)) (p_mS rfl (p_end (hK69 _ ?_))))))); clear hK69 K69
  refine pwp_block (pwp_loopR (α := Nat × (List Int) × (List Int) × PV) [0, 4, 5, 8, 9, 50, 51] (fun (a70 : Nat × (List Int) × (List Int) × PV) => [(52, .int (a70.1))]) (fun (a70 : Nat × (List Int) × (List Int) × PV) (h : Heap) (_ : Nat → Nat) => ((a70.1) ≤ (usR (ndX xs) (x : Int)).length) ∧ (KJ (ndX xs) D x (a70.1) (a70.2.1) (a70.2.2.1)) ∧ (PartAt h 12 (a70.2.2.2) (a70.2.2.1)) ∧ (SliceAt h 46 v60 1 (((D ++ [(x : Int)])).map ci)) ∧ (h (4, 0) = some (.rows 1 [[(a70.2.2.2)]])) ∧ (h (15, 0) = some (.rows 1 ((a70.2.1).map ci)))) (fun (a70 : Nat × (List Int) × (List Int) × PV) => (usR (ndX xs) (x : Int)).length - (a70.1)) (0, _, _, _) (by exact ⟨rfl, trivial⟩) (by exact ⟨by exact Nat.zero_le _, by exact hkj0, by exact hp68, (SliceAt.to hs63 (by first | rfl | (simp only [List.map_append, List.map_cons, List.map_nil] <;> rfl))), ho65, ho66⟩) fun a70 r71 h72 c73 hj74 => ?_)
  obtain ⟨j, op, rd, v⟩ := a70
  obtain ⟨hj, hkj, hpt, hihj74_0, hihj74_1, hihj74_2⟩ := hj74
  try dsimp only at hj
  try dsimp only at hkj
  try dsimp only at hpt
  try dsimp only at hihj74_0
  try dsimp only at hihj74_1
  try dsimp only at hihj74_2
  show pwp _ _ (loopQ _ _ _) ⟨sets (mix _ _ _) [(52, .int j)], _, _⟩
  refine pwp_seq_plain rfl fun K75 hK75 => p_e rfl (e_lt rfl rfl) (p_end (hK75 _ ?_)); clear hK75 K75
  refine pwp_seq_cond rfl fun K76 hK76 => ⟨fun hb77 => ?_, fun hb77 => ?_⟩
  ·have hb77R := hb77; try simp only [zz] at hb77
   have hul0 := usR_len (nd := (ndX xs)) (x := (x : Int))
   obtain ⟨u, hu1, hul, huv, hun, hur⟩ := hkj.val hok hxr (by simp only [List.length_map] at *; omega)
   have hgu : (usR (ndX xs) (x : Int))[j]? = some (u : Int) := by rw [at0_get (by simp only [List.length_map] at *; omega), hu1]
   have hcb := cntO_le (nd := (ndX xs)) (D := D ++ [(x : Int)]) (i := u)
   have hnb := nd_len hnl u
   refine pwp_skip (seq_norm (hK76 _ ?_)); clear hK76 K76
   refine pwp_seq_block fun K78 hK78 => pwp_seq_plain rfl fun K79 hK79 => p_e rfl (e_ixL rfl rfl) (p_e rfl (e_load (v := .sc _) rfl (by kernel_rfl) (by kernel_rfl) (by kernel_rfl) (by first | omega | (simp only [List.length_map]; omega)) (by decide) ((cell_map hgu _).trans rfl)) (p_aS rfl (p_end (hK79 _ ?_)))); clear hK79 K79
   refine pwp_seq_plain rfl fun K80 hK80 => p_e rfl (e_move (v := .ref _ _ _ _) rfl) (p_mS rfl (p_e rfl (e_ixaR0 rfl rfl (by kernel_rfl) (by kernel_rfl) (by (first | omega | (rw [hk0.op.len]; omega)))) (p_e rfl (e_loadI (a := (at0 op u)) rfl hihj74_2 (by kernel_rfl) (by kernel_rfl) (by kernel_rfl) (at0_get (by rw [hkj.op.len]; exact hul))) (p_e rfl (e_sub rfl rfl (by omega)) (p_e rfl (e_ixaR0 rfl rfl (by kernel_rfl) (by kernel_rfl) (by (first | omega | (rw [hk0.op.len]; omega)))) (p_store rfl (e_storeI (zs := op) (a := ((at0 op u) - (1))) rfl hihj74_2 rfl (by (first | (rw [hk0.op.len]; omega) | (rw [hkj.op.len]; exact hul))) (by kernel_rfl) (by kernel_rfl)) trivial ?_))))))
   refine p_end (hK80 _ ?_); clear hK80 K80
   refine pwp_seq_plain rfl fun K81 hK81 => p_e rfl (e_move (v := .ref _ _ _ _) rfl) (p_mS rfl (p_e rfl (e_ixaR0 rfl rfl (by kernel_rfl) (by kernel_rfl) (by (first | omega | (rw [hk0.op.len]; omega)))) (p_e rfl (e_loadI (a := (at0 op u - (1))) rfl (hset_self _ _ _) (by kernel_rfl) (by kernel_rfl) (by kernel_rfl) (set_get7 (by rw [hkj.op.len]; exact hul))) (p_e rfl (e_eq rfl rfl) (p_end (hK81 _ ?_)))))); clear hK81 K81
   refine pwp_cond rfl (fun hb82 => ?_) (fun hb82 => ?_)
   ·have hb82R := hb82; try simp only [zz] at hb82
    refine pwp_plain rfl fun K83 hK83 => p_mS rfl (p_hcall rfl (pushH _ _ rd (u : Int) v ((hset_ne (key_ne rfl)).trans hihj74_1) (hpt.keep fun g => (hset_ne (key_ne rfl)).trans (rfl)) (by have := hkj.rd.len; omega) hkj.rd.heap) fun v84 h85 c86 hR87 => ?_)
    obtain ⟨v88, rd89, hb90, hp91, hh92, hpm93, hf94⟩ := hR87
    have hhp := hh92; have hpm := hpm93
    have ho95 := (hf94 (15, 0) (by decide) (by decide) (by decide)).trans (hset_self _ _ _)
    have hs96 := ((hihj74_0.keep fun _ => (hset_ne (key_ne rfl)).trans (rfl))).keep fun g => hf94 (46, g) (by intro e; cases e) (by show (46 : Nat) ≠ _; decide) (by show (46 : Nat) ≠ _; decide)
    refine p_end (hK83 _ ?_); clear hK83 K83
    refine block_norm (seq_norm (hK78 _ ?_)); clear hK78 K78
    refine pwp_plain rfl fun K97 hK97 => p_e rfl (e_add rfl rfl (by omega)) (p_mS rfl (p_end (hK97 _ ?_))); clear hK97 K97
    exact loop_again ((j + 1, op.set u (at0 op u - 1), rd89, v88)) (by show _ < _; simp only; omega) ⟨rfl, rfl, rfl, rfl, rfl, rfl, rfl, trivial⟩ ⟨rfl, trivial⟩ (by exact ⟨by show _ + 1 ≤ _; simp only [List.length_map] at *; omega, by first | exact hkj.step hok hxr (by simp only [List.length_map] at *; omega) hu1 hul huv hun hur (.inl ⟨by omega, hhp, hpm⟩) | exact hkj.step hok hxr (by simp only [List.length_map] at *; omega) hu1 hul huv hun hur (.inr ⟨by omega, rfl⟩), by exact hp91, hs96, hb90, (ho95.trans (by rfl))⟩)
   have hb82R := hb82; try simp only [zz] at hb82
   refine pwp_skip (block_norm (seq_norm (hK78 _ ?_))); clear hK78 K78
   refine pwp_plain rfl fun K98 hK98 => p_e rfl (e_add rfl rfl (by omega)) (p_mS rfl (p_end (hK98 _ ?_))); clear hK98 K98
   exact loop_again ((j + 1, op.set u (at0 op u - 1), rd, v)) (by show _ < _; simp only; omega) ⟨rfl, rfl, rfl, rfl, rfl, rfl, rfl, trivial⟩ ⟨rfl, trivial⟩ (by exact ⟨by show _ + 1 ≤ _; simp only [List.length_map] at *; omega, by first | exact hkj.step hok hxr (by simp only [List.length_map] at *; omega) hu1 hul huv hun hur (.inl ⟨by omega, hhp, hpm⟩) | exact hkj.step hok hxr (by simp only [List.length_map] at *; omega) hu1 hul huv hun hur (.inr ⟨by omega, rfl⟩), by exact (hpt.keep fun g => (hset_ne (key_ne rfl)).trans (rfl)), (hihj74_0.keep fun _ => (hset_ne (key_ne rfl)).trans (rfl)), ((hset_ne (key_ne rfl)).trans hihj74_1), ((hset_self _ _ _).trans (by rfl))⟩)
  have hb77R := hb77; try simp only [zz] at hb77
  have hki2 := hkj.stop hki.ord hord hxr (by simp only [List.length_map] at *; omega)
  refine pwp_exit (exit_seq ?_)
  clear hK76 K76
  refine exit_loop (exit_here (block_norm ?_))
  exact loop_again ((D ++ [(x : Int)], v60, op, rd, v)) (by show _ < _; simp only; exact hleft) ⟨rfl, rfl, rfl, rfl, trivial⟩ ⟨rfl, trivial⟩ (by exact ⟨by exact hki2, by exact hpt, (SliceAt.to hihj74_0 (by (simp only [List.map_append, List.map_cons, List.map_nil] <;> rfl))), hihj74_1, (hihj74_2.trans (by rfl))⟩)
 have hb44R := hb44; try simp only [zz] at hb44
 have hrl := hb44
 obtain rfl : rd = [] := List.eq_nil_of_length_eq_zero (by omega)
 have hD := hki.stop
 have hdl := ord_len hki.ord
 refine pwp_exit (exit_seq ?_)
 clear hK43 K43
 refine exit_loop (exit_here (seq_norm (hK36 _ ?_))); clear hK36 K36
 refine pwp_seq_seq (pwp_seq_plain rfl fun K99 hK99 => p_e rfl (e_move (v := _) rfl) (p_e rfl (SliceAt.len hihj41_0 rfl (by kernel_rfl)) (p_e rfl (e_move (v := .lit _ _ _) rfl) (p_e rfl (e_len rfl (by kernel_rfl)) (p_e rfl (e_lt rfl rfl) (p_end (hK99 _ ?_))))))); clear hK99 K99
 refine pwp_seq_cond rfl fun K100 hK100 => ⟨fun hb101 => ?_, fun hb101 => ?_⟩
 ·have hb101R := hb101; try simp only [zz] at hb101
  refine pwp_seq_plain rfl fun K102 hK102 => p_e rfl (e_assign (v := .nil) rfl) (p_aS rfl (p_end (hK102 _ ?_))); clear hK102 K102
  refine pwp_ret (ret_seq (end2 (v := .nil) (w := .sc _) rfl rfl ?_))
  exact srt_out0 (by rw [← hD]; simp only [List.length_map] at *; omega)
 have hb101R := hb101; try simp only [zz] at hb101
 refine pwp_skip (seq_norm (hK100 _ ?_)); clear hK100 K100
 refine pwp_seq_plain rfl fun K103 hK103 => p_e rfl (e_move (v := _) rfl) (p_e rfl (e_assign (v := _) rfl) (p_aS rfl (p_end (hK103 _ ?_)))); clear hK103 K103
 refine pwp_ret (end2 (v := _) (w := .sc _) rfl rfl ?_)
 exact srt_out (by rw [← hD]; simp only [List.length_map] at *; omega) hihj41_0 (by rw [← hD])

end Go.Proofs.Ytjmjiegplnfiiaa

/- The order of the reference. No conditions. -/
set_option linter.unusedSimpArgs false
set_option linter.unusedVariables false
set_option maxRecDepth 100000
namespace Go.Proofs.Ytjmjiegplnfiiaa
open Go Go.Pv
end Go.Proofs.Ytjmjiegplnfiiaa
