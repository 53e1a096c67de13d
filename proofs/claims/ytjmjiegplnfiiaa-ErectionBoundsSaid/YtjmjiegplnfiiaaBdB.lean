import Derived.Test.YtjmjiegplnfiiaaBdA
import Derived.Test.YtjmjiegplnfiiaaSfA
/- The longest chain, as the program tells it. No conditions. -/
set_option linter.unusedSimpArgs false
set_option linter.unusedVariables false
set_option maxRecDepth 100000
namespace Go.Proofs.Ytjmjiegplnfiiaa
open Go Go.Pv
section
variable {P : Program} {K : PS → Prop} {d : Nat} {t : TypeId} {ty : TypeId} {pos : String} {aft : Array Edge} {gd : Option (Nat × Bool)} {rest : List Oper} {r : Nat → PV} {h : Heap} {cnt : Nat → Nat} {x y : Operand}
/-- An append to a slice that was made at one of two places. -/
theorem p_appO {ts : Array TypeId} {t2 : TypeId} {u u2 : PV} {sz d1 d2 : Nat} {rows rows2 : Pv.Rows} (hts : ts.toList = [t, t2]) (hx : ev r x = u) (hy : ev r y = u2) (hs : SliceAt h d1 u sz rows ∨ SliceAt h d2 u sz rows) (hsr : (srcRows h sz u2).1 ∧ (srcRows h sz u2).2.1 = rows2)
   (hok : (sliceOk P t && (decide (P.bytesOf (elemTy P t) < 2 ^ 15) && (decide (intKind P t2 = none) && (zeroOk P (elemTy P t) && ((P.underlying t2).isSome && decide (tySize P (elemTy P t) = sz)))))) = true) (hlen : rows.length + rows2.length < 2 ^ 32)
   (hk : ∀ v' h' c', SliceAt h' d v' sz (rows ++ rows2) → (∀ k' : Key, k'.1 ≠ d → k'.1 ≠ d1 → k'.1 ≠ d2 → h' k' = h k') → pOps P K rest ⟨setT r d v', h', c'⟩) :
   pOps P K (⟨some d, .call { callee := .builtin .append, args := #[x, y], argTypes := ts }, ty, pos, aft, gd⟩ :: rest) ⟨r, h, cnt⟩ := by
 rcases hs with hs | hs
 · exact p_app hts hx hy hs hsr hok hlen fun v' h' c' h1 h2 => hk v' h' c' h1 fun k' g1 g2 g3 => h2 k' (fun e => g1 (by rw [e])) fun g _ e => g2 (by rw [e])
 · exact p_app hts hx hy hs hsr hok hlen fun v' h' c' h1 h2 => hk v' h' c' h1 fun k' g1 g2 g3 => h2 k' (fun e => g1 (by rw [e])) fun g _ e => g3 (by rw [e])
end
/-- What stands in memory behind j rounds. -/
structure CI (xs : List Task) (j : Nat) (h : Heap) : Prop where
 b : h (1, 0) = some (.rows 1 [[.lit true 6 (xs.map Task.enc)]])
 u : h (7, 0) = some (.rows 1 [[.lit false 1 ((usL (ndX xs)).map clf)]])
 p : h (8, 0) = some (.rows 1 [[.ref (36, 0) 1 0 xs.length]])
 t : h (36, 0) = some (.rows 1 ((tlP xs j).map ci))
 k : h (1, 1) = some (.rows 1 [[.lit false 1 ((ordR (ndX xs)).map ci)]])
theorem CI.held {xs : List Task} {j : Nat} {h : Heap} (hI : CI xs j h) : Held (1, 1) (.lit false 1 ((ordR (ndX xs)).map ci)) (ordR (ndX xs)) h := ⟨hI.k, .inl ⟨false, rfl⟩⟩
theorem bItems_of {xs : List Int} {j : Nat} {row : List PV} (h : (bItems xs)[j]? = some row) : j < xs.length ∧ row = [.int ((xs.length : Int) - 1 - j), .int (at0 xs (xs.length - 1 - j))] := by
 have h1 : j < xs.length := by
   have := (List.getElem?_eq_some_iff.1 h).1
   simpa [bItems] using this
 rw [bItems_get h1] at h
 exact ⟨h1, (Option.some.inj h).symm⟩
theorem bItems_two {xs : List Int} : ∀ row ∈ bItems xs, row.length = 2 := fun row hr => by
 simp only [bItems, List.mem_map] at hr
 obtain ⟨_, _, rfl⟩ := hr; rfl
theorem bItems_len {xs : List Int} : (bItems xs).length = xs.length := by simp [bItems]
theorem tl_next {xs : List Task} {j X i : Nat} {x : Task} (hX : at0 (ordR (ndX xs)) ((ordR (ndX xs)).length - 1 - j) = (X : Int)) (hi : i = (usR (ndX xs) (X : Int)).length) (hx : xs[X]? = some x) :
   (stepM (tlP xs j) X ((usR (ndX xs) (X : Int)).take i)).set X (at0 (stepM (tlP xs j) X ((usR (ndX xs) (X : Int)).take i)) X + x.minutes) = tlP xs (j + 1) := by
 subst hi
 have e : minA xs X = x.minutes := by rw [minA, List.getD_eq_getElem?_getD, hx]; rfl
 rw [List.take_length, tlP, hX, Int.toNat_natCast, rndT, e]
theorem usL_getI {nd : List (List Int)} {z : Int} (h : 0 ≤ z ∧ z < (nd.length : Int)) : (usL nd)[z.toNat]? = some (usR nd z) := by
 have := usL_get (nd := nd) (x := z.toNat) (by omega)
 rw [Int.toNat_of_nonneg h.1] at this; exact this
theorem nxt_hit {xs : List Task} {d : List Int} {x : Int} {i : Nat} (hi : i < (usR (ndX xs) x).length) (h : ∀ j, j < i → at0 d (at0 (usR (ndX xs) x) j).toNat ≠ lft xs d x) (h2 : at0 d (at0 (usR (ndX xs) x) i).toNat = lft xs d x) : nxtC xs d x = at0 (usR (ndX xs) x) i := by
 have : (usR (ndX xs) x).find? (fun k => decide (at0 d k.toNat = lft xs d x)) = some (at0 (usR (ndX xs) x) i) := by
   rw [List.find?_eq_some_iff_getElem]
   refine ⟨decide_eq_true h2, i, hi, at0_elem hi, fun j hj => ?_⟩
   rw [at0_elem (by omega)]
   simpa using h j hj
 rw [nxtC, this]; rfl
theorem nxt_all {xs : List Task} {d : List Int} {x : Int} {i : Nat} (h0 : nxtC xs d x ∈ usR (ndX xs) x ∧ at0 d (nxtC xs d x).toNat = lft xs d x) (hi : (usR (ndX xs) x).length ≤ i) (h : ∀ j, j < i → at0 d (at0 (usR (ndX xs) x) j).toNat ≠ lft xs d x) : False := by
 obtain ⟨j, hj, e⟩ := mem_at0 h0.1
 exact h j (by omega) (by rw [e]; exact h0.2)
def OutA (h : Heap) (v : PV) (l : List Int) : Prop := SliceAt h 80 v 1 (l.map ci) ∨ SliceAt h 117 v 1 (l.map ci)
theorem OutA.keep {h h' : Heap} {v : PV} {l : List Int} (hs : OutA h v l) (h1 : ∀ g, h' (80, g) = h (80, g)) (h2 : ∀ g, h' (117, g) = h (117, g)) : OutA h' v l := hs.imp (·.keep h1) (·.keep h2)
theorem OutA.out {h : Heap} {v : PV} {l m : List Int} (hs : OutA h v l) (e : l = m) : Out h v (.lit false 1 (m.map ci)) := by
 subst e
 rcases hs with hs | hs <;> exact out_slice hs rfl (fun _ => rfl) fun a p hp => by simp [ci] at hp; subst hp; exact ⟨.sc _, rfl⟩
theorem lft_eq {xs : List Task} {d : List Int} {z : Int} {x : Task} (hx : xs[z.toNat]? = some x) : lft xs d z = at0 d z.toNat - x.minutes := by
 rw [lft, minA, List.getD_eq_getElem?_getD, hx]; rfl
theorem ChC.inv {xs : List Task} {d : List Int} {x : Int} {l : List Int} (h : ChC xs d x l) : (¬ 0 < lft xs d x ∧ l = [x]) ∨ (0 < lft xs d x ∧ ∃ l2, l = x :: l2 ∧ ChC xs d (nxtC xs d x) l2) := by
 cases h with
 | stop h => exact .inl ⟨h, rfl⟩
 | go h hc => exact .inr ⟨h, _, rfl, hc⟩
section
variable {xs : List Task} {h : Heap}
theorem crt_out1 (he : (ordX xs).2 ≠ 0) : Out h (.tup [.int 0, .nil, .int (ordX xs).2]) (.tup [.int (crtX xs).1, .lit false 1 ((crtX xs).2.1.map ci), .int (crtX xs).2.2]) := by
 obtain ⟨h1, h2⟩ := ordX_q he
 rw [crtX, if_pos h1, h2]; exact out_3 (out_i rfl) (.nil 1) (out_i rfl)
theorem crt_out2 (he : (ordX xs).2 = 0) (hl : xs.length = 0) : Out h (.tup [.int 0, .nil, .int (ordX xs).2]) (.tup [.int (crtX xs).1, .lit false 1 ((crtX xs).2.1.map ci), .int (crtX xs).2.2]) := by
 rw [crtX, if_neg (fun q => q (ordX_p he)), if_pos hl, he]; exact out_3 (out_i rfl) (.nil 1) (out_i rfl)
theorem crt_out3 {v : PV} {pre l : List Int} {y : Int} (hp : planE xs = 0) (hl : ¬ xs.length = 0) (hv : OutA h v (pre ++ [y])) (hc : ChC xs (TL xs) y l) (he : chnX xs (stX xs) = pre ++ l) (hy : ¬ 0 < lft xs (TL xs) y) : Out h (.tup [.int (maxL (TL xs)), v, .int 0]) (.tup [.int (crtX xs).1, .lit false 1 ((crtX xs).2.1.map ci), .int (crtX xs).2.2]) := by
 rw [crtX, if_neg (fun q => q hp), if_neg hl]
 rcases hc.inv with ⟨_, rfl⟩ | ⟨h2, _⟩
 · exact out_3 (out_i rfl) (hv.out he.symm) (out_i rfl)
 · exact absurd h2 hy
end
theorem stX_ok {xs : List Task} (h : TF xs (TL xs)) (hl : 0 < xs.length) : (0 ≤ stX xs ∧ stX xs < (xs.length : Int)) ∧ at0 (TL xs) (stX xs).toNat = maxL (TL xs) := by
 obtain ⟨i, hi, e⟩ := mem_at0 (maxL_at (d := TL xs) (by rw [h.len]; exact hl))
 have h1 : ¬ stX xs < 0 := fun q => by
   have h2 : (TL xs).any (fun y => decide (maxL (TL xs) = y)) = true := List.any_eq_true.2 ⟨_, at0_mem hi, decide_eq_true e.symm⟩
   rw [← ixI_any] at h2
   have := of_decide_eq_true h2
   unfold stX at q; omega
 obtain ⟨k, hk, hkl, he⟩ : ∃ k : Nat, stX xs = (k : Int) ∧ k < (TL xs).length ∧ maxL (TL xs) = at0 (TL xs) k := by
   unfold stX at h1 ⊢
   unfold ixI at h1 ⊢
   cases q : (TL xs).findIdx? fun y => decide (maxL (TL xs) = y) with
   | none => rw [q] at h1; exact absurd (by decide) h1
   | some k =>
     rw [List.findIdx?_eq_some_iff_getElem] at q
     obtain ⟨g1, g2, _⟩ := q
     exact ⟨k, rfl, g1, by rw [at0_elem g1] at g2; exact of_decide_eq_true g2⟩
 rw [hk, Int.toNat_natCast]
 have := h.len
 exact ⟨by omega, he.symm⟩

theorem frH107 : (inFrame Try.f107.ntmps (Try.f107.body.getD .skip) && Try.f107.results.toList.all (resScope Try.f107.ntmps)) = true := by kernel_rfl
theorem backH (h0 : Heap) (c0 : Nat → Nat) (l : List Int) : HCallsR Try.prog 107 [.lit false 1 (l.map ci)] h0 c0 (fun v h' _ => v = .func (.func 128) [] [.ptr (1, c0 1) 1 0 0] ∧ h' (1, c0 1) = some (.rows 1 [[.lit false 1 (l.map ci)]]) ∧ ∀ k' : Key, k'.2 < c0 k'.1 → h' k' = h0 k') := by
 refine HCallsR.of_code Try.func107 rfl rfl (by kernel_rfl) mixed frH107 (by show _ ≤ 4; simp) (pwp_seq_plain rfl fun K1 hK1 => p_new rfl (e_box1 rfl rfl) ⟨rfl, by decide⟩ (p_aS rfl (p_end (hK1 _ ?_)))); clear hK1 K1
 refine pwp_seq_plain rfl fun K2 hK2 => p_e rfl (e_mkf rfl) (p_e rfl (e_assign (v := .func _ _ _) rfl) (p_end (hK2 _ ?_))); clear hK2 K2
 refine pwp_ret (end1 (v := .func _ _ _) rfl ?_)
 exact ⟨rfl, hset_self _ _ _, fun k' hk' => (hset_ne (old_ne hk' rfl)).trans (rfl)⟩

theorem max_1 {d : List Int} (h : 1 ≤ d.length) : at0 d 0 = (d.take 1).foldl max (at0 d 0) := by
 cases d with
 | nil => simp at h
 | cons x d => simp [at0]
theorem max_s {d : List Int} {k : Nat} (h : k < d.length) : max ((d.take k).foldl max (at0 d 0)) (at0 d k) = (d.take (k + 1)).foldl max (at0 d 0) := by
 rw [← List.take_append_getElem h, List.foldl_append, at0_elem h]; rfl

theorem fr108 : (inFrame Try.f108.ntmps (Try.f108.body.getD .skip) && Try.f108.results.toList.all (resScope Try.f108.ntmps)) = true := by kernel_rfl
theorem MaxC (d : List Int) (hl : 1 ≤ d.length) (hl2 : d.length ≤ 1000000) : PCalls Try.prog 108 [.lit true 1 (d.map ci)] (.int (maxL d)) := by
 refine PCalls.of_code Try.func108 rfl rfl (by kernel_rfl) mixed fr108 (by show _ ≤ 25; simp) (.sc _) (pwp_seq_plain rfl fun K1 hK1 => p_aS rfl (p_end (hK1 _ ?_))); clear hK1 K1
 refine pwp_seq_seq (pwp_seq_plain rfl fun K2 hK2 => p_e rfl (e_move (v := .lit _ _ _) rfl) (p_e rfl (e_len rfl (by kernel_rfl)) (p_e rfl (e_lt rfl rfl) (p_end (hK2 _ ?_))))); clear hK2 K2
 refine pwp_seq_cond rfl fun K3 hK3 => ⟨fun hb4 => ?_, fun hb4 => ?_⟩
 ·have hb4R := hb4; try simp only [zz] at hb4
  exfalso; simp only [List.length_map] at *; omega
 have hb4R := hb4; try simp only [zz] at hb4
 refine pwp_skip (seq_norm (hK3 _ ?_)); clear hK3 K3
 refine pwp_seq_plain rfl fun K5 hK5 => p_e rfl (e_move (v := .lit _ _ _) rfl) (p_e rfl (e_ixL rfl rfl) (p_e rfl (e_load (v := .sc _) rfl (by kernel_rfl) (by kernel_rfl) (by kernel_rfl) (by first | omega | (simp only [List.length_map]; omega)) (by decide) ((cell_map (at0_get (l := d) (i := 0) (by omega)) _).trans rfl)) (p_aS rfl (p_end (hK5 _ ?_))))); clear hK5 K5
 refine pwp_seq_seq (pwp_seq_plain rfl fun K6 hK6 => p_aS rfl (p_end (hK6 _ ?_))); clear hK6 K6
 refine pwp_seq_block fun K7 hK7 => pwp_loopR (α := Nat × Int) [0] (fun (a8 : Nat × Int) => [(3, .int (a8.2)), (4, .int (a8.1))]) (fun (a8 : Nat × Int) (h : Heap) (_ : Nat → Nat) => (1 ≤ (a8.1) ∧ (a8.1) ≤ d.length) ∧ ((a8.2) = (d.take (a8.1)).foldl max (at0 d 0))) (fun (a8 : Nat × Int) => d.length - (a8.1)) (1, at0 d 0) (by exact ⟨rfl, rfl, trivial⟩) (by exact ⟨by omega, by exact max_1 hl⟩) fun a8 r9 h10 c11 hj12 => ?_
 obtain ⟨k, m⟩ := a8
 obtain ⟨hk, hm⟩ := hj12
 try dsimp only at hk
 try dsimp only at hm
 show pwp _ _ (loopQ _ _ _) ⟨sets (mix _ _ _) [(3, .int m), (4, .int k)], _, _⟩
 refine pwp_seq_seq (pwp_seq_plain rfl fun K13 hK13 => p_mS rfl (p_e rfl (e_move (v := .lit _ _ _) rfl) (p_e rfl (e_len rfl (by kernel_rfl)) (p_e rfl (e_lt rfl rfl) (p_end (hK13 _ ?_)))))); clear hK13 K13
 refine pwp_seq_cond rfl fun K14 hK14 => ⟨fun hb15 => ?_, fun hb15 => ?_⟩
 ·have hb15R := hb15; try simp only [zz] at hb15
  have hkl : k < d.length := by simp only [List.length_map] at *; omega
  refine pwp_skip (seq_norm (hK14 _ ?_)); clear hK14 K14
  refine pwp_seq_block fun K16 hK16 => pwp_plain rfl fun K17 hK17 => p_mS rfl (p_e rfl (e_move (v := .lit _ _ _) rfl) (p_mS rfl (p_e rfl (e_ixL rfl rfl) (p_e rfl (e_load (v := .sc _) rfl (by kernel_rfl) (by kernel_rfl) (by kernel_rfl) (by first | omega | (simp only [List.length_map]; omega)) (by decide) ((cell_map (at0_get (l := d) (i := k) hkl) _).trans rfl)) (p_e rfl (e_max rfl rfl) ?_)))))
  refine p_aS rfl (p_end (hK17 _ ?_)); clear hK17 K17
  refine block_norm (seq_norm (hK16 _ ?_)); clear hK16 K16
  refine pwp_plain rfl fun K18 hK18 => p_mS rfl (p_e rfl (e_adL rfl rfl) (p_aS rfl (p_end (hK18 _ ?_)))); clear hK18 K18
  exact loop_again ((k + 1, (max m (at0 d k)))) (by show _ < _; simp only; omega) ⟨rfl, trivial⟩ ⟨rfl, rfl, trivial⟩ (by exact ⟨by (show 1 ≤ k + 1 ∧ k + 1 ≤ d.length; omega), by (rw [hm]; exact max_s hkl)⟩)
 have hb15R := hb15; try simp only [zz] at hb15
 have hkx : k = d.length := by simp only [List.length_map] at *; omega
 refine pwp_exit (exit_seq ?_)
 clear hK14 K14
 refine exit_loop (exit_here (seq_norm (hK7 _ ?_))); clear hK7 K7
 refine pwp_seq_plain rfl fun K19 hK19 => p_mS rfl (p_aS rfl (p_end (hK19 _ ?_))); clear hK19 K19
 refine pwp_ret (end1 (v := .sc _) rfl ?_)
 exact out_i (by rw [hm, hkx, List.take_length]; rfl)

theorem fr109 : (inFrame Try.f109.ntmps (Try.f109.body.getD .skip) && Try.f109.results.toList.all (resScope Try.f109.ntmps)) = true := by kernel_rfl
theorem IndexZ (d : List Int) (z : Int) (hl2 : d.length ≤ 1000000) : PCalls Try.prog 109 [.lit true 1 (d.map ci), .int z] (.int (ixI (fun y => decide (z = y)) d)) := by
 refine PCalls.of_code Try.func109 rfl rfl (by kernel_rfl) mixed fr109 (by show _ ≤ 19; simp) (.sc _) (pwp_seq_plain rfl fun K1 hK1 => p_aS rfl (p_end (hK1 _ ?_))); clear hK1 K1
 refine pwp_seq_seq (pwp_seq_plain rfl fun K2 hK2 => p_e rfl (e_move (v := .lit _ _ _) rfl) (p_e rfl (e_len rfl (by kernel_rfl)) (p_mS rfl (p_end (hK2 _ ?_))))); clear hK2 K2
 refine pwp_seq_block fun K3 hK3 => pwp_loopR (α := Nat) [0, 1, 7] (fun (k : Nat) => [(8, .int (k))]) (fun (k : Nat) (h : Heap) (_ : Nat → Nat) => ((k) ≤ d.length) ∧ (∀ i, i < (k) → decide (z = at0 d i) = false)) (fun (k : Nat) => d.length - (k)) (0) (by exact ⟨rfl, trivial⟩) (by exact ⟨by exact Nat.zero_le _, by exact upto_0⟩) fun k r4 h5 c6 hj7 => ?_
 obtain ⟨hk, hin⟩ := hj7
 try dsimp only at hk
 try dsimp only at hin
 show pwp _ _ (loopQ _ _ _) ⟨sets (mix _ _ _) [(8, .int k)], _, _⟩
 refine pwp_seq_plain rfl fun K8 hK8 => p_e rfl (e_lt rfl rfl) (p_end (hK8 _ ?_)); clear hK8 K8
 refine pwp_seq_cond rfl fun K9 hK9 => ⟨fun hb10 => ?_, fun hb10 => ?_⟩
 ·have hb10R := hb10; try simp only [zz] at hb10
  have hkl : k < d.length := by simp only [List.length_map] at *; omega
  refine pwp_skip (seq_norm (hK9 _ ?_)); clear hK9 K9
  refine pwp_seq_block fun K11 hK11 => pwp_seq_plain rfl fun K12 hK12 => p_mS rfl (p_aS rfl (p_end (hK12 _ ?_))); clear hK12 K12
  refine pwp_seq_plain rfl fun K13 hK13 => p_mS rfl (p_e rfl (e_move (v := .lit _ _ _) rfl) (p_mS rfl (p_e rfl (e_ixL rfl rfl) (p_e rfl (e_load (v := .sc _) rfl (by kernel_rfl) (by kernel_rfl) (by kernel_rfl) (by first | omega | (simp only [List.length_map]; omega)) (by decide) ((cell_map (at0_get (l := d) (i := k) hkl) _).trans rfl)) (p_e rfl (e_eq rfl rfl) (p_end (hK13 _ ?_))))))); clear hK13 K13
  refine pwp_cond rfl (fun hb14 => ?_) (fun hb14 => ?_)
  ·have hb14R := hb14; try simp only [zz] at hb14
   refine pwp_seq_plain rfl fun K15 hK15 => p_mS rfl (p_aS rfl (p_end (hK15 _ ?_))); clear hK15 K15
   refine pwp_ret (ret_block (ret_seq (ret_loop (ret_block (ret_seq (end1 (v := .sc _) rfl ?_))))))
   exact out_i (ixI_hit (K := fun y => decide (z = y)) hkl hin (decide_eq_true (by assumption)))
  have hb14R := hb14; try simp only [zz] at hb14
  refine pwp_skip (block_norm (seq_norm (hK11 _ ?_))); clear hK11 K11
  refine pwp_plain rfl fun K16 hK16 => p_e rfl (e_adL rfl rfl) (p_mS rfl (p_end (hK16 _ ?_))); clear hK16 K16
  exact loop_again (k + 1) (by show _ < _; omega) ⟨rfl, rfl, rfl, trivial⟩ ⟨rfl, trivial⟩ (by exact ⟨by show _ + 1 ≤ _; simp only [List.length_map] at *; omega, by exact upto_step (p := fun i => decide (z = at0 d i) = false) hin (decide_eq_false (by assumption))⟩)
 have hb10R := hb10; try simp only [zz] at hb10
 refine pwp_exit (exit_seq ?_)
 clear hK9 K9
 refine exit_loop (exit_here (seq_norm (hK3 _ ?_))); clear hK3 K3
 refine pwp_seq_plain rfl fun K17 hK17 => p_aS rfl (p_end (hK17 _ ?_)); clear hK17 K17
 refine pwp_ret (end1 (v := .sc _) rfl ?_)
 exact out_i (ixI_no (K := fun y => decide (z = y)) hin (by simp only [List.length_map] at *; omega))

theorem IndexSt (xs : List Task) (hl : (TL xs).length ≤ 1000000) : PCalls Try.prog 109 [.lit true 1 ((TL xs).map ci), .int (maxL (TL xs))] (.int (stX xs)) := IndexZ (TL xs) (maxL (TL xs)) hl

theorem fr60 : (inFrame Try.f60.ntmps (Try.f60.body.getD .skip) && Try.f60.results.toList.all (resScope Try.f60.ntmps)) = true := by kernel_rfl
theorem CriticalC (xs : List Task) (hxl : xs.length ≤ 20) (hf : Fair xs) : PCalls Try.prog 60 [.lit true 6 (xs.map Task.enc)] (.tup [.int (crtX xs).1, .lit false 1 ((crtX xs).2.1.map ci), .int (crtX xs).2.2]) := by
 refine PCalls.of_code Try.func60 rfl rfl (by kernel_rfl) mixed fr60 (by show _ ≤ 120; simp) (pure_3 (.sc _) (.lit _ _ _ fun row hr => pure_map ci_pure row hr) (.sc _)) (pwp_seq_plain rfl fun K1 hK1 => p_new rfl (e_box1 rfl rfl) ⟨rfl, by decide⟩ (p_aS rfl (p_e rfl (e_assign (v := .nil) rfl) (p_aS rfl (p_end (hK1 _ ?_)))))); clear hK1 K1
 refine pwp_seq_plain rfl fun K2 hK2 => p_e rfl (e_lH (v := .lit _ _ _) rfl (hset_self _ _ _) rfl) (p_call rfl (.cons inn_lit .nil) (OrderC _ (by omega) hf) (p_e rfl (e_move (v := .tup _) rfl) (p_e rfl (e_ext (v := .lit _ _ _) rfl (by simp) rfl) (p_e rfl (e_ext (v := .sc _) rfl (by simp) rfl) (p_e rfl (e_assign (v := .lit _ _ _) rfl) (p_aS rfl ?_))))))
 refine p_end (hK2 _ ?_); clear hK2 K2
 refine pwp_seq_seq (pwp_seq_gops rfl fun K3 hK3 => g_begin (g_mS rfl rfl (g_e rfl (e_ne rfl rfl) (g_mS rfl rfl ?_))))
 refine g_cases (fun hb4 => ?_) (fun hb4 => ?_)
 ·have hb4R := hb4; try simp only [zz] at hb4
  iterate 3 refine g_skip rfl rfl rfl ?_
  refine g_pT rfl rfl rfl (g_end (ds := [27, 28, 29]) rfl rfl (hK3 _ ?_)); clear hK3 K3
  refine pwp_seq_cond (t := true) rfl fun K5 hK5 => ⟨fun _ => ?_, nofun⟩
  refine pwp_seq_plain rfl fun K6 hK6 => p_mS rfl (p_aS rfl (p_e rfl (e_assign (v := .nil) rfl) (p_aS rfl (p_end (hK6 _ ?_))))); clear hK6 K6
  refine pwp_ret (ret_seq (end3 (v := .sc _) (w := .nil) (x := .sc _) rfl rfl rfl ?_))
  exact crt_out1 (by assumption)
 have hb4R := hb4; try simp only [zz] at hb4
 refine g_e rfl (e_lH (v := .lit _ _ _) rfl (hset_self _ _ _) rfl) (g_e rfl (e_len rfl (by kernel_rfl)) (g_e rfl (e_eq rfl rfl) (g_pF rfl rfl rfl (g_end (ds := [27, 28, 29]) rfl rfl (hK3 _ ?_))))); clear hK3 K3
 refine pwp_seq_cond rfl fun K7 hK7 => ⟨fun hb8 => ?_, fun hb8 => ?_⟩
 ·have hb8R := hb8; try simp only [zz] at hb8
  refine pwp_seq_plain rfl fun K9 hK9 => p_mS rfl (p_aS rfl (p_e rfl (e_assign (v := .nil) rfl) (p_aS rfl (p_end (hK9 _ ?_))))); clear hK9 K9
  refine pwp_ret (ret_seq (end3 (v := .sc _) (w := .nil) (x := .sc _) rfl rfl rfl ?_))
  exact crt_out2 (by assumption) (by simp only [List.length_map] at *; omega)
 have hb8R := hb8; try simp only [zz] at hb8
 refine pwp_skip (seq_norm (hK7 _ ?_)); clear hK7 K7
 have hp : planE xs = 0 := ordX_p (by assumption)
 have hx1 : (ordX xs).1 = (ordR (ndX xs)) := by rw [ordX, if_neg (fun q => q hp)]
 rw [hx1]
 have hl0 : ¬ xs.length = 0 := by simp only [List.length_map] at *; omega
 have hO := ordR_acc (nd := (ndX xs))
 have hfl : xs.length ≤ (ordR (ndX xs)).length := by have := planE_len hp; rw [ndX_len] at this; omega
 have hol := ordR_len hO
 have hTF := tl_TF hO hfl
 have htl : (TL xs).length = xs.length := hTF.len
 refine pwp_seq_plain rfl fun K10 hK10 => p_e rfl (e_lH (v := .lit _ _ _) rfl (hset_self _ _ _) rfl) (p_call rfl (.cons inn_lit .nil) (usersC _ (by omega) (fun x hx => (hf x hx).1) (tasks_nd (planE_ok hp))) (p_new rfl (e_alloc (cs := [.nil]) (n := 1) (by kernel_rfl) rfl (by decide)) (ob_alloc (by decide)) (p_store rfl (e_store1 rfl (hset_self _ _ _) rfl rfl rfl (by decide) (by kernel_rfl) rfl (by kernel_rfl)) trivial (p_end (hK10 _ ?_))))); clear hK10 K10
 refine pwp_seq_plain rfl fun K11 hK11 => p_e rfl (e_lH (v := .lit _ _ _) rfl ((hset_ne (key_ne rfl)).trans ((hset_ne (key_ne rfl)).trans (hset_self _ _ _))) rfl) (p_e rfl (e_len rfl (by kernel_rfl)) (p_new rfl (e_mkI (n := xs.length) rfl rfl (by rw [List.length_map]) (by kernel_rfl) (by kernel_rfl) (by kernel_rfl) (by decide +kernel) (by omega)) trivial ?_))
 rw [show List.replicate xs.length (0 : Int) = tlP xs 0 from rfl]
 refine p_new rfl (e_alloc (cs := [.nil]) (n := 1) (by kernel_rfl) rfl (by decide)) (ob_alloc (by decide)) (p_store rfl (e_store1 rfl (hset_self _ _ _) rfl rfl rfl (by decide) (by kernel_rfl) rfl (by kernel_rfl)) trivial (p_end (hK11 _ ?_))); clear hK11 K11
 refine pwp_seq_seq (pwp_seq_plainK rfl fun hkn K12 hK12 => p_mv (v := .lit _ _ _) rfl (p_hcall rfl (backH _ _ (ordR (ndX xs))) fun v1 h1 c1 hR1 => ?_))
 obtain ⟨rfl, hbk, hfr⟩ := hR1
 have hr1 := (hfr (1, 0) (known_at hkn ((hset_ne (key_ne rfl)).trans ((hset_ne (key_ne rfl)).trans ((hset_ne (key_ne rfl)).trans ((hset_ne (key_ne rfl)).trans ((hset_ne (key_ne rfl)).trans (hset_self _ _ _)))))))).trans ((hset_ne (key_ne rfl)).trans ((hset_ne (key_ne rfl)).trans ((hset_ne (key_ne rfl)).trans ((hset_ne (key_ne rfl)).trans ((hset_ne (key_ne rfl)).trans (hset_self _ _ _))))))
 have hr7 := (hfr (7, 0) (known_at hkn ((hset_ne (key_ne rfl)).trans ((hset_ne (key_ne rfl)).trans ((hset_ne (key_ne rfl)).trans (hset_self _ _ _)))))).trans ((hset_ne (key_ne rfl)).trans ((hset_ne (key_ne rfl)).trans ((hset_ne (key_ne rfl)).trans (hset_self _ _ _))))
 have hr8 := (hfr (8, 0) (known_at hkn (hset_self _ _ _))).trans (hset_self _ _ _)
 have hr36 := (hfr (36, 0) (known_at hkn ((hset_ne (key_ne rfl)).trans ((hset_ne (key_ne rfl)).trans (hset_self _ _ _))))).trans ((hset_ne (key_ne rfl)).trans ((hset_ne (key_ne rfl)).trans (hset_self _ _ _)))
 refine p_end (hK12 _ ?_); clear hK12 K12
 refine pwp_seq_block fun K13 hK13 => ?_
 refine range_rule mixed (back_ok (1, 1) (.lit false 1 ((ordR (ndX xs)).map ci)) (ordR (ndX xs)) (by omega)) rfl (fun j h _ => CI xs j h) ?_ (fun j h c hI => hI.held) (by kernel_rfl) (by kernel_rfl) bItems_two ?_ ?_
 ·exact ⟨hr1, hr7, hr8, hr36, hbk⟩
 ·intro j row hrow h c hI
  obtain ⟨hj, rfl⟩ := bItems_of hrow
  have hq : (ordR (ndX xs)).length - 1 - j < (ordR (ndX xs)).length := by omega
  have hXr := hO.rng _ (at0_mem hq); rw [ndX_len] at hXr
  obtain ⟨X, hX⟩ : ∃ X : Nat, at0 (ordR (ndX xs)) ((ordR (ndX xs)).length - 1 - j) = (X : Int) := ⟨(at0 (ordR (ndX xs)) ((ordR (ndX xs)).length - 1 - j)).toNat, by omega⟩
  rw [hX]
  obtain ⟨x, hx, _, _⟩ := get_lt (xs := xs) (i := X) (by omega)
  have hxm := (task_ok hp hx).1.2.2
  have htb := tlP_b hp j; have htj := tlP_len (xs := xs) (j := j)
  have hul := usR_len (nd := (ndX xs)) (x := (X : Int)); rw [ndX_len] at hul
  obtain ⟨hIb, hIu, hIp, hIt, hIk⟩ := hI
  show pwp _ _ _ ⟨putR (putR _ (some 39) _) (some 40) _, _, _⟩
  rw [putR_setT, putR_setT]
  refine pwp_plain rfl fun K14 hK14 => p_aS rfl (p_end (hK14 _ ?_)); clear hK14 K14
  refine ⟨rfl, ?_⟩
  refine pwp_block (pwp_seq_seq (pwp_seq_plain rfl fun K15 hK15 => p_e rfl (e_lH (v := .lit _ _ _) rfl hIu rfl) (p_mS rfl (p_e rfl (e_ixa rfl rfl (by kernel_rfl) (by kernel_rfl) (by first | omega | (simp only [List.length_map]; omega) | (simp only [List.length_map, usL_len, ndX_len]; omega))) (p_e rfl (e_load (v := .lit _ _ _) rfl (by kernel_rfl) (by kernel_rfl) (by kernel_rfl) (by first | omega | (simp only [List.length_map]; omega) | (simp only [List.length_map, usL_len, ndX_len]; omega)) (by decide) ((cell_map (usL_getI (by rw [ndX_len]; omega)) _).trans rfl)) (p_e rfl (e_len rfl (by kernel_rfl)) ?_))))))
  refine p_mS rfl (p_end (hK15 _ ?_)); clear hK15 K15
  refine pwp_seq_block fun K16 hK16 => pwp_loopR (α := Nat) [1, 7, 8, 10, 44, 45] (fun (i : Nat) => [(46, .int (i))]) (fun (i : Nat) (h : Heap) (_ : Nat → Nat) => ((i) ≤ (usR (ndX xs) (X : Int)).length) ∧ (h (1, 1) = some (.rows 1 [[.lit false 1 ((ordR (ndX xs)).map ci)]])) ∧ (h (1, 0) = some (.rows 1 [[.lit true 6 (xs.map Task.enc)]])) ∧ (h (7, 0) = some (.rows 1 [[.lit false 1 ((usL (ndX xs)).map clf)]])) ∧ (h (8, 0) = some (.rows 1 [[.ref (36, 0) 1 0 xs.length]])) ∧ (h (36, 0) = some (.rows 1 ((stepM (tlP xs j) X ((usR (ndX xs) (X : Int)).take (i))).map ci)))) (fun (i : Nat) => (usR (ndX xs) (X : Int)).length - (i)) (0) (by exact ⟨rfl, trivial⟩) (by exact ⟨by exact Nat.zero_le _, by exact hIk, hIb, hIu, hIp, hIt⟩) fun i r17 h18 c19 hj20 => ?_
  obtain ⟨hi, hIk2, hihj20_0, hihj20_1, hihj20_2, hihj20_3⟩ := hj20
  try dsimp only at hi
  try dsimp only at hIk2
  try dsimp only at hihj20_0
  try dsimp only at hihj20_1
  try dsimp only at hihj20_2
  try dsimp only at hihj20_3
  show pwp _ _ (loopQ _ _ _) ⟨sets (mix _ _ _) [(46, .int i)], _, _⟩
  refine pwp_seq_plain rfl fun K21 hK21 => p_e rfl (e_lt rfl rfl) (p_end (hK21 _ ?_)); clear hK21 K21
  refine pwp_seq_cond rfl fun K22 hK22 => ⟨fun hb23 => ?_, fun hb23 => ?_⟩
  ·have hb23R := hb23; try simp only [zz] at hb23
   have hin : i < (usR (ndX xs) (X : Int)).length := by simp only [List.length_map] at *; omega
   obtain ⟨w, hw, hwl, _⟩ := usR_rng (at0_mem hin); rw [ndX_len] at hwl
   have hsb := stepM_b (x := X) (l := (usR (ndX xs) (X : Int)).take i) htb
   have hs1 := hsb X; have hs2 := hsb (at0 (usR (ndX xs) (X : Int)) i).toNat
   refine pwp_skip (seq_norm (hK22 _ ?_)); clear hK22 K22
   refine pwp_seq_block fun K24 hK24 => pwp_seq_plain rfl fun K25 hK25 => p_e rfl (e_ixa rfl rfl (by kernel_rfl) (by kernel_rfl) (by first | omega | (simp only [List.length_map]; omega) | (simp only [List.length_map, usL_len, ndX_len]; omega))) (p_e rfl (e_load (v := .sc _) rfl (by kernel_rfl) (by kernel_rfl) (by kernel_rfl) (by first | omega | (simp only [List.length_map]; omega) | (simp only [List.length_map, usL_len, ndX_len]; omega)) (by decide) ((cell_map (at0_get (l := (usR (ndX xs) (X : Int))) (i := i) hin) _).trans rfl)) (p_aS rfl (p_end (hK25 _ ?_)))); clear hK25 K25
   refine pwp_gops rfl fun K26 hK26 => s_begin (s_step [8] (by simp) rfl rfl rfl rfl (e_lH (v := .ref _ _ _ _) rfl hihj20_2 rfl) trivial (s_e rfl (e_move (v := .sc _) rfl) (s_step [8] (by simp) rfl rfl rfl rfl (e_lH (v := .ref _ _ _ _) rfl hihj20_2 rfl) trivial (s_e rfl (e_move (v := .sc _) rfl) (s_e rfl (e_ixaR0 rfl rfl (by kernel_rfl) (by kernel_rfl) (by omega)) (s_step [36] (by simp) rfl rfl rfl rfl (e_loadI (a := (at0 (stepM (tlP xs j) X ((usR (ndX xs) (X : Int)).take i)) X)) rfl hihj20_3 (by kernel_rfl) (by kernel_rfl) (by kernel_rfl) (at0_get (by rw [stepM_len, htj]; omega))) trivial ?_))))))
   refine s_step [8] (by simp) rfl rfl rfl rfl (e_lH (v := .ref _ _ _ _) rfl hihj20_2 rfl) trivial (s_e rfl (e_move (v := .sc _) rfl) (s_e rfl (e_ixaR0 rfl rfl (by kernel_rfl) (by kernel_rfl) (by omega)) (s_step [36] (by simp) rfl rfl rfl rfl (e_loadI (a := (at0 (stepM (tlP xs j) X ((usR (ndX xs) (X : Int)).take i)) (at0 (usR (ndX xs) (X : Int)) i).toNat)) rfl hihj20_3 (by kernel_rfl) (by kernel_rfl) (by kernel_rfl) (at0_get (by rw [stepM_len, htj]; omega))) trivial (s_e rfl (e_max rfl rfl) (s_e rfl (e_ixaR0 rfl rfl (by kernel_rfl) (by kernel_rfl) (by omega)) (s_store [36] (by simp) rfl rfl (e_storeI (zs := (stepM (tlP xs j) X ((usR (ndX xs) (X : Int)).take i))) (a := (max (at0 (stepM (tlP xs j) X ((usR (ndX xs) (X : Int)).take i)) X) (at0 (stepM (tlP xs j) X ((usR (ndX xs) (X : Int)).take i)) (at0 (usR (ndX xs) (X : Int)) i).toNat))) rfl hihj20_3 rfl (by (first | (rw [stepM_len, htj]; omega) | omega)) (by kernel_rfl) (by kernel_rfl)) trivial (s_end (ds := []) (by kernel_rfl) (by kernel_rfl) (hK26 _ ?_)))))))); clear hK26 K26
   refine block_norm (seq_norm (hK24 _ ?_)); clear hK24 K24
   refine pwp_plain rfl fun K27 hK27 => p_e rfl (e_adL rfl rfl) (p_mS rfl (p_end (hK27 _ ?_))); clear hK27 K27
   exact loop_again (i + 1) (by show _ < _; omega) ⟨rfl, rfl, rfl, rfl, rfl, rfl, trivial⟩ ⟨rfl, trivial⟩ (by exact ⟨by show _ + 1 ≤ _; omega, by exact (hset_ne (by decide)).trans hIk2, ((hset_ne (key_ne rfl)).trans hihj20_0), ((hset_ne (key_ne rfl)).trans hihj20_1), ((hset_ne (key_ne rfl)).trans hihj20_2), ((hset_self _ _ _).trans (by (rw [stepM_succ hin]; rfl)))⟩)
  have hb23R := hb23; try simp only [zz] at hb23
  have hix : i = (usR (ndX xs) (X : Int)).length := by simp only [List.length_map] at *; omega
  have hsb := stepM_b (x := X) (l := (usR (ndX xs) (X : Int)).take i) htb
  have hs1 := hsb X
  refine pwp_exit (exit_seq ?_)
  clear hK22 K22
  refine exit_loop (exit_here (seq_norm (hK16 _ ?_))); clear hK16 K16
  refine pwp_gops rfl fun K28 hK28 => s_begin (s_step [8] (by simp) rfl rfl rfl rfl (e_lH (v := .ref _ _ _ _) rfl hihj20_2 rfl) trivial (s_e rfl (e_move (v := .sc _) rfl) (s_e rfl (e_ixaR0 rfl rfl (by kernel_rfl) (by kernel_rfl) (by omega)) (s_step [36] (by simp) rfl rfl rfl rfl (e_loadI (a := (at0 (stepM (tlP xs j) X ((usR (ndX xs) (X : Int)).take i)) X)) rfl hihj20_3 (by kernel_rfl) (by kernel_rfl) (by kernel_rfl) (at0_get (by rw [stepM_len, htj]; omega))) trivial (s_step [1] (by simp) rfl rfl rfl rfl (e_lH (v := .lit _ _ _) rfl hihj20_0 rfl) trivial (s_e rfl (e_move (v := .sc _) rfl) ?_))))))
  refine s_e rfl (e_ixa rfl rfl (by kernel_rfl) (by kernel_rfl) (by first | omega | (simp only [List.length_map]; omega) | (simp only [List.length_map, usL_len, ndX_len]; omega))) (s_e rfl (e_fb pl6 rfl) (s_e rfl (e_load (v := .sc _) rfl (by kernel_rfl) (by kernel_rfl) (by kernel_rfl) (by first | omega | (simp only [List.length_map]; omega) | (simp only [List.length_map, usL_len, ndX_len]; omega)) (by decide) ((cell_map hx _).trans rfl)) (s_e rfl (e_adL rfl rfl) (s_e rfl (e_ixaR0 rfl rfl (by kernel_rfl) (by kernel_rfl) (by omega)) (s_store [36] (by simp) rfl rfl (e_storeI (zs := (stepM (tlP xs j) X ((usR (ndX xs) (X : Int)).take i))) (a := ((at0 (stepM (tlP xs j) X ((usR (ndX xs) (X : Int)).take i)) X) + x.minutes)) rfl hihj20_3 rfl (by (first | (rw [stepM_len, htj]; omega) | omega)) (by kernel_rfl) (by kernel_rfl)) trivial (s_end (ds := []) (by kernel_rfl) (by kernel_rfl) (hK28 _ ?_))))))); clear hK28 K28
  refine block_norm (⟨rfl, ?_⟩)
  show CI xs (j + 1) (hset _ _ _)
  exact ⟨((hset_ne (key_ne rfl)).trans hihj20_0), ((hset_ne (key_ne rfl)).trans hihj20_1), ((hset_ne (key_ne rfl)).trans hihj20_2), (hset_self _ _ _).trans (congrArg (fun l => some (PObj.rows 1 (l.map ci))) (tl_next hX hix hx)), ((hset_ne (key_ne rfl)).trans hIk2)⟩
 intro h c hI
 rw [bItems_len] at hI
 obtain ⟨hIb, hIu, hIp, hIt, hIk⟩ := hI
 replace hIt : h (36, 0) = some (.rows 1 ((TL xs).map ci)) := hIt
 refine block_norm (seq_norm (hK13 _ ?_)); clear hK13 K13
 refine pwp_seq_plain rfl fun K29 hK29 => p_e rfl (e_lH (v := .ref _ _ _ _) rfl hIp rfl) (p_call rfl (.cons (inn_ref (rows := (TL xs).map ci) hIt (by first | (simp; done) | (simp only [List.length_map]; omega)) rfl (by exact pure_map ci_pure)) .nil) (MaxC _ (by rw [htl]; omega) (by rw [htl]; omega)) (p_aS rfl (p_end (hK29 _ ?_)))); clear hK29 K29
 refine pwp_seq_plain rfl fun K30 hK30 => p_e rfl (e_lH (v := .ref _ _ _ _) rfl hIp rfl) (p_mS rfl (p_call rfl (.cons (inn_ref (rows := (TL xs).map ci) hIt (by first | (simp; done) | (simp only [List.length_map]; omega)) rfl (by exact pure_map ci_pure)) (.cons inn_sc .nil)) (IndexSt xs (by rw [htl]; omega)) (p_aS rfl (p_end (hK30 _ ?_))))); clear hK30 K30
 obtain ⟨hst1, hst2⟩ := stX_ok hTF (by omega)
 obtain ⟨q0, hq0, hq0e⟩ : ∃ q, q < (ordR (ndX xs)).length ∧ at0 (ordR (ndX xs)) q = stX xs := (by have h1 := hO.all (i := (stX xs).toNat) (by rw [ndX_len]; exact hfl) (by rw [ndX_len]; omega); rw [Int.toNat_of_nonneg hst1.1] at h1; exact mem_at0 h1)
 have hce := ch_ex hTF hO hfl _ q0 hq0 (Nat.le_refl _); rw [hq0e] at hce
 refine pwp_seq_plain rfl fun K31 hK31 => p_mS rfl (p_new rfl (e_bslice (rows := [ci (stX xs)]) (zs := [.int 0]) (sz := 1) (by kernel_rfl) (by kernel_rfl) rfl (by kernel_rfl) (by decide) rfl rfl (by exact ⟨by decide, rfl, rfl, trivial⟩) rfl) trivial (p_as (v := .ref _ _ _ _) rfl (p_end (hK31 _ ?_)))); clear hK31 K31
 refine pwp_seq_seq ?_
 obtain ⟨x0, hx0, _, _⟩ := get_lt (xs := xs) (i := (stX xs).toNat) (by omega)
 have hx0m := (task_ok hp hx0).1.2.2
 have hl0q := lft_eq (d := TL xs) hx0
 rw [hst2] at hl0q
 have hTB : ∀ i, 0 ≤ at0 (TL xs) i ∧ at0 (TL xs) i ≤ 1000000 := fun i => by have h1 : 0 ≤ at0 (TL xs) i ∧ at0 (TL xs) i ≤ _ := tlP_b hp (ordR (ndX xs)).length i; omega
 have htb0 := hTB (stX xs).toNat
 rw [hst2] at htb0
 refine pwp_seq_plain rfl fun K32 hK32 => p_mS rfl (p_e rfl (e_lH (v := .lit _ _ _) rfl ((hset_ne (key_ne rfl)).trans hIb) rfl) (p_mS rfl (p_e rfl (e_ixa rfl rfl (by kernel_rfl) (by kernel_rfl) (by first | omega | (simp only [List.length_map]; omega) | (simp only [List.length_map, usL_len, ndX_len]; omega))) (p_e rfl (e_fb pl6 rfl) (p_e rfl (e_load (v := .sc _) rfl (by kernel_rfl) (by kernel_rfl) (by kernel_rfl) (by first | omega | (simp only [List.length_map]; omega) | (simp only [List.length_map, usL_len, ndX_len]; omega)) (by decide) ((cell_map hx0 _).trans rfl)) (p_e rfl (e_sub rfl rfl (by first | omega | (simp only [List.length_map] at *; omega))) ?_))))))
 refine p_aS rfl (p_end (hK32 _ ?_)); clear hK32 K32
 refine pwp_seq_block fun K33 hK33 => ?_
 rw [show maxL (TL xs) - x0.minutes = lft xs (TL xs) (at0 (ordR (ndX xs)) q0) by rw [hq0e, hl0q]]
 rw [← hq0e]
 refine pwp_loopR (α := Nat × (List Int) × PV) [1, 7, 8, 13] (fun (a34 : Nat × (List Int) × PV) => [(14, .int (at0 (ordR (ndX xs)) (a34.1))), (15, (a34.2.2)), (16, .int (lft xs (TL xs) (at0 (ordR (ndX xs)) (a34.1))))]) (fun (a34 : Nat × (List Int) × PV) (h : Heap) (_ : Nat → Nat) => ((a34.1) < (ordR (ndX xs)).length) ∧ (OutA h (a34.2.2) ((a34.2.1) ++ [(at0 (ordR (ndX xs)) (a34.1))])) ∧ (∃ l, ChC xs (TL xs) (at0 (ordR (ndX xs)) (a34.1)) l ∧ chnX xs (stX xs) = (a34.2.1) ++ l) ∧ ((a34.2.1).length ≤ (a34.1)) ∧ (h (1, 0) = some (.rows 1 [[.lit true 6 (xs.map Task.enc)]])) ∧ (h (7, 0) = some (.rows 1 [[.lit false 1 ((usL (ndX xs)).map clf)]])) ∧ (h (8, 0) = some (.rows 1 [[.ref (36, 0) 1 0 xs.length]])) ∧ (h (36, 0) = some (.rows 1 ((TL xs).map ci)))) (fun (a34 : Nat × (List Int) × PV) => (ordR (ndX xs)).length - (a34.1)) (q0, [], .ref (80, _) 1 0 1) (by exact ⟨rfl, rfl, rfl, trivial⟩) (by exact ⟨by exact hq0, by exact .inl (.inr ⟨_, rfl, (hset_self _ _ _).trans (by rw [hq0e]; rfl)⟩), by exact ⟨_, (by rw [hq0e]; exact chn_ok hce), rfl⟩, by exact Nat.zero_le _, ((hset_ne (key_ne rfl)).trans hIb), ((hset_ne (key_ne rfl)).trans hIu), ((hset_ne (key_ne rfl)).trans hIp), ((hset_ne (key_ne rfl)).trans hIt)⟩) fun a34 r35 h36 c37 hj38 => ?_
 obtain ⟨q, pre, v⟩ := a34
 obtain ⟨hq, hov, hch, hpl, hihj38_0, hihj38_1, hihj38_2, hihj38_3⟩ := hj38
 try dsimp only at hq
 try dsimp only at hov
 try dsimp only at hch
 try dsimp only at hpl
 try dsimp only at hihj38_0
 try dsimp only at hihj38_1
 try dsimp only at hihj38_2
 try dsimp only at hihj38_3
 show pwp _ _ (loopQ _ _ _) ⟨sets (mix _ _ _) [(14, .int (at0 (ordR (ndX xs)) q)), (15, v), (16, .int (lft xs (TL xs) (at0 (ordR (ndX xs)) q)))], _, _⟩
 refine pwp_seq_seq (pwp_seq_plain rfl fun K39 hK39 => p_mS rfl (p_e rfl (e_gt rfl rfl) (p_end (hK39 _ ?_)))); clear hK39 K39
 refine pwp_seq_cond rfl fun K40 hK40 => ⟨fun hb41 => ?_, fun hb41 => ?_⟩
 ·have hb41R := hb41; try simp only [zz] at hb41
  have hYr := hO.rng _ (at0_mem hq); rw [ndX_len] at hYr
  obtain ⟨l, hcl, hce⟩ := hch
  have hlf : 0 < (lft xs (TL xs) (at0 (ordR (ndX xs)) q)) := (by assumption)
  obtain ⟨Y, hY⟩ : ∃ Y : Nat, (at0 (ordR (ndX xs)) q) = (Y : Int) := ⟨(at0 (ordR (ndX xs)) q).toNat, by omega⟩
  have hnx := nxt_ok hTF (x := Y) (by omega) (by rw [← hY]; exact hlf)
  rw [← hY] at hnx
  have hul := usR_len (nd := (ndX xs)) (x := (at0 (ordR (ndX xs)) q)); rw [ndX_len] at hul
  refine pwp_skip (seq_norm (hK40 _ ?_)); clear hK40 K40
  refine pwp_seq_block fun K42 hK42 => pwp_seq_seq (pwp_seq_plain rfl fun K43 hK43 => p_e rfl (e_lH (v := .lit _ _ _) rfl hihj38_1 rfl) (p_mS rfl (p_e rfl (e_ixa rfl rfl (by kernel_rfl) (by kernel_rfl) (by first | omega | (simp only [List.length_map]; omega) | (simp only [List.length_map, usL_len, ndX_len]; omega))) (p_e rfl (e_load (v := .lit _ _ _) rfl (by kernel_rfl) (by kernel_rfl) (by kernel_rfl) (by first | omega | (simp only [List.length_map]; omega) | (simp only [List.length_map, usL_len, ndX_len]; omega)) (by decide) ((cell_map (usL_getI (by rw [ndX_len]; omega)) _).trans rfl)) (p_e rfl (e_len rfl (by kernel_rfl)) ?_)))))
  refine p_mS rfl (p_end (hK43 _ ?_)); clear hK43 K43
  refine pwp_seq_block fun K44 hK44 => pwp_loopR (α := Nat) [1, 7, 8, 13, 15, 16, 100, 101] (fun (i : Nat) => [(14, .int (at0 (ordR (ndX xs)) q)), (102, .int (i))]) (fun (i : Nat) (h : Heap) (_ : Nat → Nat) => ((i) ≤ (usR (ndX xs) (at0 (ordR (ndX xs)) q)).length) ∧ (∀ j, j < (i) → at0 (TL xs) (at0 (usR (ndX xs) (at0 (ordR (ndX xs)) q)) j).toNat ≠ (lft xs (TL xs) (at0 (ordR (ndX xs)) q))) ∧ (OutA h v (pre ++ [(at0 (ordR (ndX xs)) q)])) ∧ (h (1, 0) = some (.rows 1 [[.lit true 6 (xs.map Task.enc)]])) ∧ (h (7, 0) = some (.rows 1 [[.lit false 1 ((usL (ndX xs)).map clf)]])) ∧ (h (8, 0) = some (.rows 1 [[.ref (36, 0) 1 0 xs.length]])) ∧ (h (36, 0) = some (.rows 1 ((TL xs).map ci)))) (fun (i : Nat) => (usR (ndX xs) (at0 (ordR (ndX xs)) q)).length - (i)) (0) (by exact ⟨rfl, rfl, trivial⟩) (by exact ⟨by exact Nat.zero_le _, by exact fun j h => absurd h (Nat.not_lt_zero _), by exact hov, hihj38_0, hihj38_1, hihj38_2, hihj38_3⟩) fun i r45 h46 c47 hj48 => ?_
  obtain ⟨hi, hno, hov2, hihj48_0, hihj48_1, hihj48_2, hihj48_3⟩ := hj48
  try dsimp only at hi
  try dsimp only at hno
  try dsimp only at hov2
  try dsimp only at hihj48_0
  try dsimp only at hihj48_1
  try dsimp only at hihj48_2
  try dsimp only at hihj48_3
  show pwp _ _ (loopQ _ _ _) ⟨sets (mix _ _ _) [(14, .int (at0 (ordR (ndX xs)) q)), (102, .int i)], _, _⟩
  refine pwp_seq_plain rfl fun K49 hK49 => p_e rfl (e_lt rfl rfl) (p_end (hK49 _ ?_)); clear hK49 K49
  refine pwp_seq_cond rfl fun K50 hK50 => ⟨fun hb51 => ?_, fun hb51 => ?_⟩
  ·have hb51R := hb51; try simp only [zz] at hb51
   have hin : i < (usR (ndX xs) (at0 (ordR (ndX xs)) q)).length := by simp only [List.length_map] at *; omega
   obtain ⟨w, hw, hwl, _⟩ := usR_rng (at0_mem hin); rw [ndX_len] at hwl
   refine pwp_skip (seq_norm (hK50 _ ?_)); clear hK50 K50
   refine pwp_seq_block fun K52 hK52 => pwp_seq_plain rfl fun K53 hK53 => p_e rfl (e_ixa rfl rfl (by kernel_rfl) (by kernel_rfl) (by first | omega | (simp only [List.length_map]; omega) | (simp only [List.length_map, usL_len, ndX_len]; omega))) (p_e rfl (e_load (v := .sc _) rfl (by kernel_rfl) (by kernel_rfl) (by kernel_rfl) (by first | omega | (simp only [List.length_map]; omega) | (simp only [List.length_map, usL_len, ndX_len]; omega)) (by decide) ((cell_map (at0_get (l := (usR (ndX xs) (at0 (ordR (ndX xs)) q))) (i := i) hin) _).trans rfl)) (p_aS rfl (p_end (hK53 _ ?_)))); clear hK53 K53
   refine pwp_seq_plain rfl fun K54 hK54 => p_e rfl (e_lH (v := .ref _ _ _ _) rfl hihj48_2 rfl) (p_mS rfl (p_e rfl (e_ixaR0 rfl rfl (by kernel_rfl) (by kernel_rfl) (by omega)) (p_e rfl (e_loadI (a := (at0 (TL xs) (at0 (usR (ndX xs) (at0 (ordR (ndX xs)) q)) i).toNat)) rfl hihj48_3 (by kernel_rfl) (by kernel_rfl) (by kernel_rfl) (at0_get (by rw [htl]; omega))) (p_mS rfl (p_e rfl (e_eq rfl rfl) (p_end (hK54 _ ?_))))))); clear hK54 K54
   refine pwp_cond rfl (fun hb55 => ?_) (fun hb55 => ?_)
   ·have hb55R := hb55; try simp only [zz] at hb55
    refine pwp_seq_plain rfl fun K56 hK56 => p_mS rfl (p_aS rfl (p_end (hK56 _ ?_))); clear hK56 K56
    refine pwp_exit (exit_block (by decide) (exit_seq ?_))
    clear hK52 K52
    refine exit_loop (exit_here (seq_norm (hK44 _ ?_))); clear hK44 K44
    have hz := nxt_hit hin hno (by assumption)
    rw [hz] at hnx
    obtain ⟨r, hr1, hr2, hr3⟩ := mem_dropA.1 (us_later hO (by rw [ndX_len]; exact hfl) hq hnx.1)
    obtain ⟨x, hx, _, _⟩ := get_lt (xs := xs) (i := (at0 (usR (ndX xs) (at0 (ordR (ndX xs)) q)) i).toNat) (by omega)
    have hxm := (task_ok hp hx).1.2.2
    have hlz := lft_eq (d := TL xs) hx
    have htb := hTB (at0 (usR (ndX xs) (at0 (ordR (ndX xs)) q)) i).toNat
    have hch3 : ∃ l, ChC xs (TL xs) (at0 (ordR (ndX xs)) r) l ∧ chnX xs (stX xs) = (pre ++ [(at0 (ordR (ndX xs)) q)]) ++ l := (by rcases hcl.inv with ⟨g1, _⟩ | ⟨_, l2, rfl, g2⟩; exact absurd hlf g1; exact ⟨l2, by rw [hr3, ← hz]; exact g2, by rw [hce, List.append_assoc]; rfl⟩)
    refine pwp_plain rfl fun K57 hK57 => p_mv (v := v) rfl (p_mS rfl (p_new rfl (e_bslice (rows := [ci (at0 (usR (ndX xs) (at0 (ordR (ndX xs)) q)) i)]) (zs := [.int 0]) (sz := 1) (by kernel_rfl) (by kernel_rfl) rfl (by kernel_rfl) (by decide) rfl rfl (by exact ⟨by decide, rfl, rfl, trivial⟩) rfl) trivial (p_appO (d1 := 80) (d2 := 117) rfl rfl rfl (hov2.keep (fun g => hset_ne (key_ne rfl)) fun g => hset_ne (key_ne rfl)) (src_ref (hset_self _ _ _) rfl) (by kernel_rfl) (by simp only [List.length_append, List.length_map, List.length_nil, List.length_cons]; omega) fun v2 h2 c2 hs2 hf2 => ?_)))
    have hov3 : OutA h2 v2 (pre ++ [(at0 (ordR (ndX xs)) q)] ++ [at0 (ordR (ndX xs)) r]) := .inr (hs2.to (by rw [hr3, List.map_append (l₂ := [at0 (usR (ndX xs) (at0 (ordR (ndX xs)) q)) i])]; rfl))
    have ho58 := (hf2 (1, 0) (by decide) (by decide) (by decide)).trans ((hset_ne (key_ne rfl)).trans hihj48_0)
    have ho59 := (hf2 (7, 0) (by decide) (by decide) (by decide)).trans ((hset_ne (key_ne rfl)).trans hihj48_1)
    have ho60 := (hf2 (8, 0) (by decide) (by decide) (by decide)).trans ((hset_ne (key_ne rfl)).trans hihj48_2)
    have ho61 := (hf2 (36, 0) (by decide) (by decide) (by decide)).trans ((hset_ne (key_ne rfl)).trans hihj48_3)
    refine p_as (v := v2) rfl (p_end (hK57 _ ?_)); clear hK57 K57
    refine block_norm (seq_norm (hK42 _ ?_)); clear hK42 K42
    refine pwp_plain rfl fun K62 hK62 => p_mS rfl (p_e rfl (e_lH (v := .lit _ _ _) rfl ho58 rfl) (p_mS rfl (p_e rfl (e_ixa rfl rfl (by kernel_rfl) (by kernel_rfl) (by first | omega | (simp only [List.length_map]; omega) | (simp only [List.length_map, usL_len, ndX_len]; omega))) (p_e rfl (e_fb pl6 rfl) (p_e rfl (e_load (v := .sc _) rfl (by kernel_rfl) (by kernel_rfl) (by kernel_rfl) (by first | omega | (simp only [List.length_map]; omega) | (simp only [List.length_map, usL_len, ndX_len]; omega)) (by decide) ((cell_map hx _).trans rfl)) (p_e rfl (e_sub rfl rfl (by first | omega | (simp only [List.length_map] at *; omega))) ?_))))))
    refine p_aS rfl (p_end (hK62 _ ?_)); clear hK62 K62
    rw [show (lft xs (TL xs) (at0 (ordR (ndX xs)) q)) - x.minutes = lft xs (TL xs) (at0 (ordR (ndX xs)) r) by rw [hr3, hlz, hnx.2]]
    rw [← hr3]
    exact loop_again ((r, pre ++ [(at0 (ordR (ndX xs)) q)], v2)) (by show _ < _; simp only; omega) ⟨rfl, rfl, rfl, rfl, trivial⟩ ⟨rfl, rfl, rfl, trivial⟩ (by exact ⟨by exact hr2, by exact hov3, by exact hch3, by (simp only [List.length_append, List.length_singleton]; omega), ho58, ho59, ho60, ho61⟩)
   have hb55R := hb55; try simp only [zz] at hb55
   refine pwp_skip (block_norm (seq_norm (hK52 _ ?_))); clear hK52 K52
   refine pwp_plain rfl fun K63 hK63 => p_e rfl (e_adL rfl rfl) (p_mS rfl (p_end (hK63 _ ?_))); clear hK63 K63
   exact loop_again (i + 1) (by show _ < _; omega) ⟨rfl, rfl, rfl, rfl, rfl, rfl, rfl, rfl, trivial⟩ ⟨rfl, rfl, trivial⟩ (by exact ⟨by show _ + 1 ≤ _; omega, by exact upto_step (p := fun j => at0 (TL xs) (at0 (usR (ndX xs) (at0 (ordR (ndX xs)) q)) j).toNat ≠ (lft xs (TL xs) (at0 (ordR (ndX xs)) q))) hno (by assumption), by exact hov2, hihj48_0, hihj48_1, hihj48_2, hihj48_3⟩)
  have hb51R := hb51; try simp only [zz] at hb51
  exact (nxt_all hnx (by simp only [List.length_map] at *; omega) hno).elim
 have hb41R := hb41; try simp only [zz] at hb41
 obtain ⟨l, hcl, hce⟩ := hch
 refine pwp_exit (exit_seq ?_)
 clear hK40 K40
 refine exit_loop (exit_here (seq_norm (hK33 _ ?_))); clear hK33 K33
 refine pwp_seq_plain rfl fun K64 hK64 => p_mS rfl (p_e rfl (e_move (v := _) rfl) (p_aS rfl (p_e rfl (e_assign (v := _) rfl) (p_aS rfl (p_end (hK64 _ ?_)))))); clear hK64 K64
 refine pwp_ret (end3 (v := .sc _) (w := _) (x := .sc _) rfl rfl rfl ?_)
 exact crt_out3 hp hl0 hov hcl hce (by omega)

end Go.Proofs.Ytjmjiegplnfiiaa

/- ErectionBounds at P level. No conditions. -/
set_option linter.unusedSimpArgs false
set_option linter.unusedVariables false
set_option maxRecDepth 100000
namespace Go.Proofs.Ytjmjiegplnfiiaa
open Go Go.Pv
section
variable {xs : List Task} {c : Crew} {k : Nat} {x : Task}
theorem pl_plc (hx : xs[k]? = some x) : plc xs (k : Int) = x.place := by
 rw [plc, Int.toNat_natCast, List.getD_eq_getElem?_getD, hx]; rfl
theorem pl_t (hx : xs[k]? = some x) (h : hasI (plL xs k) x.place = true) : (plL xs k).map ci = (plL xs (k + 1)).map ci := by
 rw [plL, pl_plc hx, if_pos h]
theorem pl_f (hx : xs[k]? = some x) (h : hasI (plL xs k) x.place = false) : (plL xs k).map ci ++ [ci x.place] = (plL xs (k + 1)).map ci := by
 rw [plL, pl_plc hx, if_neg (by rw [h]; decide), List.map_append]; rfl
theorem few_all (hp : planE xs = 0) (hn : xs.length ≤ 14) : ((fewR xs).2.2 = 0 ∧ (fewR xs).1.length ≤ 30) ∧ ((acpX xs (fewR xs).1).1 = -1 ∧ (acpX xs (fewR xs).1).2 = 0) ∧ ((hndX xs (fewR xs).1).2 = 0 ∧ (hndX xs (fewR xs).1).1 = (fewR xs).2.1) ∧ ((plL xs xs.length).length : Int) ≤ (fewR xs).2.1 + 1 := by
 obtain ⟨h1, h2, h3, h4⟩ := few_order hp hn
 have h5 := acc_fullX h2 h3
 have h6 := few_places h2 h3
 rw [h1]
 dsimp only
 rw [acp_0 hp, h5, hnd_0 (by rw [acp_0 hp, h5]), h4]
 exact ⟨⟨rfl, by omega⟩, ⟨rfl, rfl⟩, ⟨rfl, rfl⟩, h6⟩
theorem bd_e (h : (schP xs c).2 ≠ 0) : decide (((((schP xs c).1.map Slot.enc).length : Nat) : Int) = 0) = true := by
 by_cases h1 : planE xs = 0
 · by_cases h2 : crewE c = 0
   · cases h3 : schO xs c with
     | none => rw [schP_n h1 h2 h3]; rfl
     | some D => rw [schP_s h1 h2 h3] at h; exact absurd rfl h
   · rw [schP_c h1 h2]; rfl
 · rw [schP_p h1]; rfl
theorem bd_all (hp : planE xs = 0) (hxl : xs.length ≤ 20) (he : (schP xs c).2 = 0) : schE xs c (schP xs c).1 = 0 ∧ (endsX xs (schP xs c).1).2 = 0 ∧ (crtX xs).2.2 = 0 ∧ (crtX xs).1 ≤ (endsX xs (schP xs c).1).1 ∧ (∀ y ∈ (schP xs c).1, y.ok) ∧ (schP xs c).1.length = xs.length := by
 by_cases h2 : crewE c = 0
 · cases h3 : schO xs c with
   | none => rw [schP_n hp h2 h3] at he; cases he
   | some D =>
     have hO := ordR_acc (nd := ndX xs)
     have hl : xs.length ≤ (ordR (ndX xs)).length := by have := planE_len hp; rw [ndX_len] at this; omega
     have hF := sch_SF (sch_SK h3) hO hl
     obtain ⟨E, g1, g2, g3⟩ := end_long hp hF h2 hO hl
     rw [schP_s hp h2 h3]
     dsimp only
     have hco := crew_ok h2
     refine ⟨by rw [schE, if_neg (fun q => q hp)]; exact sch_right hp hF h2, by rw [g1], ?_, ?_, fun y hy => ?_, SLx_len⟩
     · rw [crtX, if_neg (fun q => q hp)]; split <;> rfl
     · rw [g1, crtX, if_neg (fun q => q hp)]
       split
       · exact g3
       · rename_i hz; exact g2 hz
     · obtain ⟨i, hi⟩ := List.getElem?_of_mem hy
       have h4 := (List.getElem?_eq_some_iff.1 hi).1
       rw [SLx_len] at h4
       rw [SLx_at h4] at hi
       rw [← Option.some.inj hi]
       have t1 : (slA D (i : Int)).task = (i : Int) := hF.task i h4
       have t2 : 0 ≤ (slA D (i : Int)).gang ∧ (slA D (i : Int)).gang < c.gangs.length := hF.gang i h4
       obtain ⟨s1, s2, s3⟩ := hF.inn i h4
       obtain ⟨g, hg, hgx⟩ := gng_of (c := c) (x := slA D (i : Int)) (by omega)
       have hgr := hco.2.1 g (List.mem_of_getElem? hg)
       unfold grng at hgr
       have hmin : 0 ≤ (tsk xs (slA D (i : Int))).minutes := (minA_b hp _).1
       have s2' : (gng c (slA D (i : Int))).fro ≤ (slA D (i : Int)).start := s2
       have s3' : (slA D (i : Int)).start + (tsk xs (slA D (i : Int))).minutes ≤ (gng c (slA D (i : Int))).til := s3
       rw [hgx] at s2' s3'
       exact ⟨by rw [t1]; exact ⟨by omega, by omega⟩, ⟨by omega, by omega⟩, ⟨by omega, by omega⟩⟩
 · rw [schP_c hp h2] at he; exact absurd he h2
end

theorem fr13 : (inFrame Try.f13.ntmps (Try.f13.body.getD .skip) && Try.f13.results.toList.all (resScope Try.f13.ntmps)) = true := by kernel_rfl
theorem hBounds (xs : List Task) (c : Crew) (hl : xs.length ≤ 9223372036854775807) (h1 : c.gangs.length ≤ 9223372036854775807) (h2 : c.closed.length ≤ 9223372036854775807) (h3 : ∀ g ∈ c.gangs, g.trades.length ≤ 9223372036854775807) : PCalls Try.prog 13 [.lit true 6 (xs.map Task.enc), .agg c.enc] (.bool true) := by
 refine PCalls.of_code Try.func13 rfl rfl (by kernel_rfl) mixed fr13 (by show _ ≤ 140; simp) (.sc _) (pwp_seq_plain rfl fun K1 hK1 => p_new rfl (e_box (n := 2) rfl rfl) ⟨rfl, by decide⟩ (p_aS rfl (p_end (hK1 _ ?_)))); clear hK1 K1
 refine pwp_seq_seq (pwp_seq_plain rfl fun K2 hK2 => p_call rfl .nil (awake) (p_e rfl (e_not rfl) (p_end (hK2 _ ?_)))); clear hK2 K2
 refine pwp_seq_cond (t := false) rfl fun K3 hK3 => ⟨nofun, fun _ => ?_⟩
 refine pwp_skip (seq_norm (hK3 _ ?_)); clear hK3 K3
 refine pwp_seq_seq (pwp_seq_gops rfl fun K4 hK4 => g_begin (g_e rfl (e_move (v := .lit _ _ _) rfl) (g_call rfl rfl rfl rfl (.cons inn_lit (.cons inn_sc .nil)) (FewC _ _ (by omega)) (g_e rfl (e_not rfl) (g_mS rfl rfl ?_)))))
 refine g_cases (fun hb5 => ?_) (fun hb5 => ?_)
 ·have hb5R := hb5; try simp only [zz] at hb5
  refine g_skip rfl rfl rfl (g_nocall rfl rfl rfl (g_skip rfl rfl rfl (g_pT rfl rfl rfl (g_mS rfl rfl (g_skip rfl rfl rfl (g_nocall rfl rfl rfl (g_skip rfl rfl rfl ?_)))))))
  refine g_pT rfl rfl rfl (g_end (ds := [24, 25, 26, 29, 30, 31]) rfl rfl (hK4 _ ?_)); clear hK4 K4
  refine pwp_seq_cond (t := true) rfl fun K6 hK6 => ⟨fun _ => ?_, nofun⟩
  refine pwp_seq_plain rfl fun K7 hK7 => p_aS rfl (p_end (hK7 _ ?_)); clear hK7 K7
  refine pwp_ret (ret_seq (end1 (v := .sc _) rfl ?_))
  exact out_b rfl
 have hb5R := hb5; try simp only [zz] at hb5
 refine g_e rfl (e_loadHA (n := 2) rfl (hset_self _ _ _) (by kernel_rfl) (by kernel_rfl) (by kernel_rfl) (by exact Nat.zero_lt_one) (by decide) rfl) (g_call rfl rfl rfl rfl (.cons (inn_agg (Crew.pure _)) .nil) (briefC c h1 h2 h3) (g_e rfl (e_not rfl) (g_pF rfl rfl rfl (g_mS rfl rfl ?_))))
 refine g_cases (fun hb8 => ?_) (fun hb8 => ?_)
 ·have hb8R := hb8; try simp only [zz] at hb8
  refine g_skip rfl rfl rfl (g_nocall rfl rfl rfl (g_skip rfl rfl rfl (g_pT rfl rfl rfl (g_end (ds := [24, 25, 26, 29, 30, 31]) rfl rfl (hK4 _ ?_))))); clear hK4 K4
  refine pwp_seq_cond (t := true) rfl fun K9 hK9 => ⟨fun _ => ?_, nofun⟩
  refine pwp_seq_plain rfl fun K10 hK10 => p_aS rfl (p_end (hK10 _ ?_)); clear hK10 K10
  refine pwp_ret (ret_seq (end1 (v := .sc _) rfl ?_))
  exact out_b rfl
 have hb8R := hb8; try simp only [zz] at hb8
 refine g_e rfl (e_move (v := .lit _ _ _) rfl) (g_call rfl rfl rfl rfl (.cons inn_lit .nil) (refCheckC _ (by have := (few_fair (n := 8) (by assumption)).1; omega) (few_fair (n := 8) (by assumption)).2) (g_e rfl (e_ne rfl rfl) (g_pF rfl rfl rfl (g_end (ds := [24, 25, 26, 29, 30, 31]) rfl rfl (hK4 _ ?_))))); clear hK4 K4
 refine pwp_seq_cond rfl fun K11 hK11 => ⟨fun hb12 => ?_, fun hb12 => ?_⟩
 ·have hb12R := hb12; try simp only [zz] at hb12
  refine pwp_seq_plain rfl fun K13 hK13 => p_aS rfl (p_end (hK13 _ ?_)); clear hK13 K13
  refine pwp_ret (ret_seq (end1 (v := .sc _) rfl ?_))
  exact out_b rfl
 have hb12R := hb12; try simp only [zz] at hb12
 refine pwp_skip (seq_norm (hK11 _ ?_)); clear hK11 K11
 have hfw := few_fair (by assumption)
 have hbr := brief_iff.1 (by assumption)
 have hp : planE xs = 0 := (by assumption)
 refine pwp_seq_plain rfl fun K14 hK14 => p_e rfl (e_assign (v := .nil) rfl) (p_end (hK14 _ ?_)); clear hK14 K14
 refine pwp_seq_seq (pwp_seq_plain rfl fun K15 hK15 => p_aS rfl (p_end (hK15 _ ?_))); clear hK15 K15
 refine pwp_seq_block fun K16 hK16 => pwp_loopR (α := Nat × PV) [0, 3] (fun (a17 : Nat × PV) => [(5, (a17.2)), (6, .int (a17.1))]) (fun (a17 : Nat × PV) (h : Heap) (_ : Nat → Nat) => ((a17.1) ≤ xs.length) ∧ (SliceAt h 54 (a17.2) 1 ((plL xs (a17.1)).map ci)) ∧ (h (3, 0) = some (.rows 2 [Crew.enc c]))) (fun (a17 : Nat × PV) => xs.length - (a17.1)) (0, .nil) (by exact ⟨rfl, rfl, trivial⟩) (by exact ⟨by exact Nat.zero_le _, .nil, (hset_self _ _ _)⟩) fun a17 r18 h19 c20 hj21 => ?_
 obtain ⟨k, v⟩ := a17
 obtain ⟨hk, hihj21_0, hihj21_1⟩ := hj21
 try dsimp only at hk
 try dsimp only at hihj21_0
 try dsimp only at hihj21_1
 show pwp _ _ (loopQ _ _ _) ⟨sets (mix _ _ _) [(5, v), (6, .int k)], _, _⟩
 refine pwp_seq_seq (pwp_seq_plain rfl fun K22 hK22 => p_mS rfl (p_e rfl (e_move (v := .lit _ _ _) rfl) (p_e rfl (e_len rfl (by kernel_rfl)) (p_e rfl (e_lt rfl rfl) (p_end (hK22 _ ?_)))))); clear hK22 K22
 refine pwp_seq_cond rfl fun K23 hK23 => ⟨fun hb24 => ?_, fun hb24 => ?_⟩
 ·have hb24R := hb24; try simp only [zz] at hb24
  obtain ⟨x, hx, hd, ht⟩ := get_lt (xs := xs) (i := k) (by omega)
  have hplk := (plL_ok (xs := xs) k).2.1
  refine pwp_skip (seq_norm (hK23 _ ?_)); clear hK23 K23
  refine pwp_seq_block fun K25 hK25 => pwp_seq_plain rfl fun K26 hK26 => p_e rfl (e_move (v := _) rfl) (p_e rfl (e_move (v := .lit _ _ _) rfl) (p_mS rfl (p_e rfl (e_ixL rfl rfl) (p_e rfl (e_fb pl6 rfl) (p_e rfl (e_load (v := .sc _) rfl (by kernel_rfl) (by kernel_rfl) (by kernel_rfl) (by first | omega | (simp only [List.length_map]; omega)) (by decide) ((cell_map hx _).trans rfl)) ?_)))))
  refine p_call rfl (.cons (SliceAt.inn (rows' := ((plL xs k)).map ci) hihj21_0 (by simp) (by first | exact pure_map ci_pure | (simp only [← List.map_append, List.nil_append]; exact pure_map ci_pure))) (.cons inn_sc .nil)) (HasC _ _ (by have := (plL_ok (xs := xs) k).2.1; omega)) (p_e rfl (e_not rfl) (p_end (hK26 _ ?_))); clear hK26 K26
  refine pwp_cond rfl (fun hb27 => ?_) (fun hb27 => ?_)
  ·have hb27R := hb27; try simp only [zz] at hb27
   refine pwp_plain rfl fun K28 hK28 => p_e rfl (e_move (v := _) rfl) (p_e rfl (e_move (v := .lit _ _ _) rfl) (p_mS rfl (p_e rfl (e_ixL rfl rfl) (p_e rfl (e_fb pl6 rfl) (p_e rfl (e_load (v := .sc _) rfl (by kernel_rfl) (by kernel_rfl) (by kernel_rfl) (by first | omega | (simp only [List.length_map]; omega)) (by decide) ((cell_map hx _).trans rfl)) (p_new rfl (e_bslice (rows := [ci x.place]) (zs := [.int 0]) (sz := 1) (by kernel_rfl) (by kernel_rfl) rfl (by kernel_rfl) (by decide) rfl rfl (by exact ⟨by decide, rfl, rfl, trivial⟩) rfl) trivial ?_))))))
   refine p_app rfl rfl rfl (hihj21_0.keep fun _ => (hset_ne (key_ne rfl)).trans (rfl)) (src_ref (hset_self _ _ _) rfl) (by kernel_rfl) (by simp only [List.length_append, List.length_map, List.length_nil, List.length_cons]; omega) fun v29 h30 c31 hs32 hf33 => ?_
   have ho34 := (hf33 (3, _) (key_ne rfl) (fun _ _ => key_ne rfl)).trans ((hset_ne (key_ne rfl)).trans hihj21_1)
   have ho35 := (hf33 (53, _) (key_ne rfl) (fun _ _ => key_ne rfl)).trans (hset_self _ _ _)
   refine p_e rfl (e_assign (v := _) rfl) (p_end (hK28 _ ?_)); clear hK28 K28
   refine block_norm (seq_norm (hK25 _ ?_)); clear hK25 K25
   refine pwp_plain rfl fun K36 hK36 => p_mS rfl (p_e rfl (e_adL rfl rfl) (p_aS rfl (p_end (hK36 _ ?_)))); clear hK36 K36
   exact loop_again ((k + 1, v29)) (by show _ < _; simp only; omega) ⟨rfl, rfl, trivial⟩ ⟨rfl, rfl, trivial⟩ (by exact ⟨by show _ + 1 ≤ _; simp only [List.length_map] at *; omega, (SliceAt.to hs32 (by (first | exact pl_t hx (by assumption) | exact pl_f hx (by assumption)))), ho34⟩)
  have hb27R := hb27; try simp only [zz] at hb27
  refine pwp_skip (block_norm (seq_norm (hK25 _ ?_))); clear hK25 K25
  refine pwp_plain rfl fun K37 hK37 => p_mS rfl (p_e rfl (e_adL rfl rfl) (p_aS rfl (p_end (hK37 _ ?_)))); clear hK37 K37
  exact loop_again ((k + 1, v)) (by show _ < _; simp only; omega) ⟨rfl, rfl, trivial⟩ ⟨rfl, rfl, trivial⟩ (by exact ⟨by show _ + 1 ≤ _; simp only [List.length_map] at *; omega, (SliceAt.to hihj21_0 (by (first | exact pl_t hx (by assumption) | exact pl_f hx (by assumption)))), hihj21_1⟩)
 have hb24R := hb24; try simp only [zz] at hb24
 have hkx : k = xs.length := by simp only [List.length_map] at *; omega
 refine pwp_exit (exit_seq ?_)
 clear hK23 K23
 refine exit_loop (exit_here (seq_norm (hK16 _ ?_))); clear hK16 K16
 subst hkx
 have hplx := (plL_ok (xs := xs) xs.length).2.1
 have hfa := few_all hp (by omega)
 obtain ⟨⟨hf1, hf1l⟩, ⟨hf2, hf3⟩, ⟨hf4, hf5⟩, hf6⟩ := few_all hp (by omega)
 refine pwp_seq_plain rfl fun K38 hK38 => p_e rfl (e_move (v := .lit _ _ _) rfl) (p_call rfl (.cons inn_lit .nil) (FewestC xs (by omega) hfw.2 (.inl (by omega))) (p_e rfl (e_move (v := .tup _) rfl) (p_e rfl (e_ext (v := .lit _ _ _) rfl (by simp) rfl) (p_e rfl (e_ext (v := .sc _) rfl (by simp) rfl) (p_e rfl (e_ext (v := .sc _) rfl (by simp) rfl) (p_e rfl (e_assign (v := .lit _ _ _) rfl) ?_))))))
 refine p_aS rfl (p_aS rfl (p_end (hK38 _ ?_))); clear hK38 K38
 refine pwp_seq_plain rfl fun K39 hK39 => p_e rfl (e_move (v := .lit _ _ _) rfl) (p_e rfl (e_move (v := .lit _ _ _) rfl) (p_call rfl (.cons inn_lit (.cons inn_lit .nil)) (AcceptX xs _ ⟨by omega, hfw.2⟩ hfa.1.2) (p_e rfl (e_move (v := .tup _) rfl) (p_e rfl (e_ext (v := .sc _) rfl (by simp) rfl) (p_e rfl (e_ext (v := .sc _) rfl (by simp) rfl) (p_aS rfl ?_))))))
 refine p_aS rfl (p_end (hK39 _ ?_)); clear hK39 K39
 refine pwp_seq_plain rfl fun K40 hK40 => p_e rfl (e_move (v := .lit _ _ _) rfl) (p_e rfl (e_move (v := .lit _ _ _) rfl) (p_call rfl (.cons inn_lit (.cons inn_lit .nil)) (HandlingsX xs _ ⟨by omega, hfw.2⟩ hfa.1.2) (p_e rfl (e_move (v := .tup _) rfl) (p_e rfl (e_ext (v := .sc _) rfl (by simp) rfl) (p_e rfl (e_ext (v := .sc _) rfl (by simp) rfl) (p_aS rfl ?_))))))
 refine p_aS rfl (p_end (hK40 _ ?_)); clear hK40 K40
 refine pwp_seq_seq (pwp_seq_gops rfl fun K41 hK41 => g_begin (g_mS rfl rfl (g_e rfl (e_ne rfl rfl) (g_mS rfl rfl ?_))))
 refine g_cases (fun hb42 => ?_) (fun hb42 => ?_)
 ·have hb42R := hb42; try simp only [zz] at hb42
  iterate 2 refine g_skip rfl rfl rfl ?_
  refine g_pT rfl rfl rfl (g_mS rfl rfl ?_)
  iterate 2 refine g_skip rfl rfl rfl ?_
  refine g_pT rfl rfl rfl (g_mS rfl rfl ?_)
  iterate 2 refine g_skip rfl rfl rfl ?_
  refine g_pT rfl rfl rfl (g_mS rfl rfl ?_)
  iterate 3 refine g_skip rfl rfl rfl ?_
  refine g_pT rfl rfl rfl (g_mS rfl rfl ?_)
  iterate 5 refine g_skip rfl rfl rfl ?_
  refine g_pT rfl rfl rfl (g_end (ds := [76, 77, 80, 81, 84, 85, 88, 89, 90, 93, 94, 95, 96, 97]) rfl rfl (hK41 _ ?_)); clear hK41 K41
  refine pwp_seq_cond (t := true) rfl fun K43 hK43 => ⟨fun _ => ?_, nofun⟩
  refine pwp_seq_plain rfl fun K44 hK44 => p_aS rfl (p_end (hK44 _ ?_)); clear hK44 K44
  refine pwp_ret (ret_seq (end1 (v := .sc _) rfl ?_))
  (exfalso; omega)
 have hb42R := hb42; try simp only [zz] at hb42
 refine g_mS rfl rfl (g_e rfl (e_ne rfl rfl) (g_pF rfl rfl rfl (g_mS rfl rfl ?_)))
 refine g_cases (fun hb45 => ?_) (fun hb45 => ?_)
 ·have hb45R := hb45; try simp only [zz] at hb45
  iterate 2 refine g_skip rfl rfl rfl ?_
  refine g_pT rfl rfl rfl (g_mS rfl rfl ?_)
  iterate 2 refine g_skip rfl rfl rfl ?_
  refine g_pT rfl rfl rfl (g_mS rfl rfl ?_)
  iterate 3 refine g_skip rfl rfl rfl ?_
  refine g_pT rfl rfl rfl (g_mS rfl rfl ?_)
  iterate 5 refine g_skip rfl rfl rfl ?_
  refine g_pT rfl rfl rfl (g_end (ds := [76, 77, 80, 81, 84, 85, 88, 89, 90, 93, 94, 95, 96, 97]) rfl rfl (hK41 _ ?_)); clear hK41 K41
  refine pwp_seq_cond (t := true) rfl fun K46 hK46 => ⟨fun _ => ?_, nofun⟩
  refine pwp_seq_plain rfl fun K47 hK47 => p_aS rfl (p_end (hK47 _ ?_)); clear hK47 K47
  refine pwp_ret (ret_seq (end1 (v := .sc _) rfl ?_))
  (exfalso; omega)
 have hb45R := hb45; try simp only [zz] at hb45
 refine g_mS rfl rfl (g_e rfl (e_ne rfl rfl) (g_pF rfl rfl rfl (g_mS rfl rfl ?_)))
 refine g_cases (fun hb48 => ?_) (fun hb48 => ?_)
 ·have hb48R := hb48; try simp only [zz] at hb48
  iterate 2 refine g_skip rfl rfl rfl ?_
  refine g_pT rfl rfl rfl (g_mS rfl rfl ?_)
  iterate 3 refine g_skip rfl rfl rfl ?_
  refine g_pT rfl rfl rfl (g_mS rfl rfl ?_)
  iterate 5 refine g_skip rfl rfl rfl ?_
  refine g_pT rfl rfl rfl (g_end (ds := [76, 77, 80, 81, 84, 85, 88, 89, 90, 93, 94, 95, 96, 97]) rfl rfl (hK41 _ ?_)); clear hK41 K41
  refine pwp_seq_cond (t := true) rfl fun K49 hK49 => ⟨fun _ => ?_, nofun⟩
  refine pwp_seq_plain rfl fun K50 hK50 => p_aS rfl (p_end (hK50 _ ?_)); clear hK50 K50
  refine pwp_ret (ret_seq (end1 (v := .sc _) rfl ?_))
  (exfalso; omega)
 have hb48R := hb48; try simp only [zz] at hb48
 refine g_mS rfl rfl (g_e rfl (e_ne rfl rfl) (g_pF rfl rfl rfl (g_mS rfl rfl ?_)))
 refine g_cases (fun hb51 => ?_) (fun hb51 => ?_)
 ·have hb51R := hb51; try simp only [zz] at hb51
  iterate 3 refine g_skip rfl rfl rfl ?_
  refine g_pT rfl rfl rfl (g_mS rfl rfl ?_)
  iterate 5 refine g_skip rfl rfl rfl ?_
  refine g_pT rfl rfl rfl (g_end (ds := [76, 77, 80, 81, 84, 85, 88, 89, 90, 93, 94, 95, 96, 97]) rfl rfl (hK41 _ ?_)); clear hK41 K41
  refine pwp_seq_cond (t := true) rfl fun K52 hK52 => ⟨fun _ => ?_, nofun⟩
  refine pwp_seq_plain rfl fun K53 hK53 => p_aS rfl (p_end (hK53 _ ?_)); clear hK53 K53
  refine pwp_ret (ret_seq (end1 (v := .sc _) rfl ?_))
  (exfalso; omega)
 have hb51R := hb51; try simp only [zz] at hb51
 refine g_mS rfl rfl (g_mS rfl rfl (g_e rfl (e_ne rfl rfl) (g_pF rfl rfl rfl (g_mS rfl rfl ?_))))
 refine g_cases (fun hb54 => ?_) (fun hb54 => ?_)
 ·have hb54R := hb54; try simp only [zz] at hb54
  iterate 5 refine g_skip rfl rfl rfl ?_
  refine g_pT rfl rfl rfl (g_end (ds := [76, 77, 80, 81, 84, 85, 88, 89, 90, 93, 94, 95, 96, 97]) rfl rfl (hK41 _ ?_)); clear hK41 K41
  refine pwp_seq_cond (t := true) rfl fun K55 hK55 => ⟨fun _ => ?_, nofun⟩
  refine pwp_seq_plain rfl fun K56 hK56 => p_aS rfl (p_end (hK56 _ ?_)); clear hK56 K56
  refine pwp_ret (ret_seq (end1 (v := .sc _) rfl ?_))
  (exfalso; omega)
 have hb54R := hb54; try simp only [zz] at hb54
 refine g_mS rfl rfl (g_e rfl (e_move (v := _) rfl) (g_e rfl (SliceAt.len hihj21_0 rfl (by kernel_rfl)) (g_e rfl (e_sub rfl rfl (by first | omega | (simp only [List.length_map] at *; omega))) (g_e rfl (e_lt rfl rfl) (g_pF rfl rfl rfl (g_end (ds := [76, 77, 80, 81, 84, 85, 88, 89, 90, 93, 94, 95, 96, 97]) rfl rfl (hK41 _ ?_))))))); clear hK41 K41
 refine pwp_seq_cond rfl fun K57 hK57 => ⟨fun hb58 => ?_, fun hb58 => ?_⟩
 ·have hb58R := hb58; try simp only [zz] at hb58
  refine pwp_seq_plain rfl fun K59 hK59 => p_aS rfl (p_end (hK59 _ ?_)); clear hK59 K59
  refine pwp_ret (ret_seq (end1 (v := .sc _) rfl ?_))
  (exfalso; omega)
 have hb58R := hb58; try simp only [zz] at hb58
 refine pwp_skip (seq_norm (hK57 _ ?_)); clear hK57 K57
 refine pwp_seq_plain rfl fun K60 hK60 => p_e rfl (e_move (v := .lit _ _ _) rfl) (p_e rfl (e_loadHA (n := 2) rfl hihj21_1 (by kernel_rfl) (by kernel_rfl) (by kernel_rfl) (by exact Nat.zero_lt_one) (by decide) rfl) (p_call rfl (.cons inn_lit (.cons (inn_agg (Crew.pure _)) .nil)) (ScheduleC xs c hfw.2 (by omega) hbr.1 hbr.2.1 hbr.2.2) (p_e rfl (e_move (v := .tup _) rfl) (p_e rfl (e_ext (v := .lit _ _ _) rfl (by simp) rfl) (p_e rfl (e_ext (v := .sc _) rfl (by simp) rfl) (p_e rfl (e_assign (v := .lit _ _ _) rfl) ?_))))))
 refine p_aS rfl (p_end (hK60 _ ?_)); clear hK60 K60
 refine pwp_seq_seq (pwp_seq_plain rfl fun K61 hK61 => p_mS rfl (p_e rfl (e_ne rfl rfl) (p_end (hK61 _ ?_)))); clear hK61 K61
 refine pwp_seq_cond rfl fun K62 hK62 => ⟨fun hb63 => ?_, fun hb63 => ?_⟩
 ·have hb63R := hb63; try simp only [zz] at hb63
  refine pwp_seq_plain rfl fun K64 hK64 => p_e rfl (e_move (v := .lit _ _ _) rfl) (p_e rfl (e_len rfl (by kernel_rfl)) (p_e rfl (e_eq rfl rfl) (p_aS rfl (p_end (hK64 _ ?_))))); clear hK64 K64
  refine pwp_ret (ret_seq (end1 (v := .sc _) rfl ?_))
  exact out_b (bd_e (by assumption))
 have hb63R := hb63; try simp only [zz] at hb63
 refine pwp_skip (seq_norm (hK62 _ ?_)); clear hK62 K62
 obtain ⟨hb1, hb2, hb3, hb4, hb5, hb6⟩ := bd_all hp (by omega) (by assumption)
 refine pwp_seq_plain rfl fun K65 hK65 => p_e rfl (e_move (v := .lit _ _ _) rfl) (p_e rfl (e_move (v := .lit _ _ _) rfl) (p_call rfl (.cons inn_lit (.cons inn_lit .nil)) (EndsC xs _ ⟨by omega, hfw.2⟩ (by omega)) (p_e rfl (e_move (v := .tup _) rfl) (p_e rfl (e_ext (v := .sc _) rfl (by simp) rfl) (p_e rfl (e_ext (v := .sc _) rfl (by simp) rfl) (p_aS rfl ?_))))))
 refine p_aS rfl (p_end (hK65 _ ?_)); clear hK65 K65
 refine pwp_seq_plain rfl fun K66 hK66 => p_e rfl (e_move (v := .lit _ _ _) rfl) (p_call rfl (.cons inn_lit .nil) (CriticalC xs (by omega) hfw.2) (p_e rfl (e_move (v := .tup _) rfl) (p_e rfl (e_ext (v := .sc _) rfl (by simp) rfl) (p_e rfl (e_ext (v := .lit _ _ _) rfl (by simp) rfl) (p_e rfl (e_ext (v := .sc _) rfl (by simp) rfl) (p_aS rfl ?_))))))
 refine p_e rfl (e_assign (v := .lit _ _ _) rfl) (p_aS rfl (p_end (hK66 _ ?_))); clear hK66 K66
 refine pwp_seq_gops rfl fun K67 hK67 => g_begin (g_e rfl (e_move (v := .lit _ _ _) rfl) (g_e rfl (e_loadHA (n := 2) rfl hihj21_1 (by kernel_rfl) (by kernel_rfl) (by kernel_rfl) (by exact Nat.zero_lt_one) (by decide) rfl) (g_e rfl (e_move (v := .lit _ _ _) rfl) (g_call rfl rfl rfl rfl (.cons inn_lit (.cons (inn_agg (Crew.pure _)) (.cons inn_lit .nil))) (SchC _ _ _ hfw.2 (by omega) hbr.1 hbr.2.1 hbr.2.2 (by omega) hb5) (g_e rfl (e_eq rfl rfl) (g_mS rfl rfl ?_))))))
 refine g_cases (fun hb68 => ?_) (fun hb68 => ?_)
 ·have hb68R := hb68; try simp only [zz] at hb68
  refine g_mS rfl rfl (g_e rfl (e_eq rfl rfl) (g_pT rfl rfl rfl (g_mS rfl rfl ?_)))
  refine g_cases (fun hb69 => ?_) (fun hb69 => ?_)
  ·have hb69R := hb69; try simp only [zz] at hb69
   refine g_mS rfl rfl (g_e rfl (e_eq rfl rfl) (g_pT rfl rfl rfl (g_mS rfl rfl ?_)))
   refine g_cases (fun hb70 => ?_) (fun hb70 => ?_)
   ·have hb70R := hb70; try simp only [zz] at hb70
    refine g_mS rfl rfl (g_mS rfl rfl (g_e rfl (e_ge rfl rfl) (g_pT rfl rfl rfl (g_aS rfl rfl (g_end (ds := [128, 129, 132, 133, 136, 137, 138]) rfl rfl (hK67 _ ?_)))))); clear hK67 K67
    refine pwp_ret (end1 (v := .sc _) rfl ?_)
    exact out_b (decide_eq_true (by omega))
   have hb70R := hb70; try simp only [zz] at hb70
   iterate 3 refine g_skip rfl rfl rfl ?_
   refine g_pF rfl rfl rfl (g_aS rfl rfl (g_end (ds := [128, 129, 132, 133, 136, 137, 138]) rfl rfl (hK67 _ ?_))); clear hK67 K67
   refine pwp_ret (end1 (v := .sc _) rfl ?_)
   (exfalso; omega)
  have hb69R := hb69; try simp only [zz] at hb69
  iterate 2 refine g_skip rfl rfl rfl ?_
  refine g_pF rfl rfl rfl (g_mS rfl rfl ?_)
  iterate 3 refine g_skip rfl rfl rfl ?_
  refine g_pF rfl rfl rfl (g_aS rfl rfl (g_end (ds := [128, 129, 132, 133, 136, 137, 138]) rfl rfl (hK67 _ ?_))); clear hK67 K67
  refine pwp_ret (end1 (v := .sc _) rfl ?_)
  (exfalso; omega)
 have hb68R := hb68; try simp only [zz] at hb68
 iterate 2 refine g_skip rfl rfl rfl ?_
 refine g_pF rfl rfl rfl (g_mS rfl rfl ?_)
 iterate 2 refine g_skip rfl rfl rfl ?_
 refine g_pF rfl rfl rfl (g_mS rfl rfl ?_)
 iterate 3 refine g_skip rfl rfl rfl ?_
 refine g_pF rfl rfl rfl (g_aS rfl rfl (g_end (ds := [128, 129, 132, 133, 136, 137, 138]) rfl rfl (hK67 _ ?_))); clear hK67 K67
 refine pwp_ret (end1 (v := .sc _) rfl ?_)
 (exfalso; omega)

end Go.Proofs.Ytjmjiegplnfiiaa
