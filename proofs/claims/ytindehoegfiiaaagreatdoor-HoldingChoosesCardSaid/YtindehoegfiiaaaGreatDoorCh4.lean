/- What is met; a copy. No conditions. -/
import Derived.Test.YtindehoegfiiaaaGreatDoorCh3
import Derived.Laws.BitsAllLaws
set_option linter.unusedSimpArgs false
set_option linter.unusedVariables false
set_option maxRecDepth 100000
namespace Go.Proofs.YtindehoegfiiaaaGreatDoor
open Go Go.Pv
theorem any_s2 {α : Type} {K : α → Bool} {l : List α} {k : Nat} {x : α} (hx : l[k]? = some x) : (l.take (k + 1)).any K = ((l.take k).any K || K x) := by
 obtain ⟨hk, rfl⟩ := List.getElem?_eq_some_iff.1 hx
 rw [List.take_succ_eq_append_getElem hk, List.any_append]
 simp
section
variable {α : Type} {K : α → Bool} {l : List α} {k : Nat} {x : α}
theorem allG_f (hx : l[k]? = some x) (h : K x = false) : l.all K = false := by
 cases q : l.all K with
 | false => rfl
 | true => rw [List.all_eq_true.1 q x (List.mem_of_getElem? hx)] at h; cases h
theorem allG_t (h : ∀ i, i < k → ∀ y, l[i]? = some y → K y = true) (hk : l.length ≤ k) : l.all K = true := by
 rw [List.all_eq_true]
 intro y hy
 obtain ⟨i, hi, rfl⟩ := List.getElem_of_mem hy
 exact h i (by omega) _ (List.getElem?_eq_getElem hi)
theorem ntG (h : ∀ i, i < k → ∀ y, l[i]? = some y → K y = true) (hx : l[k]? = some x) (h2 : K x = true) : ∀ i, i < k + 1 → ∀ y, l[i]? = some y → K y = true := fun i hi y hy => by
 by_cases e : i = k
 · subst e; rw [hx] at hy; cases hy; exact h2
 · exact h i (by omega) y hy
end
def hitB (c : List Int) (x : Demand) : Bool := c.any fun p => x.places.any fun y => decide (y = p)
abbrev MonC (c0 c : Nat → Nat) : Prop := ∀ s, c0 s ≤ c s
theorem AgO.tr {c0 c : Nat → Nat} {h0 h h' : Heap} (hm : MonC c0 c) (ha : AgO c0 h0 h) (hb : AgO c h h') : AgO c0 h0 h' := fun k hk => (hb k (Nat.lt_of_lt_of_le hk (hm _))).trans (ha k hk)
abbrev OwnK (c0 : Nat → Nat) (d : Nat) (v : PV) : Prop := ∀ g sz n, v = .ref (d, g) sz 0 n → g < c0 d
theorem sl_old {c0 : Nat → Nat} {h0 h : Heap} {d sz : Nat} {v : PV} {rows : Go.Pv.Rows} (hs : SliceAt h0 d v sz rows) (hv : OwnK c0 d v) (ha : AgO c0 h0 h) : SliceAt h d v sz rows := by
 rcases hs with q | ⟨g, q1, q2⟩
 · exact .inl q
 · exact .inr ⟨g, q1, (ha (d, g) (hv g _ _ q1)).trans q2⟩
def CopyR (c : List Int) (h0 : Heap) (c0 : Nat → Nat) (v : PV) (h2 : Heap) (c2 : Nat → Nat) : Prop := v = .ref (5, c0 5) 1 0 (c.map ci).length ∧ h2 (5, c0 5) = some (.rows 1 (c.map ci)) ∧ AgO c0 h0 h2 ∧ c2 = cset (cset c0 3) 5
def FstR (d : List Demand) (n left frm : Nat) (c : List Int) (h0 : Heap) (c0 : Nat → Nat) (v : PV) (h2 : Heap) (c2 : Nat → Nat) : Prop :=
 (∃ w, v = .tup [w, .bool (srch (metB d) n left frm c).isSome] ∧ ∀ r, srch (metB d) n left frm c = some r → SliceAt h2 36 w 1 (r.map ci)) ∧ AgO c0 h0 h2 ∧ MonC c0 c2
abbrev FrOK (d : List Demand) (n left : Nat) : Prop := ∀ (t t3 : Bool) (frm : Nat) (c : List Int) (v0 : PV) (zf zl : Int) (h0 : Heap) (c0 : Nat → Nat), zf = (frm : Int) → zl = (left : Int) → c.length ≤ frm → frm ≤ n + 1 → SliceAt h0 36 v0 1 (c.map ci) → OwnK c0 36 v0 →
 HCallsR Tryz.prog 77 [.lit t 3 (d.map (encT t3)), .int (n : Int), v0, .int zf, .int zl] h0 c0 (FstR d n left frm c h0 c0)
section
variable {P : Program} {K : PS → Prop} {d : Nat} {ty t : TypeId} {pos : String} {aft : Array Edge} {gd : Option (Nat × Bool)} {rest : List Oper} {r : Nat → PV} {h : Heap} {cnt : Nat → Nat} {x y : Operand}
/-- An append to an own slice that is no nil, told in full. -/
theorem p_appR {ts : Array TypeId} {t2 : TypeId} {u2 : PV} {sz d1 g : Nat} {rows rows2 : Go.Pv.Rows} (hts : ts.toList = [t, t2]) (hx : ev r x = .ref (d1, g) sz 0 rows.length) (hy : ev r y = u2) (hg : h (d1, g) = some (.rows sz rows)) (hsr : (srcRows h sz u2).1 ∧ (srcRows h sz u2).2.1 = rows2)
   (hok : (sliceOk P t && (decide (P.bytesOf (elemTy P t) < 2 ^ 15) && (decide (intKind P t2 = none) && (zeroOk P (elemTy P t) && ((P.underlying t2).isSome && decide (tySize P (elemTy P t) = sz)))))) = true) (hlen : rows.length + rows2.length < 2 ^ 32)
   (hk : ∀ h', h' (d, cnt d) = some (.rows sz (rows ++ rows2)) → (∀ k' : Key, k' ≠ (d, cnt d) → k' ≠ (d1, g) → h' k' = h k') → pOps P K rest ⟨setT r d (.ref (d, cnt d) sz 0 (rows.length + rows2.length)), h', cset cnt d⟩) :
   pOps P K (⟨some d, .call { callee := .builtin .append, args := #[x, y], argTypes := ts }, ty, pos, aft, gd⟩ :: rest) ⟨r, h, cnt⟩ := by
 simp only [Bool.and_eq_true, decide_eq_true_eq] at hok
 obtain ⟨o1, o2, o3, o4, o5, o6⟩ := hok
 subst o6
 have hq : eff P (ev r) h (d, cnt d) (.call { callee := .builtin .append, args := #[x, y], argTypes := ts }) = appendEff P h (d, cnt d) t t2 (.ref (d1, g) (tySize P (elemTy P t)) 0 rows.length) u2 := by
   show builtinEff P h (d, cnt d) .append ts.toList [ev r x, ev r y] = _
   rw [hts, hx, hy]; rfl
 unfold appendEff at hq
 simp only [hg, hsr.2] at hq
 refine p_renew rfl hq (by refine ⟨⟨o1, o2, o3, o4, o5⟩, hsr.1, ?_⟩; simp; omega) ?_
 refine hk _ ?_ fun k' h1 h2 => ?_
 · rw [hset_self, List.drop_zero, List.take_length]
 · rw [hset_ne h1, hset_ne h2]
end
section
variable {d : List Demand} {n left frm i : Nat} {c r : List Int} {h : Heap} {R : Option (List Int)}
theorem fnd_far {ok : List Int → Bool} (h : R = (List.range' i (n - i)).findSome? fun i => srch ok n (left - 1) (i + 1) (c ++ [(i : Int)])) (hi : n < i + left) (hl : ¬ left = 0) : R = none := by
 rw [h, List.findSome?_eq_none_iff]
 intro j hj
 rw [List.mem_range'_1] at hj
 exact srch_none (by omega) (by omega)
theorem isS_0 : (srch (metB d) n 0 frm c).isSome = metB d c := by
 rw [srch]; cases q : metB d c with
 | true => rw [if_pos rfl]; rfl
 | false => rw [if_neg (by decide)]; rfl
theorem some_0 (h : srch (metB d) n 0 frm c = some r) : r = c := by
 rw [srch] at h; split at h
 · cases h; rfl
 · cases h
end

theorem fr116 : (inFrame Tryz.f116.ntmps (Tryz.f116.body.getD .skip) && Tryz.f116.results.toList.all (resScope Tryz.f116.ntmps)) = true := by kernel_rfl
theorem metC (t t3 t2 : Bool) (d : List Demand) (c : List Int) (hd : d.length ≤ 100000) (hp : ∀ x ∈ d, x.places.length ≤ 100000) (hc : c.length ≤ 100000) : PCalls Tryz.prog 116 [.lit t 3 (d.map (encT t3)), .lit t2 1 (c.map ci)] (.bool (metB d c)) := by
 refine PCalls.of_code Tryz.func116 rfl rfl (by kernel_rfl) mixed fr116 (by show _ ≤ 35; simp) (.sc _) ?_
 refine pwp_seq_plain rfl fun K1 hK1 => ?_
 refine p_aS rfl ?_
 refine p_end (hK1 _ ?_); clear hK1 K1
 refine pwp_seq_seq ?_
 refine pwp_seq_plain rfl fun K2 hK2 => ?_
 refine p_aS rfl ?_
 refine p_end (hK2 _ ?_); clear hK2 K2
 refine pwp_seq_block fun K3 hK3 => ?_
 refine pwp_loopR (α := Nat) [0, 1] (fun (k : Nat) => [(5, .int (k))]) (fun (k : Nat) (h : Heap) (_ : Nat → Nat) => ((k) ≤ d.length) ∧ (∀ i, i < (k) → ∀ y, d[i]? = some y → hitB c y = true)) (fun (k : Nat) => d.length - (k)) (0) (by exact ⟨rfl, trivial⟩) (by exact ⟨by exact Nat.zero_le _, by intro i h; omega⟩) fun k r4 h5 c6 hj7 => ?_
 obtain ⟨hk, hin⟩ := hj7
 try dsimp only at hk
 try dsimp only at hin
 show pwp _ _ (loopQ _ _ _) ⟨sets (mix _ _ _) [(5, .int k)], _, _⟩
 refine pwp_seq_seq ?_
 refine pwp_seq_plain rfl fun K8 hK8 => ?_
 refine p_mS rfl ?_
 refine p_e rfl (e_move (v := .lit _ _ _) rfl) ?_
 refine p_e rfl (e_len rfl (by kernel_rfl)) ?_
 refine p_e rfl (e_lt rfl rfl) ?_
 refine p_end (hK8 _ ?_); clear hK8 K8
 refine pwp_seq_cond rfl fun K9 hK9 => ⟨fun hb10 => ?_, fun hb10 => ?_⟩
 ·have hb10R := hb10; try simp only [zz] at hb10
  obtain ⟨x, hx, hdr, ht⟩ := get_lt (xs := d) (i := k) (by omega)
  have hxp := hp x (List.mem_of_getElem? hx)
  refine pwp_skip ?_
  refine seq_norm (hK9 _ ?_); clear hK9 K9
  refine pwp_seq_block fun K11 hK11 => ?_
  refine pwp_seq_plain rfl fun K12 hK12 => ?_
  refine p_aS rfl ?_
  refine p_end (hK12 _ ?_); clear hK12 K12
  refine pwp_seq_seq ?_
  refine pwp_seq_plain rfl fun K13 hK13 => ?_
  refine p_aS rfl ?_
  refine p_end (hK13 _ ?_); clear hK13 K13
  refine pwp_seq_block fun K14 hK14 => ?_
  refine pwp_loopR (α := Nat × Bool) [0, 1, 5] (fun (a15 : Nat × Bool) => [(6, .bool (a15.2)), (7, .int (a15.1))]) (fun (a15 : Nat × Bool) (h : Heap) (_ : Nat → Nat) => ((a15.1) ≤ c.length) ∧ ((a15.2) = (c.take (a15.1)).any (fun p : Int => x.places.any fun y => decide (y = p)))) (fun (a15 : Nat × Bool) => c.length - (a15.1)) (0, false) (by exact ⟨rfl, rfl, trivial⟩) (by exact ⟨by exact Nat.zero_le _, by exact rfl⟩) fun a15 r16 h17 c18 hj19 => ?_
  obtain ⟨j, b⟩ := a15
  obtain ⟨hj, hb⟩ := hj19
  try dsimp only at hj
  try dsimp only at hb
  show pwp _ _ (loopQ _ _ _) ⟨sets (mix _ _ _) [(6, .bool b), (7, .int j)], _, _⟩
  refine pwp_seq_seq ?_
  refine pwp_seq_plain rfl fun K20 hK20 => ?_
  refine p_mS rfl ?_
  refine p_e rfl (e_move (v := .lit _ _ _) rfl) ?_
  refine p_e rfl (e_len rfl (by kernel_rfl)) ?_
  refine p_e rfl (e_lt rfl rfl) ?_
  refine p_end (hK20 _ ?_); clear hK20 K20
  refine pwp_seq_cond rfl fun K21 hK21 => ⟨fun hb22 => ?_, fun hb22 => ?_⟩
  ·have hb22R := hb22; try simp only [zz] at hb22
   obtain ⟨q, hq, hqd, hqt⟩ := get_lt (xs := c) (i := j) (by omega)
   refine pwp_skip ?_
   refine seq_norm (hK21 _ ?_); clear hK21 K21
   refine pwp_seq_block fun K23 hK23 => ?_
   refine pwp_gops rfl fun K24 hK24 => ?_
   refine g_begin ?_
   refine g_mS rfl rfl ?_
   refine g_mS rfl rfl ?_
   refine g_cases (fun hb25 => ?_) (fun hb25 => ?_)
   ·have hb25R := hb25; try simp only [zz] at hb25
    iterate 9 refine g_skip rfl rfl rfl ?_
    refine g_nocall rfl rfl rfl ?_
    refine g_pT rfl rfl rfl ?_
    refine g_aS rfl rfl ?_
    refine g_end (ds := [22, 23, 24, 25, 26, 27, 28, 29, 30, 31]) (by kernel_rfl) rfl (hK24 _ ?_); clear hK24 K24
    refine block_norm ?_
    refine seq_norm (hK23 _ ?_); clear hK23 K23
    refine pwp_plain rfl fun K26 hK26 => ?_
    refine p_mS rfl ?_
    refine p_e rfl (e_adL rfl rfl) ?_
    refine p_aS rfl ?_
    refine p_end (hK26 _ ?_); clear hK26 K26
    exact loop_again ((j + 1, true)) (by show _ < _; simp only; omega) ⟨rfl, rfl, rfl, trivial⟩ ⟨rfl, rfl, trivial⟩ (by exact ⟨by show _ + 1 ≤ _; simp only [List.length_map] at *; omega, by rw [any_s2 hq, ← hb]; clear hb; cases b <;> first | rfl | (exfalso; simp_all; done) | (rw [Bool.false_or])⟩)
   ·have hb25R := hb25; try simp only [zz] at hb25
    refine g_e rfl (e_move (v := .lit _ _ _) rfl) ?_
    refine g_mS rfl rfl ?_
    refine g_e rfl (e_ixL rfl rfl) ?_
    refine g_e rfl (e_fb pl3 rfl) ?_
    refine g_e rfl (e_load (v := .lit _ _ _) rfl (by kernel_rfl) (by kernel_rfl) (by kernel_rfl) (by first | omega | (simp only [List.length_map]; omega)) (by decide) ((cell_map hx _).trans rfl)) ?_
    refine g_e rfl (e_move (v := .lit _ _ _) rfl) ?_
    refine g_mS rfl rfl ?_
    refine g_e rfl (e_ixL rfl rfl) ?_
    refine g_e rfl (e_load (v := .sc _) rfl (by kernel_rfl) (by kernel_rfl) (by kernel_rfl) (by first | omega | (simp only [List.length_map]; omega)) (by decide) ((cell_map hq _).trans rfl)) ?_
    refine g_call rfl rfl rfl rfl (.cons inn_lit (.cons inn_sc .nil)) (HasC _ _ _ (by omega)) ?_
    refine g_pF rfl rfl rfl ?_
    refine g_aS rfl rfl ?_
    refine g_end (ds := [22, 23, 24, 25, 26, 27, 28, 29, 30, 31]) (by kernel_rfl) rfl (hK24 _ ?_); clear hK24 K24
    refine block_norm ?_
    refine seq_norm (hK23 _ ?_); clear hK23 K23
    refine pwp_plain rfl fun K27 hK27 => ?_
    refine p_mS rfl ?_
    refine p_e rfl (e_adL rfl rfl) ?_
    refine p_aS rfl ?_
    refine p_end (hK27 _ ?_); clear hK27 K27
    exact loop_again ((j + 1, (x.places.any fun y => decide (y = q)))) (by show _ < _; simp only; omega) ⟨rfl, rfl, rfl, trivial⟩ ⟨rfl, rfl, trivial⟩ (by exact ⟨by show _ + 1 ≤ _; simp only [List.length_map] at *; omega, by rw [any_s2 hq, ← hb]; clear hb; cases b <;> first | rfl | (exfalso; simp_all; done) | (rw [Bool.false_or])⟩)
  ·have hb22R := hb22; try simp only [zz] at hb22
   have hbe : b = hitB c x := by rw [hb, List.take_of_length_le (by simp only [List.length_map] at *; omega)]; rfl
   refine pwp_exit ?_
   refine exit_seq ?_
   clear hK21 K21
   refine exit_loop ?_
   refine exit_here ?_
   refine seq_norm (hK14 _ ?_); clear hK14 K14
   refine pwp_seq_plain rfl fun K28 hK28 => ?_
   refine p_mS rfl ?_
   refine p_e rfl (e_not rfl) ?_
   refine p_end (hK28 _ ?_); clear hK28 K28
   refine pwp_cond rfl (fun hb29 => ?_) (fun hb29 => ?_)
   ·have hb29R := hb29; try simp only [zz] at hb29
    refine pwp_seq_plain rfl fun K30 hK30 => ?_
    refine p_aS rfl ?_
    refine p_end (hK30 _ ?_); clear hK30 K30
    refine pwp_ret ?_
    refine ret_block ?_
    refine ret_seq ?_
    refine ret_loop ?_
    refine ret_block ?_
    refine ret_seq ?_
    refine end1 (v := .sc _) rfl ?_
    first
      | exact out_b (allG_f (K := hitB c) hx (by rw [← hbe]; first | assumption | simp_all)).symm
      | exact out_b (allG_t (K := hitB c) hin (by simp only [List.length_map] at *; omega)).symm
   ·have hb29R := hb29; try simp only [zz] at hb29
    refine pwp_skip ?_
    refine block_norm ?_
    refine seq_norm (hK11 _ ?_); clear hK11 K11
    refine pwp_plain rfl fun K31 hK31 => ?_
    refine p_mS rfl ?_
    refine p_e rfl (e_adL rfl rfl) ?_
    refine p_aS rfl ?_
    refine p_end (hK31 _ ?_); clear hK31 K31
    exact loop_again (k + 1) (by show _ < _; omega) ⟨rfl, rfl, trivial⟩ ⟨rfl, trivial⟩ (by exact ⟨by show _ + 1 ≤ _; simp only [List.length_map] at *; omega, by exact ntG (K := hitB c) hin hx (by rw [← hbe]; first | assumption | simp_all)⟩)
 ·have hb10R := hb10; try simp only [zz] at hb10
  refine pwp_exit ?_
  refine exit_seq ?_
  clear hK9 K9
  refine exit_loop ?_
  refine exit_here ?_
  refine seq_norm (hK3 _ ?_); clear hK3 K3
  refine pwp_seq_plain rfl fun K32 hK32 => ?_
  refine p_aS rfl ?_
  refine p_end (hK32 _ ?_); clear hK32 K32
  refine pwp_ret ?_
  refine end1 (v := .sc _) rfl ?_
  first
    | exact out_b (allG_f (K := hitB c) hx (by rw [← hbe]; first | assumption | simp_all)).symm
    | exact out_b (allG_t (K := hitB c) hin (by simp only [List.length_map] at *; omega)).symm

theorem frH117 : (inFrame Tryz.f117.ntmps (Tryz.f117.body.getD .skip) && Tryz.f117.results.toList.all (resScope Tryz.f117.ntmps)) = true := by kernel_rfl
theorem copyH (v0 : PV) (c : List Int) (h0 : Heap) (c0 : Nat → Nat) (hs : SliceAt h0 36 v0 1 (c.map ci)) (hcl : c.length ≤ 100000) : HCallsR Tryz.prog 117 [v0] h0 c0 (CopyR c h0 c0) := by
 refine HCallsR.of_code Tryz.func117 rfl rfl (by kernel_rfl) mixed frH117 (by show _ ≤ 6; simp) ?_
 refine pwp_seq_plain rfl fun K1 hK1 => ?_
 refine p_e rfl (e_assign (v := .nil) rfl) ?_
 refine p_end (hK1 _ ?_); clear hK1 K1
 refine pwp_seq_plain rfl fun K2 hK2 => ?_
 refine p_new rfl (e_bslice (rows := []) (zs := [.int 0]) (sz := 1) (by kernel_rfl) (by kernel_rfl) rfl (by kernel_rfl) (by decide) rfl rfl (by exact trivial) rfl) trivial ?_
 refine p_e rfl (e_move (v := _) rfl) ?_
 refine p_appR (rows := []) (rows2 := c.map ci) rfl rfl rfl (hset_self _ _ _) (src_slice (hs.keep fun g_ => (hset_ne (key_ne rfl)).trans rfl)) (by kernel_rfl) (by simp only [List.length_nil, List.length_map]; omega) fun h3 hn4 hf5 => ?_
 refine p_e rfl (e_assign (v := _) rfl) ?_
 refine p_end (hK2 _ ?_); clear hK2 K2
 refine pwp_ret ?_
 refine end1 (v := _) rfl ?_
 exact ⟨by rw [List.nil_append] at *; simp only [List.length_nil, Nat.zero_add]; rfl, by rw [List.nil_append] at *; exact hn4, fun k' hk' => (hf5 k' (old_ne' hk' rfl) (old_ne' hk' rfl)).trans ((hset_ne (old_ne' hk' rfl)).trans rfl), rfl⟩

end Go.Proofs.YtindehoegfiiaaaGreatDoor
