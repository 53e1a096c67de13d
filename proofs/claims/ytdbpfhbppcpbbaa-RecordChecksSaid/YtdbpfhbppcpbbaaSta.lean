/- What is known of a platform on a day, as the program tells it. No conditions. -/
import Derived.Test.YtdbpfhbppcpbbaaRec4
import Derived.Test.YtdbpfhbppcpbbaaPvZ6
set_option linter.unusedSimpArgs false
set_option linter.unusedVariables false
set_option maxRecDepth 100000
namespace Go.Proofs.Ytdbpfhbppcpbbaa
open Go Go.Pv

/-- What is known of a platform. -/
structure St where
  designed : Bool
  valid : Bool
  handed : Bool
  inspected : Int
  defs : List (Int × Bool)
def St.enc (s : St) (mk : Key) : List PV := [.bool s.designed, .bool s.valid, .bool s.handed, .int s.inspected, .map mk]
def inspE (x : Ev) : Int := if x.passed = true then x.day else -1
def takeE (s : St) (x : Ev) : St :=
  if x.kind = 0 then { s with designed := true, valid := true, handed := false }
  else if x.kind = 1 then { s with handed := s.designed && x.passed, inspected := inspE x }
  else if x.kind = 2 then { s with inspected := inspE x }
  else if x.kind = 4 then { s with defs := aSet x.number x.grave s.defs }
  else if x.kind = 5 then { s with defs := aDel x.number s.defs }
  else if x.kind = 6 then { s with valid := false } else s
def kpi (n : Int) : PV := .int n
theorem kpi_eq (a b : Int) : keyEq (kpi a) (kpi b) = decide (a = b) := by
  simp only [kpi, keyEq, scEq]; rw [Bool.eq_iff_iff]; simp
theorem kpi_ok (a : Int) : keyOk Try.prog 3 (kpi a) := by
  show intKind Try.prog 3 = some .i64
  kernel_rfl
def inR (st : St) (x : Ev) (h0 : Heap) (v : PV) (h : Heap) : Prop :=
  v = .tup [] ∧ h (7, 0) = some (.rows 5 [St.enc { st with inspected := inspE x } (10, 0)]) ∧ ∀ a b, Nat.beq a 3 = false → Nat.beq a 7 = false → h (a, b) = h0 (a, b)
def taR (st : St) (x : Ev) (h0 : Heap) (v : PV) (h : Heap) : Prop :=
  v = .tup [] ∧ h (7, 0) = some (.rows 5 [St.enc (takeE st x) (10, 0)]) ∧ MapAt h (10, 0) (entsOf kpi PV.bool (takeE st x).defs) ∧ ∀ a b, Nat.beq a 3 = false → Nat.beq a 7 = false → Nat.beq a 10 = false → h (a, b) = h0 (a, b)

theorem frH124 : (inFrame Try.f124.ntmps (Try.f124.body.getD .skip) && Try.f124.results.toList.all (resScope Try.f124.ntmps)) = true := by kernel_rfl
theorem stInspect (st : St) (x : Ev) (h0 : Heap) (c0 : Nat → Nat) (hp : h0 (7, 0) = some (.rows 5 [St.enc st (10, 0)])) : HCallsR Try.prog 124 [.ptr (7, 0) 5 0 0, .agg x.enc] h0 c0 (fun v h _ => inR st x h0 v h) := by
  refine HCallsR.of_code Try.func124 rfl rfl (by kernel_rfl) mixed frH124 (by show _ ≤ 14; simp) ?_
  refine pwp_seq_plain rfl fun K1 hK1 => ?_
  refine p_new rfl (e_box (n := 6) rfl rfl) ⟨rfl, by decide⟩ ?_
  refine p_end (hK1 _ ?_); clear hK1 K1
  refine pwp_seq_plain rfl fun K2 hK2 => ?_
  refine p_step rfl (e_move (v := .ptr _ _ _ _) rfl) trivial ?_
  refine p_step rfl (e_nilc rfl) trivial ?_
  refine p_step rfl (e_faP (pl := [(0, 1, false), (1, 1, false), (2, 1, false), (3, 1, false), (4, 1, false)]) rfl (by kernel_rfl) (by kernel_rfl) (by decide) rfl) trivial ?_
  refine p_store rfl (e_store1 rfl ((hset_ne (key_ne rfl)).trans hp) rfl rfl rfl (by decide) (by kernel_rfl) rfl (by kernel_rfl)) trivial ?_
  refine p_end (hK2 _ ?_); clear hK2 K2
  refine pwp_seq_plain rfl fun K3 hK3 => ?_
  refine p_step rfl (e_faP (pl := [(0, 1, false), (1, 1, false), (2, 1, false), (3, 1, false), (4, 1, false), (5, 1, false)]) rfl (by kernel_rfl) (by kernel_rfl) (by decide) rfl) trivial ?_
  refine p_step rfl (e_loadH (v := .sc _) rfl ((hset_ne (key_ne rfl)).trans (hset_self _ _ _)) (by kernel_rfl) (by kernel_rfl) (by kernel_rfl) (by exact Nat.zero_lt_one) (by decide) rfl) trivial ?_
  refine p_end (hK3 _ ?_); clear hK3 K3
  refine pwp_cond rfl (fun hb4 => ?_) (fun hb4 => ?_)
  ·have hb4R := hb4; try simp only [z1, z2, z3, z4, z5, z6, ne_eq, z7, z8, z9, z10, z11, z12] at hb4
   refine pwp_plain rfl fun K5 hK5 => ?_
   refine p_step rfl (e_move (v := .ptr _ _ _ _) rfl) trivial ?_
   refine p_step rfl (e_faP (pl := [(0, 1, false), (1, 1, false), (2, 1, false), (3, 1, false), (4, 1, false), (5, 1, false)]) rfl (by kernel_rfl) (by kernel_rfl) (by decide) rfl) trivial ?_
   refine p_step rfl (e_loadH (v := .sc _) rfl ((hset_ne (key_ne rfl)).trans (hset_self _ _ _)) (by kernel_rfl) (by kernel_rfl) (by kernel_rfl) (by exact Nat.zero_lt_one) (by decide) rfl) trivial ?_
   refine p_step rfl (e_nilc rfl) trivial ?_
   refine p_step rfl (e_faP (pl := [(0, 1, false), (1, 1, false), (2, 1, false), (3, 1, false), (4, 1, false)]) rfl (by kernel_rfl) (by kernel_rfl) (by decide) rfl) trivial ?_
   refine p_store rfl (e_store1 rfl (hset_self _ _ _) rfl rfl rfl (by decide) (by kernel_rfl) rfl (by kernel_rfl)) trivial ?_
   refine p_end (hK5 _ ?_); clear hK5 K5
   refine end0n   ?_
   first
     | exact ⟨rfl, by rw [inspE, if_pos (by assumption)]; exact (hset_self _ _ _), fun a b h3 h7 => by simp only [hset_ne (key_ne h3), hset_ne (key_ne h7)]⟩
     | exact ⟨rfl, by rw [inspE, if_neg (by simp_all)]; exact (hset_self _ _ _), fun a b h3 h7 => by simp only [hset_ne (key_ne h3), hset_ne (key_ne h7)]⟩
  ·have hb4R := hb4; try simp only [z1, z2, z3, z4, z5, z6, ne_eq, z7, z8, z9, z10, z11, z12] at hb4
   refine pwp_skip ?_
   refine end0n   ?_
   first
     | exact ⟨rfl, by rw [inspE, if_pos (by assumption)]; exact (hset_self _ _ _), fun a b h3 h7 => by simp only [hset_ne (key_ne h3), hset_ne (key_ne h7)]⟩
     | exact ⟨rfl, by rw [inspE, if_neg (by simp_all)]; exact (hset_self _ _ _), fun a b h3 h7 => by simp only [hset_ne (key_ne h3), hset_ne (key_ne h7)]⟩

theorem frH112 : (inFrame Try.f112.ntmps (Try.f112.body.getD .skip) && Try.f112.results.toList.all (resScope Try.f112.ntmps)) = true := by kernel_rfl
theorem stTake (st : St) (x : Ev) (h0 : Heap) (c0 : Nat → Nat) (hp : h0 (7, 0) = some (.rows 5 [St.enc st (10, 0)])) (hm : MapAt h0 (10, 0) (entsOf kpi PV.bool st.defs)) : HCallsR Try.prog 112 [.ptr (7, 0) 5 0 0, .agg x.enc] h0 c0 (fun v h _ => taR st x h0 v h) := by
  refine HCallsR.of_code Try.func112 rfl rfl (by kernel_rfl) mixed frH112 (by show _ ≤ 61; simp) ?_
  refine pwp_seq_plain rfl fun K1 hK1 => ?_
  refine p_new rfl (e_box (n := 6) rfl rfl) ⟨rfl, by decide⟩ ?_
  refine p_end (hK1 _ ?_); clear hK1 K1
  refine pwp_seq_plain rfl fun K2 hK2 => ?_
  refine p_step rfl (e_faP (pl := [(0, 1, false), (1, 1, false), (2, 1, false), (3, 1, false), (4, 1, false), (5, 1, false)]) rfl (by kernel_rfl) (by kernel_rfl) (by decide) rfl) trivial ?_
  refine p_step rfl (e_loadH (v := .sc _) rfl (hset_self _ _ _) (by kernel_rfl) (by kernel_rfl) (by kernel_rfl) (by exact Nat.zero_lt_one) (by decide) rfl) trivial ?_
  refine p_end (hK2 _ ?_); clear hK2 K2
  refine pwp_block ?_
  refine pwp_seq_plain rfl fun K3 hK3 => ?_
  refine p_step rfl (e_eq rfl rfl) trivial ?_
  refine p_step rfl (e_assign (v := .sc _) rfl) trivial ?_
  refine p_end (hK3 _ ?_); clear hK3 K3
  refine pwp_cond rfl (fun hb4 => ?_) (fun hb4 => ?_)
  ·have hb4R := hb4; try simp only [z1, z2, z3, z4, z5, z6, ne_eq, z7, z8, z9, z10, z11, z12] at hb4
   refine pwp_plain rfl fun K5 hK5 => ?_
   refine p_step rfl (e_move (v := .ptr _ _ _ _) rfl) trivial ?_
   refine p_step rfl (e_move (v := .ptr _ _ _ _) rfl) trivial ?_
   refine p_step rfl (e_move (v := .ptr _ _ _ _) rfl) trivial ?_
   refine p_step rfl (e_nilc rfl) trivial ?_
   refine p_step rfl (e_faP (pl := [(0, 1, false), (1, 1, false), (2, 1, false), (3, 1, false), (4, 1, false)]) rfl (by kernel_rfl) (by kernel_rfl) (by decide) rfl) trivial ?_
   refine p_store rfl (e_store1 rfl ((hset_ne (key_ne rfl)).trans hp) rfl rfl rfl (by decide) (by kernel_rfl) rfl (by kernel_rfl)) trivial ?_
   refine p_step rfl (e_nilc rfl) trivial ?_
   refine p_step rfl (e_faP (pl := [(0, 1, false), (1, 1, false), (2, 1, false), (3, 1, false), (4, 1, false)]) rfl (by kernel_rfl) (by kernel_rfl) (by decide) rfl) trivial ?_
   refine p_store rfl (e_store1 rfl (hset_self _ _ _) rfl rfl rfl (by decide) (by kernel_rfl) rfl (by kernel_rfl)) trivial ?_
   refine p_step rfl (e_nilc rfl) trivial ?_
   refine p_step rfl (e_faP (pl := [(0, 1, false), (1, 1, false), (2, 1, false), (3, 1, false), (4, 1, false)]) rfl (by kernel_rfl) (by kernel_rfl) (by decide) rfl) trivial ?_
   refine p_store rfl (e_store1 rfl (hset_self _ _ _) rfl rfl rfl (by decide) (by kernel_rfl) rfl (by kernel_rfl)) trivial ?_
   refine p_end (hK5 _ ?_); clear hK5 K5
   refine block_norm ?_
   refine end0n   ?_
   first
     | (refine ⟨rfl, ?_, ?_, fun a b h3 h7 h10 => by simp only [hset_ne (key_ne h3), hset_ne (key_ne h7), hset_ne (key_ne h10)]⟩; (rw [takeE, if_pos (by omega)]; exact (hset_self _ _ _)); (rw [takeE, if_pos (by omega)]; exact (MapAt.keep hm ((hset_ne (key_ne rfl)).trans ((hset_ne (key_ne rfl)).trans ((hset_ne (key_ne rfl)).trans ((hset_ne (key_ne rfl)).trans (rfl))))))))
     | (refine ⟨rfl, ?_, ?_, fun a b h3 h7 h10 => by simp only [hset_ne (key_ne h3), hset_ne (key_ne h7), hset_ne (key_ne h10)]⟩; (rw [takeE, if_neg (by omega), if_pos (by omega), show (st.designed && x.passed) = x.passed by simp_all]; exact (hset_self _ _ _)); (rw [takeE, if_neg (by omega), if_pos (by omega)]; exact (MapAt.keep hm ((hset_ne (key_ne rfl)).trans ((hset_ne (key_ne rfl)).trans ((hset_ne (key_ne rfl)).trans ((hset_ne (key_ne rfl)).trans (rfl))))))))
     | (refine ⟨rfl, ?_, ?_, fun a b h3 h7 h10 => by simp only [hset_ne (key_ne h3), hset_ne (key_ne h7), hset_ne (key_ne h10)]⟩; (rw [takeE, if_neg (by omega), if_pos (by omega), show (st.designed && x.passed) = false by simp_all]; exact (hset_self _ _ _)); (rw [takeE, if_neg (by omega), if_pos (by omega)]; exact (MapAt.keep hm ((hset_ne (key_ne rfl)).trans ((hset_ne (key_ne rfl)).trans ((hset_ne (key_ne rfl)).trans ((hset_ne (key_ne rfl)).trans (rfl))))))))
     | (refine ⟨rfl, ?_, ?_, fun a b h3 h7 h10 => by simp only [hset_ne (key_ne h3), hset_ne (key_ne h7), hset_ne (key_ne h10)]⟩; (rw [takeE, if_neg (by omega), if_neg (by omega), if_pos (by omega)]; exact (hset_self _ _ _)); (rw [takeE, if_neg (by omega), if_neg (by omega), if_pos (by omega)]; exact (MapAt.keep hm ((hset_ne (key_ne rfl)).trans ((hset_ne (key_ne rfl)).trans ((hset_ne (key_ne rfl)).trans ((hset_ne (key_ne rfl)).trans (rfl))))))))
     | (refine ⟨rfl, ?_, ?_, fun a b h3 h7 h10 => by simp only [hset_ne (key_ne h3), hset_ne (key_ne h7), hset_ne (key_ne h10)]⟩; (rw [takeE, if_neg (by omega), if_neg (by omega), if_neg (by omega), if_pos (by omega)]; exact (hset_self _ _ _)); (rw [takeE, if_neg (by omega), if_neg (by omega), if_neg (by omega), if_pos (by omega)]; exact (MapAt.keep hm ((hset_ne (key_ne rfl)).trans ((hset_ne (key_ne rfl)).trans ((hset_ne (key_ne rfl)).trans ((hset_ne (key_ne rfl)).trans (rfl))))))))
     | (refine ⟨rfl, ?_, ?_, fun a b h3 h7 h10 => by simp only [hset_ne (key_ne h3), hset_ne (key_ne h7), hset_ne (key_ne h10)]⟩; (rw [takeE, if_neg (by omega), if_neg (by omega), if_neg (by omega), if_neg (by omega), if_pos (by omega)]; exact (hset_self _ _ _)); (rw [takeE, if_neg (by omega), if_neg (by omega), if_neg (by omega), if_neg (by omega), if_pos (by omega)]; exact (MapAt.keep hm ((hset_ne (key_ne rfl)).trans ((hset_ne (key_ne rfl)).trans ((hset_ne (key_ne rfl)).trans ((hset_ne (key_ne rfl)).trans (rfl))))))))
     | (refine ⟨rfl, ?_, ?_, fun a b h3 h7 h10 => by simp only [hset_ne (key_ne h3), hset_ne (key_ne h7), hset_ne (key_ne h10)]⟩; (rw [takeE, if_neg (by omega), if_neg (by omega), if_neg (by omega), if_neg (by omega), if_neg (by omega), if_pos (by omega)]; exact (hset_self _ _ _)); (rw [takeE, if_neg (by omega), if_neg (by omega), if_neg (by omega), if_neg (by omega), if_neg (by omega), if_pos (by omega)]; exact (MapAt.keep hm ((hset_ne (key_ne rfl)).trans ((hset_ne (key_ne rfl)).trans ((hset_ne (key_ne rfl)).trans ((hset_ne (key_ne rfl)).trans (rfl))))))))
     | (refine ⟨rfl, ?_, ?_, fun a b h3 h7 h10 => by simp only [hset_ne (key_ne h3), hset_ne (key_ne h7), hset_ne (key_ne h10)]⟩; (rw [takeE, if_neg (by omega), if_neg (by omega), if_neg (by omega), if_neg (by omega), if_neg (by omega), if_neg (by omega)]; exact (hset_self _ _ _)); (rw [takeE, if_neg (by omega), if_neg (by omega), if_neg (by omega), if_neg (by omega), if_neg (by omega), if_neg (by omega)]; exact (MapAt.keep hm ((hset_ne (key_ne rfl)).trans ((hset_ne (key_ne rfl)).trans ((hset_ne (key_ne rfl)).trans ((hset_ne (key_ne rfl)).trans (rfl))))))))
  ·have hb4R := hb4; try simp only [z1, z2, z3, z4, z5, z6, ne_eq, z7, z8, z9, z10, z11, z12] at hb4
   refine pwp_seq_plain rfl fun K6 hK6 => ?_
   refine p_step rfl (e_eq rfl rfl) trivial ?_
   refine p_step rfl (e_assign (v := .sc _) rfl) trivial ?_
   refine p_end (hK6 _ ?_); clear hK6 K6
   refine pwp_cond rfl (fun hb7 => ?_) (fun hb7 => ?_)
   ·have hb7R := hb7; try simp only [z1, z2, z3, z4, z5, z6, ne_eq, z7, z8, z9, z10, z11, z12] at hb7
    refine pwp_seq_gops rfl fun K8 hK8 => ?_
    refine s_begin ?_
    refine s_step [] (by simp) rfl rfl rfl rfl (e_move (v := .ptr _ _ _ _) rfl) trivial ?_
    refine s_step [] (by simp) rfl rfl rfl rfl (e_move (v := .ptr _ _ _ _) rfl) trivial ?_
    refine s_step [] (by simp) rfl rfl rfl rfl (e_nilc rfl) trivial ?_
    refine s_step [] (by simp) rfl rfl rfl rfl (e_faP (pl := [(0, 1, false), (1, 1, false), (2, 1, false), (3, 1, false), (4, 1, false)]) rfl (by kernel_rfl) (by kernel_rfl) (by decide) rfl) trivial ?_
    refine s_step [7] (by simp) rfl rfl rfl rfl (e_loadH (v := .sc _) rfl ((hset_ne (key_ne rfl)).trans hp) (by kernel_rfl) (by kernel_rfl) (by kernel_rfl) (by exact Nat.zero_lt_one) (by decide) rfl) trivial ?_
    refine s_step [] (by simp) rfl rfl rfl rfl (e_move (v := .sc _) rfl) trivial ?_
    refine s_cases (fun hb9 => ?_) (fun hb9 => ?_)
    ·have hb9R := hb9; try simp only [z1, z2, z3, z4, z5, z6, ne_eq, z7, z8, z9, z10, z11, z12] at hb9
     refine s_step [] (by simp) rfl rfl rfl rfl (e_faP (pl := [(0, 1, false), (1, 1, false), (2, 1, false), (3, 1, false), (4, 1, false), (5, 1, false)]) rfl (by kernel_rfl) (by kernel_rfl) (by decide) rfl) trivial ?_
     refine s_step [3] (by simp) rfl rfl rfl rfl (e_loadH (v := .sc _) rfl (hset_self _ _ _) (by kernel_rfl) (by kernel_rfl) (by kernel_rfl) (by exact Nat.zero_lt_one) (by decide) rfl) trivial ?_
     refine s_step [] (by simp) rfl rfl rfl rfl (e_pickT (v := .sc _) rfl rfl) trivial ?_
     refine s_step [] (by simp) rfl rfl rfl rfl (e_nilc rfl) trivial ?_
     refine s_step [] (by simp) rfl rfl rfl rfl (e_faP (pl := [(0, 1, false), (1, 1, false), (2, 1, false), (3, 1, false), (4, 1, false)]) rfl (by kernel_rfl) (by kernel_rfl) (by decide) rfl) trivial ?_
     refine s_store [7] (by simp) rfl rfl (e_store1 rfl ((hset_ne (key_ne rfl)).trans hp) rfl rfl rfl (by decide) (by kernel_rfl) rfl (by kernel_rfl)) trivial ?_
     refine s_end (ds := [25, 26]) (by kernel_rfl) (by kernel_rfl) (hK8 _ ?_); clear hK8 K8
     refine pwp_plain rfl fun K10 hK10 => ?_
     refine p_step rfl (e_move (v := .ptr _ _ _ _) rfl) trivial ?_
     refine p_step rfl (e_loadHA (n := 6) rfl ((hset_ne (key_ne rfl)).trans (hset_self _ _ _)) (by kernel_rfl) (by kernel_rfl) (by kernel_rfl) (by exact Nat.zero_lt_one) (by decide) rfl) trivial ?_
     refine p_hcall rfl (stInspect ({ st with handed := x.passed }) x _ _ (hset_self _ _ _)) fun v11 h12 c13 hR14 => ?_
     obtain ⟨rfl, hp15, hf16⟩ := hR14
     have hm17 := MapAt.keep (MapAt.keep hm ((hset_ne (key_ne rfl)).trans ((hset_ne (key_ne rfl)).trans (rfl)))) (hf16 10 _ rfl rfl)
     refine p_end (hK10 _ ?_); clear hK10 K10
     refine block_norm ?_
     refine end0n   ?_
     first
       | (refine ⟨rfl, ?_, ?_, fun a b h3 h7 h10 => by rw [hf16 a b h3 h7]; simp only [hset_ne (key_ne h3), hset_ne (key_ne h7), hset_ne (key_ne h10)]⟩; (rw [takeE, if_pos (by omega)]; exact hp15); (rw [takeE, if_pos (by omega)]; exact hm17))
       | (refine ⟨rfl, ?_, ?_, fun a b h3 h7 h10 => by rw [hf16 a b h3 h7]; simp only [hset_ne (key_ne h3), hset_ne (key_ne h7), hset_ne (key_ne h10)]⟩; (rw [takeE, if_neg (by omega), if_pos (by omega), show (st.designed && x.passed) = x.passed by simp_all]; exact hp15); (rw [takeE, if_neg (by omega), if_pos (by omega)]; exact hm17))
       | (refine ⟨rfl, ?_, ?_, fun a b h3 h7 h10 => by rw [hf16 a b h3 h7]; simp only [hset_ne (key_ne h3), hset_ne (key_ne h7), hset_ne (key_ne h10)]⟩; (rw [takeE, if_neg (by omega), if_pos (by omega), show (st.designed && x.passed) = false by simp_all]; exact hp15); (rw [takeE, if_neg (by omega), if_pos (by omega)]; exact hm17))
       | (refine ⟨rfl, ?_, ?_, fun a b h3 h7 h10 => by rw [hf16 a b h3 h7]; simp only [hset_ne (key_ne h3), hset_ne (key_ne h7), hset_ne (key_ne h10)]⟩; (rw [takeE, if_neg (by omega), if_neg (by omega), if_pos (by omega)]; exact hp15); (rw [takeE, if_neg (by omega), if_neg (by omega), if_pos (by omega)]; exact hm17))
       | (refine ⟨rfl, ?_, ?_, fun a b h3 h7 h10 => by rw [hf16 a b h3 h7]; simp only [hset_ne (key_ne h3), hset_ne (key_ne h7), hset_ne (key_ne h10)]⟩; (rw [takeE, if_neg (by omega), if_neg (by omega), if_neg (by omega), if_pos (by omega)]; exact hp15); (rw [takeE, if_neg (by omega), if_neg (by omega), if_neg (by omega), if_pos (by omega)]; exact hm17))
       | (refine ⟨rfl, ?_, ?_, fun a b h3 h7 h10 => by rw [hf16 a b h3 h7]; simp only [hset_ne (key_ne h3), hset_ne (key_ne h7), hset_ne (key_ne h10)]⟩; (rw [takeE, if_neg (by omega), if_neg (by omega), if_neg (by omega), if_neg (by omega), if_pos (by omega)]; exact hp15); (rw [takeE, if_neg (by omega), if_neg (by omega), if_neg (by omega), if_neg (by omega), if_pos (by omega)]; exact hm17))
       | (refine ⟨rfl, ?_, ?_, fun a b h3 h7 h10 => by rw [hf16 a b h3 h7]; simp only [hset_ne (key_ne h3), hset_ne (key_ne h7), hset_ne (key_ne h10)]⟩; (rw [takeE, if_neg (by omega), if_neg (by omega), if_neg (by omega), if_neg (by omega), if_neg (by omega), if_pos (by omega)]; exact hp15); (rw [takeE, if_neg (by omega), if_neg (by omega), if_neg (by omega), if_neg (by omega), if_neg (by omega), if_pos (by omega)]; exact hm17))
       | (refine ⟨rfl, ?_, ?_, fun a b h3 h7 h10 => by rw [hf16 a b h3 h7]; simp only [hset_ne (key_ne h3), hset_ne (key_ne h7), hset_ne (key_ne h10)]⟩; (rw [takeE, if_neg (by omega), if_neg (by omega), if_neg (by omega), if_neg (by omega), if_neg (by omega), if_neg (by omega)]; exact hp15); (rw [takeE, if_neg (by omega), if_neg (by omega), if_neg (by omega), if_neg (by omega), if_neg (by omega), if_neg (by omega)]; exact hm17))
    ·have hb9R := hb9; try simp only [z1, z2, z3, z4, z5, z6, ne_eq, z7, z8, z9, z10, z11, z12] at hb9
     refine s_skip rfl rfl rfl ?_
     refine s_skip rfl rfl rfl ?_
     refine s_step [] (by simp) rfl rfl rfl rfl (e_pickF (v := .sc _) rfl rfl) trivial ?_
     refine s_step [] (by simp) rfl rfl rfl rfl (e_nilc rfl) trivial ?_
     refine s_step [] (by simp) rfl rfl rfl rfl (e_faP (pl := [(0, 1, false), (1, 1, false), (2, 1, false), (3, 1, false), (4, 1, false)]) rfl (by kernel_rfl) (by kernel_rfl) (by decide) rfl) trivial ?_
     refine s_store [7] (by simp) rfl rfl (e_store1 rfl ((hset_ne (key_ne rfl)).trans hp) rfl rfl rfl (by decide) (by kernel_rfl) rfl (by kernel_rfl)) trivial ?_
     refine s_end (ds := [25, 26]) (by kernel_rfl) (by kernel_rfl) (hK8 _ ?_); clear hK8 K8
     refine pwp_plain rfl fun K18 hK18 => ?_
     refine p_step rfl (e_move (v := .ptr _ _ _ _) rfl) trivial ?_
     refine p_step rfl (e_loadHA (n := 6) rfl ((hset_ne (key_ne rfl)).trans (hset_self _ _ _)) (by kernel_rfl) (by kernel_rfl) (by kernel_rfl) (by exact Nat.zero_lt_one) (by decide) rfl) trivial ?_
     refine p_hcall rfl (stInspect ({ st with handed := false }) x _ _ (hset_self _ _ _)) fun v19 h20 c21 hR22 => ?_
     obtain ⟨rfl, hp23, hf24⟩ := hR22
     have hm25 := MapAt.keep (MapAt.keep hm ((hset_ne (key_ne rfl)).trans ((hset_ne (key_ne rfl)).trans (rfl)))) (hf24 10 _ rfl rfl)
     refine p_end (hK18 _ ?_); clear hK18 K18
     refine block_norm ?_
     refine end0n   ?_
     first
       | (refine ⟨rfl, ?_, ?_, fun a b h3 h7 h10 => by rw [hf24 a b h3 h7]; simp only [hset_ne (key_ne h3), hset_ne (key_ne h7), hset_ne (key_ne h10)]⟩; (rw [takeE, if_pos (by omega)]; exact hp23); (rw [takeE, if_pos (by omega)]; exact hm25))
       | (refine ⟨rfl, ?_, ?_, fun a b h3 h7 h10 => by rw [hf24 a b h3 h7]; simp only [hset_ne (key_ne h3), hset_ne (key_ne h7), hset_ne (key_ne h10)]⟩; (rw [takeE, if_neg (by omega), if_pos (by omega), show (st.designed && x.passed) = x.passed by simp_all]; exact hp23); (rw [takeE, if_neg (by omega), if_pos (by omega)]; exact hm25))
       | (refine ⟨rfl, ?_, ?_, fun a b h3 h7 h10 => by rw [hf24 a b h3 h7]; simp only [hset_ne (key_ne h3), hset_ne (key_ne h7), hset_ne (key_ne h10)]⟩; (rw [takeE, if_neg (by omega), if_pos (by omega), show (st.designed && x.passed) = false by simp_all]; exact hp23); (rw [takeE, if_neg (by omega), if_pos (by omega)]; exact hm25))
       | (refine ⟨rfl, ?_, ?_, fun a b h3 h7 h10 => by rw [hf24 a b h3 h7]; simp only [hset_ne (key_ne h3), hset_ne (key_ne h7), hset_ne (key_ne h10)]⟩; (rw [takeE, if_neg (by omega), if_neg (by omega), if_pos (by omega)]; exact hp23); (rw [takeE, if_neg (by omega), if_neg (by omega), if_pos (by omega)]; exact hm25))
       | (refine ⟨rfl, ?_, ?_, fun a b h3 h7 h10 => by rw [hf24 a b h3 h7]; simp only [hset_ne (key_ne h3), hset_ne (key_ne h7), hset_ne (key_ne h10)]⟩; (rw [takeE, if_neg (by omega), if_neg (by omega), if_neg (by omega), if_pos (by omega)]; exact hp23); (rw [takeE, if_neg (by omega), if_neg (by omega), if_neg (by omega), if_pos (by omega)]; exact hm25))
       | (refine ⟨rfl, ?_, ?_, fun a b h3 h7 h10 => by rw [hf24 a b h3 h7]; simp only [hset_ne (key_ne h3), hset_ne (key_ne h7), hset_ne (key_ne h10)]⟩; (rw [takeE, if_neg (by omega), if_neg (by omega), if_neg (by omega), if_neg (by omega), if_pos (by omega)]; exact hp23); (rw [takeE, if_neg (by omega), if_neg (by omega), if_neg (by omega), if_neg (by omega), if_pos (by omega)]; exact hm25))
       | (refine ⟨rfl, ?_, ?_, fun a b h3 h7 h10 => by rw [hf24 a b h3 h7]; simp only [hset_ne (key_ne h3), hset_ne (key_ne h7), hset_ne (key_ne h10)]⟩; (rw [takeE, if_neg (by omega), if_neg (by omega), if_neg (by omega), if_neg (by omega), if_neg (by omega), if_pos (by omega)]; exact hp23); (rw [takeE, if_neg (by omega), if_neg (by omega), if_neg (by omega), if_neg (by omega), if_neg (by omega), if_pos (by omega)]; exact hm25))
       | (refine ⟨rfl, ?_, ?_, fun a b h3 h7 h10 => by rw [hf24 a b h3 h7]; simp only [hset_ne (key_ne h3), hset_ne (key_ne h7), hset_ne (key_ne h10)]⟩; (rw [takeE, if_neg (by omega), if_neg (by omega), if_neg (by omega), if_neg (by omega), if_neg (by omega), if_neg (by omega)]; exact hp23); (rw [takeE, if_neg (by omega), if_neg (by omega), if_neg (by omega), if_neg (by omega), if_neg (by omega), if_neg (by omega)]; exact hm25))
   ·have hb7R := hb7; try simp only [z1, z2, z3, z4, z5, z6, ne_eq, z7, z8, z9, z10, z11, z12] at hb7
    refine pwp_seq_plain rfl fun K26 hK26 => ?_
    refine p_step rfl (e_eq rfl rfl) trivial ?_
    refine p_step rfl (e_assign (v := .sc _) rfl) trivial ?_
    refine p_end (hK26 _ ?_); clear hK26 K26
    refine pwp_cond rfl (fun hb27 => ?_) (fun hb27 => ?_)
    ·have hb27R := hb27; try simp only [z1, z2, z3, z4, z5, z6, ne_eq, z7, z8, z9, z10, z11, z12] at hb27
     refine pwp_plain rfl fun K28 hK28 => ?_
     refine p_step rfl (e_move (v := .ptr _ _ _ _) rfl) trivial ?_
     refine p_step rfl (e_loadHA (n := 6) rfl (hset_self _ _ _) (by kernel_rfl) (by kernel_rfl) (by kernel_rfl) (by exact Nat.zero_lt_one) (by decide) rfl) trivial ?_
     refine p_hcall rfl (stInspect (st) x _ _ ((hset_ne (key_ne rfl)).trans hp)) fun v29 h30 c31 hR32 => ?_
     obtain ⟨rfl, hp33, hf34⟩ := hR32
     have hm35 := MapAt.keep (MapAt.keep hm ((hset_ne (key_ne rfl)).trans (rfl))) (hf34 10 _ rfl rfl)
     refine p_end (hK28 _ ?_); clear hK28 K28
     refine block_norm ?_
     refine end0n   ?_
     first
       | (refine ⟨rfl, ?_, ?_, fun a b h3 h7 h10 => by rw [hf34 a b h3 h7]; simp only [hset_ne (key_ne h3), hset_ne (key_ne h7), hset_ne (key_ne h10)]⟩; (rw [takeE, if_pos (by omega)]; exact hp33); (rw [takeE, if_pos (by omega)]; exact hm35))
       | (refine ⟨rfl, ?_, ?_, fun a b h3 h7 h10 => by rw [hf34 a b h3 h7]; simp only [hset_ne (key_ne h3), hset_ne (key_ne h7), hset_ne (key_ne h10)]⟩; (rw [takeE, if_neg (by omega), if_pos (by omega), show (st.designed && x.passed) = x.passed by simp_all]; exact hp33); (rw [takeE, if_neg (by omega), if_pos (by omega)]; exact hm35))
       | (refine ⟨rfl, ?_, ?_, fun a b h3 h7 h10 => by rw [hf34 a b h3 h7]; simp only [hset_ne (key_ne h3), hset_ne (key_ne h7), hset_ne (key_ne h10)]⟩; (rw [takeE, if_neg (by omega), if_pos (by omega), show (st.designed && x.passed) = false by simp_all]; exact hp33); (rw [takeE, if_neg (by omega), if_pos (by omega)]; exact hm35))
       | (refine ⟨rfl, ?_, ?_, fun a b h3 h7 h10 => by rw [hf34 a b h3 h7]; simp only [hset_ne (key_ne h3), hset_ne (key_ne h7), hset_ne (key_ne h10)]⟩; (rw [takeE, if_neg (by omega), if_neg (by omega), if_pos (by omega)]; exact hp33); (rw [takeE, if_neg (by omega), if_neg (by omega), if_pos (by omega)]; exact hm35))
       | (refine ⟨rfl, ?_, ?_, fun a b h3 h7 h10 => by rw [hf34 a b h3 h7]; simp only [hset_ne (key_ne h3), hset_ne (key_ne h7), hset_ne (key_ne h10)]⟩; (rw [takeE, if_neg (by omega), if_neg (by omega), if_neg (by omega), if_pos (by omega)]; exact hp33); (rw [takeE, if_neg (by omega), if_neg (by omega), if_neg (by omega), if_pos (by omega)]; exact hm35))
       | (refine ⟨rfl, ?_, ?_, fun a b h3 h7 h10 => by rw [hf34 a b h3 h7]; simp only [hset_ne (key_ne h3), hset_ne (key_ne h7), hset_ne (key_ne h10)]⟩; (rw [takeE, if_neg (by omega), if_neg (by omega), if_neg (by omega), if_neg (by omega), if_pos (by omega)]; exact hp33); (rw [takeE, if_neg (by omega), if_neg (by omega), if_neg (by omega), if_neg (by omega), if_pos (by omega)]; exact hm35))
       | (refine ⟨rfl, ?_, ?_, fun a b h3 h7 h10 => by rw [hf34 a b h3 h7]; simp only [hset_ne (key_ne h3), hset_ne (key_ne h7), hset_ne (key_ne h10)]⟩; (rw [takeE, if_neg (by omega), if_neg (by omega), if_neg (by omega), if_neg (by omega), if_neg (by omega), if_pos (by omega)]; exact hp33); (rw [takeE, if_neg (by omega), if_neg (by omega), if_neg (by omega), if_neg (by omega), if_neg (by omega), if_pos (by omega)]; exact hm35))
       | (refine ⟨rfl, ?_, ?_, fun a b h3 h7 h10 => by rw [hf34 a b h3 h7]; simp only [hset_ne (key_ne h3), hset_ne (key_ne h7), hset_ne (key_ne h10)]⟩; (rw [takeE, if_neg (by omega), if_neg (by omega), if_neg (by omega), if_neg (by omega), if_neg (by omega), if_neg (by omega)]; exact hp33); (rw [takeE, if_neg (by omega), if_neg (by omega), if_neg (by omega), if_neg (by omega), if_neg (by omega), if_neg (by omega)]; exact hm35))
    ·have hb27R := hb27; try simp only [z1, z2, z3, z4, z5, z6, ne_eq, z7, z8, z9, z10, z11, z12] at hb27
     refine pwp_seq_plain rfl fun K36 hK36 => ?_
     refine p_step rfl (e_eq rfl rfl) trivial ?_
     refine p_step rfl (e_assign (v := .sc _) rfl) trivial ?_
     refine p_end (hK36 _ ?_); clear hK36 K36
     refine pwp_cond rfl (fun hb37 => ?_) (fun hb37 => ?_)
     ·have hb37R := hb37; try simp only [z1, z2, z3, z4, z5, z6, ne_eq, z7, z8, z9, z10, z11, z12] at hb37
      refine pwp_gops rfl fun K38 hK38 => ?_
      refine s_begin ?_
      refine s_step [] (by simp) rfl rfl rfl rfl (e_move (v := .ptr _ _ _ _) rfl) trivial ?_
      refine s_step [] (by simp) rfl rfl rfl rfl (e_nilc rfl) trivial ?_
      refine s_step [] (by simp) rfl rfl rfl rfl (e_faP (pl := [(0, 1, false), (1, 1, false), (2, 1, false), (3, 1, false), (4, 1, false)]) rfl (by kernel_rfl) (by kernel_rfl) (by decide) rfl) trivial ?_
      refine s_step [7] (by simp) rfl rfl rfl rfl (e_loadH (v := .map _) rfl ((hset_ne (key_ne rfl)).trans hp) (by kernel_rfl) (by kernel_rfl) (by kernel_rfl) (by exact Nat.zero_lt_one) (by decide) rfl) trivial ?_
      refine s_step [] (by simp) rfl rfl rfl rfl (e_faP (pl := [(0, 1, false), (1, 1, false), (2, 1, false), (3, 1, false), (4, 1, false), (5, 1, false)]) rfl (by kernel_rfl) (by kernel_rfl) (by decide) rfl) trivial ?_
      refine s_step [3] (by simp) rfl rfl rfl rfl (e_loadH (v := .sc _) rfl (hset_self _ _ _) (by kernel_rfl) (by kernel_rfl) (by kernel_rfl) (by exact Nat.zero_lt_one) (by decide) rfl) trivial ?_
      refine s_step [] (by simp) rfl rfl rfl rfl (e_faP (pl := [(0, 1, false), (1, 1, false), (2, 1, false), (3, 1, false), (4, 1, false), (5, 1, false)]) rfl (by kernel_rfl) (by kernel_rfl) (by decide) rfl) trivial ?_
      refine s_step [3] (by simp) rfl rfl rfl rfl (e_loadH (v := .sc _) rfl (hset_self _ _ _) (by kernel_rfl) (by kernel_rfl) (by kernel_rfl) (by exact Nat.zero_lt_one) (by decide) rfl) trivial ?_
      refine s_store [10] (by simp) rfl rfl (e_mset (kt := 3) (et := 4) (f := kpi) (g := PV.bool) (a := x.number) (b := x.grave) (l := st.defs) kpi_eq kpi_ok rfl rfl rfl rfl (MapAt.keep hm ((hset_ne (key_ne rfl)).trans (rfl))) (by kernel_rfl)) trivial ?_
      refine s_end (ds := []) (by kernel_rfl) (by kernel_rfl) (hK38 _ ?_); clear hK38 K38
      refine block_norm ?_
      refine end0n   ?_
      first
        | (refine ⟨rfl, ?_, ?_, fun a b h3 h7 h10 => by simp only [hset_ne (key_ne h3), hset_ne (key_ne h7), hset_ne (key_ne h10)]⟩; (rw [takeE, if_pos (by omega)]; exact ((hset_ne (key_ne rfl)).trans ((hset_ne (key_ne rfl)).trans hp))); (rw [takeE, if_pos (by omega)]; exact (MapAt.set kpi_eq (MapAt.keep hm ((hset_ne (key_ne rfl)).trans (rfl))) x.number x.grave)))
        | (refine ⟨rfl, ?_, ?_, fun a b h3 h7 h10 => by simp only [hset_ne (key_ne h3), hset_ne (key_ne h7), hset_ne (key_ne h10)]⟩; (rw [takeE, if_neg (by omega), if_pos (by omega), show (st.designed && x.passed) = x.passed by simp_all]; exact ((hset_ne (key_ne rfl)).trans ((hset_ne (key_ne rfl)).trans hp))); (rw [takeE, if_neg (by omega), if_pos (by omega)]; exact (MapAt.set kpi_eq (MapAt.keep hm ((hset_ne (key_ne rfl)).trans (rfl))) x.number x.grave)))
        | (refine ⟨rfl, ?_, ?_, fun a b h3 h7 h10 => by simp only [hset_ne (key_ne h3), hset_ne (key_ne h7), hset_ne (key_ne h10)]⟩; (rw [takeE, if_neg (by omega), if_pos (by omega), show (st.designed && x.passed) = false by simp_all]; exact ((hset_ne (key_ne rfl)).trans ((hset_ne (key_ne rfl)).trans hp))); (rw [takeE, if_neg (by omega), if_pos (by omega)]; exact (MapAt.set kpi_eq (MapAt.keep hm ((hset_ne (key_ne rfl)).trans (rfl))) x.number x.grave)))
        | (refine ⟨rfl, ?_, ?_, fun a b h3 h7 h10 => by simp only [hset_ne (key_ne h3), hset_ne (key_ne h7), hset_ne (key_ne h10)]⟩; (rw [takeE, if_neg (by omega), if_neg (by omega), if_pos (by omega)]; exact ((hset_ne (key_ne rfl)).trans ((hset_ne (key_ne rfl)).trans hp))); (rw [takeE, if_neg (by omega), if_neg (by omega), if_pos (by omega)]; exact (MapAt.set kpi_eq (MapAt.keep hm ((hset_ne (key_ne rfl)).trans (rfl))) x.number x.grave)))
        | (refine ⟨rfl, ?_, ?_, fun a b h3 h7 h10 => by simp only [hset_ne (key_ne h3), hset_ne (key_ne h7), hset_ne (key_ne h10)]⟩; (rw [takeE, if_neg (by omega), if_neg (by omega), if_neg (by omega), if_pos (by omega)]; exact ((hset_ne (key_ne rfl)).trans ((hset_ne (key_ne rfl)).trans hp))); (rw [takeE, if_neg (by omega), if_neg (by omega), if_neg (by omega), if_pos (by omega)]; exact (MapAt.set kpi_eq (MapAt.keep hm ((hset_ne (key_ne rfl)).trans (rfl))) x.number x.grave)))
        | (refine ⟨rfl, ?_, ?_, fun a b h3 h7 h10 => by simp only [hset_ne (key_ne h3), hset_ne (key_ne h7), hset_ne (key_ne h10)]⟩; (rw [takeE, if_neg (by omega), if_neg (by omega), if_neg (by omega), if_neg (by omega), if_pos (by omega)]; exact ((hset_ne (key_ne rfl)).trans ((hset_ne (key_ne rfl)).trans hp))); (rw [takeE, if_neg (by omega), if_neg (by omega), if_neg (by omega), if_neg (by omega), if_pos (by omega)]; exact (MapAt.set kpi_eq (MapAt.keep hm ((hset_ne (key_ne rfl)).trans (rfl))) x.number x.grave)))
        | (refine ⟨rfl, ?_, ?_, fun a b h3 h7 h10 => by simp only [hset_ne (key_ne h3), hset_ne (key_ne h7), hset_ne (key_ne h10)]⟩; (rw [takeE, if_neg (by omega), if_neg (by omega), if_neg (by omega), if_neg (by omega), if_neg (by omega), if_pos (by omega)]; exact ((hset_ne (key_ne rfl)).trans ((hset_ne (key_ne rfl)).trans hp))); (rw [takeE, if_neg (by omega), if_neg (by omega), if_neg (by omega), if_neg (by omega), if_neg (by omega), if_pos (by omega)]; exact (MapAt.set kpi_eq (MapAt.keep hm ((hset_ne (key_ne rfl)).trans (rfl))) x.number x.grave)))
        | (refine ⟨rfl, ?_, ?_, fun a b h3 h7 h10 => by simp only [hset_ne (key_ne h3), hset_ne (key_ne h7), hset_ne (key_ne h10)]⟩; (rw [takeE, if_neg (by omega), if_neg (by omega), if_neg (by omega), if_neg (by omega), if_neg (by omega), if_neg (by omega)]; exact ((hset_ne (key_ne rfl)).trans ((hset_ne (key_ne rfl)).trans hp))); (rw [takeE, if_neg (by omega), if_neg (by omega), if_neg (by omega), if_neg (by omega), if_neg (by omega), if_neg (by omega)]; exact (MapAt.set kpi_eq (MapAt.keep hm ((hset_ne (key_ne rfl)).trans (rfl))) x.number x.grave)))
     ·have hb37R := hb37; try simp only [z1, z2, z3, z4, z5, z6, ne_eq, z7, z8, z9, z10, z11, z12] at hb37
      refine pwp_seq_plain rfl fun K39 hK39 => ?_
      refine p_step rfl (e_eq rfl rfl) trivial ?_
      refine p_step rfl (e_assign (v := .sc _) rfl) trivial ?_
      refine p_end (hK39 _ ?_); clear hK39 K39
      refine pwp_cond rfl (fun hb40 => ?_) (fun hb40 => ?_)
      ·have hb40R := hb40; try simp only [z1, z2, z3, z4, z5, z6, ne_eq, z7, z8, z9, z10, z11, z12] at hb40
       refine pwp_gops rfl fun K41 hK41 => ?_
       refine s_begin ?_
       refine s_step [] (by simp) rfl rfl rfl rfl (e_move (v := .ptr _ _ _ _) rfl) trivial ?_
       refine s_step [] (by simp) rfl rfl rfl rfl (e_nilc rfl) trivial ?_
       refine s_step [] (by simp) rfl rfl rfl rfl (e_faP (pl := [(0, 1, false), (1, 1, false), (2, 1, false), (3, 1, false), (4, 1, false)]) rfl (by kernel_rfl) (by kernel_rfl) (by decide) rfl) trivial ?_
       refine s_step [7] (by simp) rfl rfl rfl rfl (e_loadH (v := .map _) rfl ((hset_ne (key_ne rfl)).trans hp) (by kernel_rfl) (by kernel_rfl) (by kernel_rfl) (by exact Nat.zero_lt_one) (by decide) rfl) trivial ?_
       refine s_step [] (by simp) rfl rfl rfl rfl (e_faP (pl := [(0, 1, false), (1, 1, false), (2, 1, false), (3, 1, false), (4, 1, false), (5, 1, false)]) rfl (by kernel_rfl) (by kernel_rfl) (by decide) rfl) trivial ?_
       refine s_step [3] (by simp) rfl rfl rfl rfl (e_loadH (v := .sc _) rfl (hset_self _ _ _) (by kernel_rfl) (by kernel_rfl) (by kernel_rfl) (by exact Nat.zero_lt_one) (by decide) rfl) trivial ?_
       refine s_store [10] (by simp) rfl rfl (e_mdel (kt := 3) (et := 4) (f := kpi) (g := PV.bool) (a := x.number) (l := st.defs) kpi_eq kpi_ok rfl rfl (MapAt.keep hm ((hset_ne (key_ne rfl)).trans (rfl))) (by kernel_rfl) rfl) trivial ?_
       refine s_end (ds := []) (by kernel_rfl) (by kernel_rfl) (hK41 _ ?_); clear hK41 K41
       refine block_norm ?_
       refine end0n   ?_
       first
         | (refine ⟨rfl, ?_, ?_, fun a b h3 h7 h10 => by simp only [hset_ne (key_ne h3), hset_ne (key_ne h7), hset_ne (key_ne h10)]⟩; (rw [takeE, if_pos (by omega)]; exact ((hset_ne (key_ne rfl)).trans ((hset_ne (key_ne rfl)).trans hp))); (rw [takeE, if_pos (by omega)]; exact (MapAt.del kpi_eq (MapAt.keep hm ((hset_ne (key_ne rfl)).trans (rfl))) x.number)))
         | (refine ⟨rfl, ?_, ?_, fun a b h3 h7 h10 => by simp only [hset_ne (key_ne h3), hset_ne (key_ne h7), hset_ne (key_ne h10)]⟩; (rw [takeE, if_neg (by omega), if_pos (by omega), show (st.designed && x.passed) = x.passed by simp_all]; exact ((hset_ne (key_ne rfl)).trans ((hset_ne (key_ne rfl)).trans hp))); (rw [takeE, if_neg (by omega), if_pos (by omega)]; exact (MapAt.del kpi_eq (MapAt.keep hm ((hset_ne (key_ne rfl)).trans (rfl))) x.number)))
         | (refine ⟨rfl, ?_, ?_, fun a b h3 h7 h10 => by simp only [hset_ne (key_ne h3), hset_ne (key_ne h7), hset_ne (key_ne h10)]⟩; (rw [takeE, if_neg (by omega), if_pos (by omega), show (st.designed && x.passed) = false by simp_all]; exact ((hset_ne (key_ne rfl)).trans ((hset_ne (key_ne rfl)).trans hp))); (rw [takeE, if_neg (by omega), if_pos (by omega)]; exact (MapAt.del kpi_eq (MapAt.keep hm ((hset_ne (key_ne rfl)).trans (rfl))) x.number)))
         | (refine ⟨rfl, ?_, ?_, fun a b h3 h7 h10 => by simp only [hset_ne (key_ne h3), hset_ne (key_ne h7), hset_ne (key_ne h10)]⟩; (rw [takeE, if_neg (by omega), if_neg (by omega), if_pos (by omega)]; exact ((hset_ne (key_ne rfl)).trans ((hset_ne (key_ne rfl)).trans hp))); (rw [takeE, if_neg (by omega), if_neg (by omega), if_pos (by omega)]; exact (MapAt.del kpi_eq (MapAt.keep hm ((hset_ne (key_ne rfl)).trans (rfl))) x.number)))
         | (refine ⟨rfl, ?_, ?_, fun a b h3 h7 h10 => by simp only [hset_ne (key_ne h3), hset_ne (key_ne h7), hset_ne (key_ne h10)]⟩; (rw [takeE, if_neg (by omega), if_neg (by omega), if_neg (by omega), if_pos (by omega)]; exact ((hset_ne (key_ne rfl)).trans ((hset_ne (key_ne rfl)).trans hp))); (rw [takeE, if_neg (by omega), if_neg (by omega), if_neg (by omega), if_pos (by omega)]; exact (MapAt.del kpi_eq (MapAt.keep hm ((hset_ne (key_ne rfl)).trans (rfl))) x.number)))
         | (refine ⟨rfl, ?_, ?_, fun a b h3 h7 h10 => by simp only [hset_ne (key_ne h3), hset_ne (key_ne h7), hset_ne (key_ne h10)]⟩; (rw [takeE, if_neg (by omega), if_neg (by omega), if_neg (by omega), if_neg (by omega), if_pos (by omega)]; exact ((hset_ne (key_ne rfl)).trans ((hset_ne (key_ne rfl)).trans hp))); (rw [takeE, if_neg (by omega), if_neg (by omega), if_neg (by omega), if_neg (by omega), if_pos (by omega)]; exact (MapAt.del kpi_eq (MapAt.keep hm ((hset_ne (key_ne rfl)).trans (rfl))) x.number)))
         | (refine ⟨rfl, ?_, ?_, fun a b h3 h7 h10 => by simp only [hset_ne (key_ne h3), hset_ne (key_ne h7), hset_ne (key_ne h10)]⟩; (rw [takeE, if_neg (by omega), if_neg (by omega), if_neg (by omega), if_neg (by omega), if_neg (by omega), if_pos (by omega)]; exact ((hset_ne (key_ne rfl)).trans ((hset_ne (key_ne rfl)).trans hp))); (rw [takeE, if_neg (by omega), if_neg (by omega), if_neg (by omega), if_neg (by omega), if_neg (by omega), if_pos (by omega)]; exact (MapAt.del kpi_eq (MapAt.keep hm ((hset_ne (key_ne rfl)).trans (rfl))) x.number)))
         | (refine ⟨rfl, ?_, ?_, fun a b h3 h7 h10 => by simp only [hset_ne (key_ne h3), hset_ne (key_ne h7), hset_ne (key_ne h10)]⟩; (rw [takeE, if_neg (by omega), if_neg (by omega), if_neg (by omega), if_neg (by omega), if_neg (by omega), if_neg (by omega)]; exact ((hset_ne (key_ne rfl)).trans ((hset_ne (key_ne rfl)).trans hp))); (rw [takeE, if_neg (by omega), if_neg (by omega), if_neg (by omega), if_neg (by omega), if_neg (by omega), if_neg (by omega)]; exact (MapAt.del kpi_eq (MapAt.keep hm ((hset_ne (key_ne rfl)).trans (rfl))) x.number)))
      ·have hb40R := hb40; try simp only [z1, z2, z3, z4, z5, z6, ne_eq, z7, z8, z9, z10, z11, z12] at hb40
       refine pwp_seq_plain rfl fun K42 hK42 => ?_
       refine p_step rfl (e_eq rfl rfl) trivial ?_
       refine p_step rfl (e_assign (v := .sc _) rfl) trivial ?_
       refine p_end (hK42 _ ?_); clear hK42 K42
       refine pwp_cond rfl (fun hb43 => ?_) (fun hb43 => ?_)
       ·have hb43R := hb43; try simp only [z1, z2, z3, z4, z5, z6, ne_eq, z7, z8, z9, z10, z11, z12] at hb43
        refine pwp_plain rfl fun K44 hK44 => ?_
        refine p_step rfl (e_move (v := .ptr _ _ _ _) rfl) trivial ?_
        refine p_step rfl (e_nilc rfl) trivial ?_
        refine p_step rfl (e_faP (pl := [(0, 1, false), (1, 1, false), (2, 1, false), (3, 1, false), (4, 1, false)]) rfl (by kernel_rfl) (by kernel_rfl) (by decide) rfl) trivial ?_
        refine p_store rfl (e_store1 rfl ((hset_ne (key_ne rfl)).trans hp) rfl rfl rfl (by decide) (by kernel_rfl) rfl (by kernel_rfl)) trivial ?_
        refine p_end (hK44 _ ?_); clear hK44 K44
        refine block_norm ?_
        refine end0n   ?_
        first
          | (refine ⟨rfl, ?_, ?_, fun a b h3 h7 h10 => by simp only [hset_ne (key_ne h3), hset_ne (key_ne h7), hset_ne (key_ne h10)]⟩; (rw [takeE, if_pos (by omega)]; exact (hset_self _ _ _)); (rw [takeE, if_pos (by omega)]; exact (MapAt.keep hm ((hset_ne (key_ne rfl)).trans ((hset_ne (key_ne rfl)).trans (rfl))))))
          | (refine ⟨rfl, ?_, ?_, fun a b h3 h7 h10 => by simp only [hset_ne (key_ne h3), hset_ne (key_ne h7), hset_ne (key_ne h10)]⟩; (rw [takeE, if_neg (by omega), if_pos (by omega), show (st.designed && x.passed) = x.passed by simp_all]; exact (hset_self _ _ _)); (rw [takeE, if_neg (by omega), if_pos (by omega)]; exact (MapAt.keep hm ((hset_ne (key_ne rfl)).trans ((hset_ne (key_ne rfl)).trans (rfl))))))
          | (refine ⟨rfl, ?_, ?_, fun a b h3 h7 h10 => by simp only [hset_ne (key_ne h3), hset_ne (key_ne h7), hset_ne (key_ne h10)]⟩; (rw [takeE, if_neg (by omega), if_pos (by omega), show (st.designed && x.passed) = false by simp_all]; exact (hset_self _ _ _)); (rw [takeE, if_neg (by omega), if_pos (by omega)]; exact (MapAt.keep hm ((hset_ne (key_ne rfl)).trans ((hset_ne (key_ne rfl)).trans (rfl))))))
          | (refine ⟨rfl, ?_, ?_, fun a b h3 h7 h10 => by simp only [hset_ne (key_ne h3), hset_ne (key_ne h7), hset_ne (key_ne h10)]⟩; (rw [takeE, if_neg (by omega), if_neg (by omega), if_pos (by omega)]; exact (hset_self _ _ _)); (rw [takeE, if_neg (by omega), if_neg (by omega), if_pos (by omega)]; exact (MapAt.keep hm ((hset_ne (key_ne rfl)).trans ((hset_ne (key_ne rfl)).trans (rfl))))))
          | (refine ⟨rfl, ?_, ?_, fun a b h3 h7 h10 => by simp only [hset_ne (key_ne h3), hset_ne (key_ne h7), hset_ne (key_ne h10)]⟩; (rw [takeE, if_neg (by omega), if_neg (by omega), if_neg (by omega), if_pos (by omega)]; exact (hset_self _ _ _)); (rw [takeE, if_neg (by omega), if_neg (by omega), if_neg (by omega), if_pos (by omega)]; exact (MapAt.keep hm ((hset_ne (key_ne rfl)).trans ((hset_ne (key_ne rfl)).trans (rfl))))))
          | (refine ⟨rfl, ?_, ?_, fun a b h3 h7 h10 => by simp only [hset_ne (key_ne h3), hset_ne (key_ne h7), hset_ne (key_ne h10)]⟩; (rw [takeE, if_neg (by omega), if_neg (by omega), if_neg (by omega), if_neg (by omega), if_pos (by omega)]; exact (hset_self _ _ _)); (rw [takeE, if_neg (by omega), if_neg (by omega), if_neg (by omega), if_neg (by omega), if_pos (by omega)]; exact (MapAt.keep hm ((hset_ne (key_ne rfl)).trans ((hset_ne (key_ne rfl)).trans (rfl))))))
          | (refine ⟨rfl, ?_, ?_, fun a b h3 h7 h10 => by simp only [hset_ne (key_ne h3), hset_ne (key_ne h7), hset_ne (key_ne h10)]⟩; (rw [takeE, if_neg (by omega), if_neg (by omega), if_neg (by omega), if_neg (by omega), if_neg (by omega), if_pos (by omega)]; exact (hset_self _ _ _)); (rw [takeE, if_neg (by omega), if_neg (by omega), if_neg (by omega), if_neg (by omega), if_neg (by omega), if_pos (by omega)]; exact (MapAt.keep hm ((hset_ne (key_ne rfl)).trans ((hset_ne (key_ne rfl)).trans (rfl))))))
          | (refine ⟨rfl, ?_, ?_, fun a b h3 h7 h10 => by simp only [hset_ne (key_ne h3), hset_ne (key_ne h7), hset_ne (key_ne h10)]⟩; (rw [takeE, if_neg (by omega), if_neg (by omega), if_neg (by omega), if_neg (by omega), if_neg (by omega), if_neg (by omega)]; exact (hset_self _ _ _)); (rw [takeE, if_neg (by omega), if_neg (by omega), if_neg (by omega), if_neg (by omega), if_neg (by omega), if_neg (by omega)]; exact (MapAt.keep hm ((hset_ne (key_ne rfl)).trans ((hset_ne (key_ne rfl)).trans (rfl))))))
       ·have hb43R := hb43; try simp only [z1, z2, z3, z4, z5, z6, ne_eq, z7, z8, z9, z10, z11, z12] at hb43
        refine pwp_skip ?_
        refine block_norm ?_
        refine end0n   ?_
        first
          | (refine ⟨rfl, ?_, ?_, fun a b h3 h7 h10 => by simp only [hset_ne (key_ne h3), hset_ne (key_ne h7), hset_ne (key_ne h10)]⟩; (rw [takeE, if_pos (by omega)]; exact ((hset_ne (key_ne rfl)).trans hp)); (rw [takeE, if_pos (by omega)]; exact (MapAt.keep hm ((hset_ne (key_ne rfl)).trans (rfl)))))
          | (refine ⟨rfl, ?_, ?_, fun a b h3 h7 h10 => by simp only [hset_ne (key_ne h3), hset_ne (key_ne h7), hset_ne (key_ne h10)]⟩; (rw [takeE, if_neg (by omega), if_pos (by omega), show (st.designed && x.passed) = x.passed by simp_all]; exact ((hset_ne (key_ne rfl)).trans hp)); (rw [takeE, if_neg (by omega), if_pos (by omega)]; exact (MapAt.keep hm ((hset_ne (key_ne rfl)).trans (rfl)))))
          | (refine ⟨rfl, ?_, ?_, fun a b h3 h7 h10 => by simp only [hset_ne (key_ne h3), hset_ne (key_ne h7), hset_ne (key_ne h10)]⟩; (rw [takeE, if_neg (by omega), if_pos (by omega), show (st.designed && x.passed) = false by simp_all]; exact ((hset_ne (key_ne rfl)).trans hp)); (rw [takeE, if_neg (by omega), if_pos (by omega)]; exact (MapAt.keep hm ((hset_ne (key_ne rfl)).trans (rfl)))))
          | (refine ⟨rfl, ?_, ?_, fun a b h3 h7 h10 => by simp only [hset_ne (key_ne h3), hset_ne (key_ne h7), hset_ne (key_ne h10)]⟩; (rw [takeE, if_neg (by omega), if_neg (by omega), if_pos (by omega)]; exact ((hset_ne (key_ne rfl)).trans hp)); (rw [takeE, if_neg (by omega), if_neg (by omega), if_pos (by omega)]; exact (MapAt.keep hm ((hset_ne (key_ne rfl)).trans (rfl)))))
          | (refine ⟨rfl, ?_, ?_, fun a b h3 h7 h10 => by simp only [hset_ne (key_ne h3), hset_ne (key_ne h7), hset_ne (key_ne h10)]⟩; (rw [takeE, if_neg (by omega), if_neg (by omega), if_neg (by omega), if_pos (by omega)]; exact ((hset_ne (key_ne rfl)).trans hp)); (rw [takeE, if_neg (by omega), if_neg (by omega), if_neg (by omega), if_pos (by omega)]; exact (MapAt.keep hm ((hset_ne (key_ne rfl)).trans (rfl)))))
          | (refine ⟨rfl, ?_, ?_, fun a b h3 h7 h10 => by simp only [hset_ne (key_ne h3), hset_ne (key_ne h7), hset_ne (key_ne h10)]⟩; (rw [takeE, if_neg (by omega), if_neg (by omega), if_neg (by omega), if_neg (by omega), if_pos (by omega)]; exact ((hset_ne (key_ne rfl)).trans hp)); (rw [takeE, if_neg (by omega), if_neg (by omega), if_neg (by omega), if_neg (by omega), if_pos (by omega)]; exact (MapAt.keep hm ((hset_ne (key_ne rfl)).trans (rfl)))))
          | (refine ⟨rfl, ?_, ?_, fun a b h3 h7 h10 => by simp only [hset_ne (key_ne h3), hset_ne (key_ne h7), hset_ne (key_ne h10)]⟩; (rw [takeE, if_neg (by omega), if_neg (by omega), if_neg (by omega), if_neg (by omega), if_neg (by omega), if_pos (by omega)]; exact ((hset_ne (key_ne rfl)).trans hp)); (rw [takeE, if_neg (by omega), if_neg (by omega), if_neg (by omega), if_neg (by omega), if_neg (by omega), if_pos (by omega)]; exact (MapAt.keep hm ((hset_ne (key_ne rfl)).trans (rfl)))))
          | (refine ⟨rfl, ?_, ?_, fun a b h3 h7 h10 => by simp only [hset_ne (key_ne h3), hset_ne (key_ne h7), hset_ne (key_ne h10)]⟩; (rw [takeE, if_neg (by omega), if_neg (by omega), if_neg (by omega), if_neg (by omega), if_neg (by omega), if_neg (by omega)]; exact ((hset_ne (key_ne rfl)).trans hp)); (rw [takeE, if_neg (by omega), if_neg (by omega), if_neg (by omega), if_neg (by omega), if_neg (by omega), if_neg (by omega)]; exact (MapAt.keep hm ((hset_ne (key_ne rfl)).trans (rfl)))))


def stepE (p : ByteArray) (s : St) (x : Ev) : St :=
  let s' : St := if x.kind = 3 then { s with inspected := -1 } else s
  if x.platform = p then takeE s' x else s'
def stO (p : ByteArray) (day : Int) (s : St) : List Ev → St
  | [] => s
  | x :: l => if day < x.day then s else stO p day (stepE p s x) l
def St0 : St := ⟨false, false, false, -1, []⟩
def stateE (p : ByteArray) (day : Int) (l : List Ev) : St := stO p day St0 l
def soR (s : St) (v : PV) (h : Heap) : Prop := v = .agg (s.enc (10, 0)) ∧ MapAt h (10, 0) (entsOf kpi PV.bool s.defs)


theorem step_on {S st st' : St} {p : ByteArray} {day : Int} {x : Ev} {l : List Ev} (h : S = if day < x.day then st else stO p day (stepE p st x) l) (hd : ¬ day < x.day) (he : stepE p st x = st') : S = stO p day st' l := by
  rw [if_neg hd, he] at h; exact h

theorem frH89 : (inFrame Try.f89.ntmps (Try.f89.body.getD .skip) && Try.f89.results.toList.all (resScope Try.f89.ntmps)) = true := by kernel_rfl
theorem stateOf (evs : List Ev) (p : ByteArray) (day : Int) (hl : evs.length ≤ 405) : HCallsR Try.prog 89 [.lit true 6 (evs.map Ev.enc), .str p, .int day] (fun _ => none) (fun _ => 0) (fun v h _ => soR (stateE p day evs) v h) := by
  refine HCallsR.of_code Try.func89 rfl rfl (by kernel_rfl) mixed frH89 (by show _ ≤ 34; simp) ?_
  refine pwp_seq_plain rfl fun K1 hK1 => ?_
  refine p_new rfl (e_alloc (cs := [.bool false, .bool false, .bool false, .int 0, .sc (.map none)]) (n := 5) (by kernel_rfl) rfl (by decide)) (ob_alloc (by decide)) ?_
  refine p_end (hK1 _ ?_); clear hK1 K1
  refine pwp_seq_plain rfl fun K2 hK2 => ?_
  refine p_new rfl (e_mkmap) trivial ?_
  refine p_step rfl (e_build (zs := [.bool false, .bool false, .bool false, .int 0, .sc (.map none)]) (pl := [(0, 1, false), (1, 1, false), (2, 1, false), (3, 1, false), (4, 1, false)]) (by kernel_rfl) (by kernel_rfl) (by kernel_rfl) rfl rfl (by exact ⟨by decide, rfl, Nat.le_of_ble_eq_true rfl, rfl, ⟨by decide, rfl, Nat.le_of_ble_eq_true rfl, rfl, trivial⟩⟩) rfl) trivial ?_
  refine p_new rfl (e_alloc (cs := [.bool false, .bool false, .bool false, .int 0, .sc (.map none)]) (n := 5) (by kernel_rfl) rfl (by decide)) (ob_alloc (by decide)) ?_
  refine p_store rfl (e_storeA rfl (hset_self _ _ _) rfl rfl rfl (by kernel_rfl) rfl (by kernel_rfl)) trivial ?_
  refine p_end (hK2 _ ?_); clear hK2 K2
  refine pwp_seq_seq ?_
  refine pwp_seq_plain rfl fun K3 hK3 => ?_
  refine p_step rfl (e_move (v := .lit _ _ _) rfl) trivial ?_
  refine p_step rfl (e_len rfl (by kernel_rfl)) trivial ?_
  refine p_step rfl (e_move (v := .sc _) rfl) trivial ?_
  refine p_end (hK3 _ ?_); clear hK3 K3
  refine pwp_seq_block fun K4 hK4 => ?_
  refine pwp_loopR (α := Nat × St) [1, 2, 6, 7, 12, 13] (fun (a5 : Nat × St) => [(14, .int (a5.1))]) (fun (a5 : Nat × St) (h : Heap) (_ : Nat → Nat) => ((a5.1) ≤ evs.length) ∧ (stateE p day evs = stO p day (a5.2) (evs.drop (a5.1))) ∧ (h (6, 0) = some (.rows 5 [[.bool false, .bool false, .bool false, .int 0, .sc (.map none)]])) ∧ (h (7, 0) = some (.rows 5 [St.enc (a5.2) (10, 0)])) ∧ (MapAt h (10, 0) (entsOf kpi PV.bool (a5.2).defs))) (fun (a5 : Nat × St) => evs.length - (a5.1)) (0, St0) (by exact ⟨rfl, trivial⟩) (by exact ⟨by exact Nat.zero_le _, by exact rfl, ((hset_ne (key_ne rfl)).trans ((hset_ne (key_ne rfl)).trans ((hset_ne (key_ne rfl)).trans (hset_self _ _ _)))), (hset_self _ _ _), (MapAt.keep MapAt.new ((hset_ne (key_ne rfl)).trans ((hset_ne (key_ne rfl)).trans (rfl))))⟩) fun a5 r6 h7 c8 hj9 => ?_
  obtain ⟨k, st⟩ := a5
  obtain ⟨hk, hinv, hihj9_0, hihj9_1, hihj9_2⟩ := hj9
  try dsimp only at hk
  try dsimp only at hinv
  try dsimp only at hihj9_0
  try dsimp only at hihj9_1
  try dsimp only at hihj9_2
  show pwp _ _ (loopQ _ _ _) ⟨sets (mix _ _ _) [(14, .int k)], _, _⟩
  refine pwp_seq_plain rfl fun K10 hK10 => ?_
  refine p_step rfl (e_lt rfl rfl) trivial ?_
  refine p_end (hK10 _ ?_); clear hK10 K10
  refine pwp_seq_cond rfl fun K11 hK11 => ⟨fun hb12 => ?_, fun hb12 => ?_⟩
  ·have hb12R := hb12; try simp only [z1, z2, z3, z4, z5, z6, ne_eq, z7, z8, z9, z10, z11, z12] at hb12
   obtain ⟨x, hx, hd, ht⟩ := get_lt (xs := evs) (i := k) (by omega)
   rw [hd] at hinv; simp only [stO] at hinv
   refine pwp_skip ?_
   refine seq_norm (hK11 _ ?_); clear hK11 K11
   refine pwp_seq_block fun K13 hK13 => ?_
   refine pwp_seq_plain rfl fun K14 hK14 => ?_
   refine p_step rfl (e_ixa rfl rfl (by kernel_rfl) (by kernel_rfl) (by simp only [List.length_map]; omega)) trivial ?_
   refine p_step rfl (e_loadA (n := 6) rfl (by kernel_rfl) (by kernel_rfl) (by kernel_rfl) (by simp only [List.length_map]; omega) (by decide) (by first | exact agg_map hx rfl)) trivial ?_
   refine p_new rfl (e_alloc (cs := [.int 0, .int 0, .str ByteArray.empty, .int 0, .bool false, .bool false]) (n := 6) (by kernel_rfl) rfl (by decide)) (ob_alloc (by decide)) ?_
   refine p_store rfl (e_storeA rfl (hset_self _ _ _) rfl rfl rfl (by kernel_rfl) rfl (by kernel_rfl)) trivial ?_
   refine p_end (hK14 _ ?_); clear hK14 K14
   refine pwp_seq_seq ?_
   refine pwp_seq_plain rfl fun K15 hK15 => ?_
   refine p_step rfl (e_faP (pl := [(0, 1, false), (1, 1, false), (2, 1, false), (3, 1, false), (4, 1, false), (5, 1, false)]) rfl (by kernel_rfl) (by kernel_rfl) (by decide) rfl) trivial ?_
   refine p_step rfl (e_loadH (v := .sc _) rfl (hset_self _ _ _) (by kernel_rfl) (by kernel_rfl) (by kernel_rfl) (by exact Nat.zero_lt_one) (by decide) rfl) trivial ?_
   refine p_step rfl (e_move (v := .sc _) rfl) trivial ?_
   refine p_step rfl (e_gt rfl rfl) trivial ?_
   refine p_end (hK15 _ ?_); clear hK15 K15
   refine pwp_seq_cond rfl fun K16 hK16 => ⟨fun hb17 => ?_, fun hb17 => ?_⟩
   ·have hb17R := hb17; try simp only [z1, z2, z3, z4, z5, z6, ne_eq, z7, z8, z9, z10, z11, z12] at hb17
    refine pwp_exit ?_
    refine exit_seq ?_
    clear hK16 K16
    refine exit_block (by decide) ?_
    refine exit_seq ?_
    clear hK13 K13
    refine exit_loop ?_
    refine exit_here ?_
    refine seq_norm (hK4 _ ?_); clear hK4 K4
    refine pwp_seq_plain rfl fun K18 hK18 => ?_
    refine p_step rfl (e_loadHA (n := 5) rfl ((hset_ne (key_ne rfl)).trans ((hset_ne (key_ne rfl)).trans hihj9_1)) (by kernel_rfl) (by kernel_rfl) (by kernel_rfl) (by exact Nat.zero_lt_one) (by decide) rfl) trivial ?_
    refine p_store rfl (e_storeA rfl ((hset_ne (key_ne rfl)).trans ((hset_ne (key_ne rfl)).trans hihj9_0)) rfl rfl rfl (by kernel_rfl) rfl (by kernel_rfl)) trivial ?_
    refine p_end (hK18 _ ?_); clear hK18 K18
    refine pwp_ret ?_
    refine endC rfl (hset_self _ _ _) (by kernel_rfl) (by kernel_rfl) (by kernel_rfl) rfl ?_
    first
      | exact ⟨by rw [hinv, if_pos (by omega)]; rfl, by rw [hinv, if_pos (by omega)]; exact (MapAt.keep hihj9_2 ((hset_ne (key_ne rfl)).trans ((hset_ne (key_ne rfl)).trans ((hset_ne (key_ne rfl)).trans (rfl)))))⟩
      | exact ⟨by rw [hinv]; rfl, by rw [hinv]; exact (MapAt.keep hihj9_2 ((hset_ne (key_ne rfl)).trans ((hset_ne (key_ne rfl)).trans ((hset_ne (key_ne rfl)).trans (rfl)))))⟩
   ·have hb17R := hb17; try simp only [z1, z2, z3, z4, z5, z6, ne_eq, z7, z8, z9, z10, z11, z12] at hb17
    refine pwp_skip ?_
    refine seq_norm (hK16 _ ?_); clear hK16 K16
    refine pwp_seq_seq ?_
    refine pwp_seq_plain rfl fun K19 hK19 => ?_
    refine p_step rfl (e_faP (pl := [(0, 1, false), (1, 1, false), (2, 1, false), (3, 1, false), (4, 1, false), (5, 1, false)]) rfl (by kernel_rfl) (by kernel_rfl) (by decide) rfl) trivial ?_
    refine p_step rfl (e_loadH (v := .sc _) rfl (hset_self _ _ _) (by kernel_rfl) (by kernel_rfl) (by kernel_rfl) (by exact Nat.zero_lt_one) (by decide) rfl) trivial ?_
    refine p_step rfl (e_eq rfl rfl) trivial ?_
    refine p_end (hK19 _ ?_); clear hK19 K19
    refine pwp_seq_cond rfl fun K20 hK20 => ⟨fun hb21 => ?_, fun hb21 => ?_⟩
    ·have hb21R := hb21; try simp only [z1, z2, z3, z4, z5, z6, ne_eq, z7, z8, z9, z10, z11, z12] at hb21
     refine pwp_plain rfl fun K22 hK22 => ?_
     refine p_step rfl (e_faP (pl := [(0, 1, false), (1, 1, false), (2, 1, false), (3, 1, false), (4, 1, false)]) rfl (by kernel_rfl) (by kernel_rfl) (by decide) rfl) trivial ?_
     refine p_store rfl (e_store1 rfl ((hset_ne (key_ne rfl)).trans ((hset_ne (key_ne rfl)).trans hihj9_1)) rfl rfl rfl (by decide) (by kernel_rfl) rfl (by kernel_rfl)) trivial ?_
     refine p_end (hK22 _ ?_); clear hK22 K22
     refine seq_norm (hK20 _ ?_); clear hK20 K20
     refine pwp_seq_plain rfl fun K23 hK23 => ?_
     refine p_step rfl (e_faP (pl := [(0, 1, false), (1, 1, false), (2, 1, false), (3, 1, false), (4, 1, false), (5, 1, false)]) rfl (by kernel_rfl) (by kernel_rfl) (by decide) rfl) trivial ?_
     refine p_step rfl (e_loadH (v := .sc _) rfl ((hset_ne (key_ne rfl)).trans (hset_self _ _ _)) (by kernel_rfl) (by kernel_rfl) (by kernel_rfl) (by exact Nat.zero_lt_one) (by decide) rfl) trivial ?_
     refine p_step rfl (e_move (v := .sc _) rfl) trivial ?_
     refine p_step rfl (e_seq rfl rfl) trivial ?_
     refine p_end (hK23 _ ?_); clear hK23 K23
     refine pwp_cond rfl (fun hb24 => ?_) (fun hb24 => ?_)
     ·have hb24R := hb24; try simp only [z1, z2, z3, z4, z5, z6, ne_eq, z7, z8, z9, z10, z11, z12] at hb24
      refine pwp_plain rfl fun K25 hK25 => ?_
      refine p_step rfl (e_loadHA (n := 6) rfl ((hset_ne (key_ne rfl)).trans (hset_self _ _ _)) (by kernel_rfl) (by kernel_rfl) (by kernel_rfl) (by exact Nat.zero_lt_one) (by decide) rfl) trivial ?_
      refine p_hcall rfl (stTake ({ st with inspected := (-1) }) x _ _ (hset_self _ _ _) (MapAt.keep hihj9_2 ((hset_ne (key_ne rfl)).trans ((hset_ne (key_ne rfl)).trans ((hset_ne (key_ne rfl)).trans (rfl)))))) fun v26 h27 c28 hR29 => ?_
      obtain ⟨rfl, hp30, hm32, hf31⟩ := hR29
      have ho33 := (hf31 6 _ rfl rfl rfl).trans ((hset_ne (key_ne rfl)).trans ((hset_ne (key_ne rfl)).trans ((hset_ne (key_ne rfl)).trans hihj9_0)))
      have ho34 := (hf31 9 _ rfl rfl rfl).trans ((hset_ne (key_ne rfl)).trans (hset_self _ _ _))
      refine p_end (hK25 _ ?_); clear hK25 K25
      refine block_norm ?_
      refine seq_norm (hK13 _ ?_); clear hK13 K13
      refine pwp_plain rfl fun K35 hK35 => ?_
      refine p_step rfl (e_add rfl rfl (by omega)) trivial ?_
      refine p_step rfl (e_move (v := .sc _) rfl) trivial ?_
      refine p_end (hK35 _ ?_); clear hK35 K35
      exact loop_again ((k + 1, (takeE ({ st with inspected := (-1) }) x))) (by show _ < _; simp only; omega) ⟨rfl, rfl, rfl, rfl, rfl, rfl, trivial⟩ ⟨rfl, trivial⟩ (by exact ⟨by show _ + 1 ≤ _; omega, by exact step_on hinv (by omega) (by unfold stepE; first | (rw [if_pos (by omega), if_pos (by assumption)]; done) | (rw [if_pos (by omega), if_neg (by assumption)]; done) | (rw [if_neg (by omega), if_pos (by assumption)]; done) | (rw [if_neg (by omega), if_neg (by assumption)]; done)), ho33, hp30, hm32⟩)
     ·have hb24R := hb24; try simp only [z1, z2, z3, z4, z5, z6, ne_eq, z7, z8, z9, z10, z11, z12] at hb24
      refine pwp_skip ?_
      refine block_norm ?_
      refine seq_norm (hK13 _ ?_); clear hK13 K13
      refine pwp_plain rfl fun K36 hK36 => ?_
      refine p_step rfl (e_add rfl rfl (by omega)) trivial ?_
      refine p_step rfl (e_move (v := .sc _) rfl) trivial ?_
      refine p_end (hK36 _ ?_); clear hK36 K36
      exact loop_again ((k + 1, { st with inspected := (-1) })) (by show _ < _; simp only; omega) ⟨rfl, rfl, rfl, rfl, rfl, rfl, trivial⟩ ⟨rfl, trivial⟩ (by exact ⟨by show _ + 1 ≤ _; omega, by exact step_on hinv (by omega) (by unfold stepE; first | (rw [if_pos (by omega), if_pos (by assumption)]; done) | (rw [if_pos (by omega), if_neg (by assumption)]; done) | (rw [if_neg (by omega), if_pos (by assumption)]; done) | (rw [if_neg (by omega), if_neg (by assumption)]; done)), ((hset_ne (key_ne rfl)).trans ((hset_ne (key_ne rfl)).trans ((hset_ne (key_ne rfl)).trans hihj9_0))), (hset_self _ _ _), (MapAt.keep hihj9_2 ((hset_ne (key_ne rfl)).trans ((hset_ne (key_ne rfl)).trans ((hset_ne (key_ne rfl)).trans (rfl)))))⟩)
    ·have hb21R := hb21; try simp only [z1, z2, z3, z4, z5, z6, ne_eq, z7, z8, z9, z10, z11, z12] at hb21
     refine pwp_skip ?_
     refine seq_norm (hK20 _ ?_); clear hK20 K20
     refine pwp_seq_plain rfl fun K37 hK37 => ?_
     refine p_step rfl (e_faP (pl := [(0, 1, false), (1, 1, false), (2, 1, false), (3, 1, false), (4, 1, false), (5, 1, false)]) rfl (by kernel_rfl) (by kernel_rfl) (by decide) rfl) trivial ?_
     refine p_step rfl (e_loadH (v := .sc _) rfl (hset_self _ _ _) (by kernel_rfl) (by kernel_rfl) (by kernel_rfl) (by exact Nat.zero_lt_one) (by decide) rfl) trivial ?_
     refine p_step rfl (e_move (v := .sc _) rfl) trivial ?_
     refine p_step rfl (e_seq rfl rfl) trivial ?_
     refine p_end (hK37 _ ?_); clear hK37 K37
     refine pwp_cond rfl (fun hb38 => ?_) (fun hb38 => ?_)
     ·have hb38R := hb38; try simp only [z1, z2, z3, z4, z5, z6, ne_eq, z7, z8, z9, z10, z11, z12] at hb38
      refine pwp_plain rfl fun K39 hK39 => ?_
      refine p_step rfl (e_loadHA (n := 6) rfl (hset_self _ _ _) (by kernel_rfl) (by kernel_rfl) (by kernel_rfl) (by exact Nat.zero_lt_one) (by decide) rfl) trivial ?_
      refine p_hcall rfl (stTake (st) x _ _ ((hset_ne (key_ne rfl)).trans ((hset_ne (key_ne rfl)).trans hihj9_1)) (MapAt.keep hihj9_2 ((hset_ne (key_ne rfl)).trans ((hset_ne (key_ne rfl)).trans (rfl))))) fun v40 h41 c42 hR43 => ?_
      obtain ⟨rfl, hp44, hm46, hf45⟩ := hR43
      have ho47 := (hf45 6 _ rfl rfl rfl).trans ((hset_ne (key_ne rfl)).trans ((hset_ne (key_ne rfl)).trans hihj9_0))
      have ho48 := (hf45 9 _ rfl rfl rfl).trans (hset_self _ _ _)
      refine p_end (hK39 _ ?_); clear hK39 K39
      refine block_norm ?_
      refine seq_norm (hK13 _ ?_); clear hK13 K13
      refine pwp_plain rfl fun K49 hK49 => ?_
      refine p_step rfl (e_add rfl rfl (by omega)) trivial ?_
      refine p_step rfl (e_move (v := .sc _) rfl) trivial ?_
      refine p_end (hK49 _ ?_); clear hK49 K49
      exact loop_again ((k + 1, (takeE (st) x))) (by show _ < _; simp only; omega) ⟨rfl, rfl, rfl, rfl, rfl, rfl, trivial⟩ ⟨rfl, trivial⟩ (by exact ⟨by show _ + 1 ≤ _; omega, by exact step_on hinv (by omega) (by unfold stepE; first | (rw [if_pos (by omega), if_pos (by assumption)]; done) | (rw [if_pos (by omega), if_neg (by assumption)]; done) | (rw [if_neg (by omega), if_pos (by assumption)]; done) | (rw [if_neg (by omega), if_neg (by assumption)]; done)), ho47, hp44, hm46⟩)
     ·have hb38R := hb38; try simp only [z1, z2, z3, z4, z5, z6, ne_eq, z7, z8, z9, z10, z11, z12] at hb38
      refine pwp_skip ?_
      refine block_norm ?_
      refine seq_norm (hK13 _ ?_); clear hK13 K13
      refine pwp_plain rfl fun K50 hK50 => ?_
      refine p_step rfl (e_add rfl rfl (by omega)) trivial ?_
      refine p_step rfl (e_move (v := .sc _) rfl) trivial ?_
      refine p_end (hK50 _ ?_); clear hK50 K50
      exact loop_again ((k + 1, st)) (by show _ < _; simp only; omega) ⟨rfl, rfl, rfl, rfl, rfl, rfl, trivial⟩ ⟨rfl, trivial⟩ (by exact ⟨by show _ + 1 ≤ _; omega, by exact step_on hinv (by omega) (by unfold stepE; first | (rw [if_pos (by omega), if_pos (by assumption)]; done) | (rw [if_pos (by omega), if_neg (by assumption)]; done) | (rw [if_neg (by omega), if_pos (by assumption)]; done) | (rw [if_neg (by omega), if_neg (by assumption)]; done)), ((hset_ne (key_ne rfl)).trans ((hset_ne (key_ne rfl)).trans hihj9_0)), ((hset_ne (key_ne rfl)).trans ((hset_ne (key_ne rfl)).trans hihj9_1)), (MapAt.keep hihj9_2 ((hset_ne (key_ne rfl)).trans ((hset_ne (key_ne rfl)).trans (rfl))))⟩)
  ·have hb12R := hb12; try simp only [z1, z2, z3, z4, z5, z6, ne_eq, z7, z8, z9, z10, z11, z12] at hb12
   obtain rfl : k = evs.length := by omega
   rw [List.drop_length] at hinv; simp only [stO] at hinv
   refine pwp_exit ?_
   refine exit_seq ?_
   clear hK11 K11
   refine exit_loop ?_
   refine exit_here ?_
   refine seq_norm (hK4 _ ?_); clear hK4 K4
   refine pwp_seq_plain rfl fun K51 hK51 => ?_
   refine p_step rfl (e_loadHA (n := 5) rfl hihj9_1 (by kernel_rfl) (by kernel_rfl) (by kernel_rfl) (by exact Nat.zero_lt_one) (by decide) rfl) trivial ?_
   refine p_store rfl (e_storeA rfl hihj9_0 rfl rfl rfl (by kernel_rfl) rfl (by kernel_rfl)) trivial ?_
   refine p_end (hK51 _ ?_); clear hK51 K51
   refine pwp_ret ?_
   refine endC rfl (hset_self _ _ _) (by kernel_rfl) (by kernel_rfl) (by kernel_rfl) rfl ?_
   first
     | exact ⟨by rw [hinv, if_pos (by omega)]; rfl, by rw [hinv, if_pos (by omega)]; exact (MapAt.keep hihj9_2 ((hset_ne (key_ne rfl)).trans (rfl)))⟩
     | exact ⟨by rw [hinv]; rfl, by rw [hinv]; exact (MapAt.keep hihj9_2 ((hset_ne (key_ne rfl)).trans (rfl)))⟩

end Go.Proofs.Ytdbpfhbppcpbbaa
