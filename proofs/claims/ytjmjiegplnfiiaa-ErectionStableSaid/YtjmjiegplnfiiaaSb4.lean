/- The frame of a scaffold is read. No conditions. -/
import Derived.Test.YtjmjiegplnfiiaaSbA
set_option linter.unusedSimpArgs false
set_option linter.unusedVariables false
set_option maxRecDepth 100000
set_option maxHeartbeats 2000000
namespace Go.Proofs.Ytjmjiegplnfiiaa
open Go Go.Pv
theorem FrI.known {s' : PS} {s : Scaffold} {q ge gb gm gr gh gl b kh : Nat} (hk : Known s') (h : FrI s'.h s q ge gb gm gr gh gl b kh) : FrI s'.h s q ge gb gm gr gh gl b kh := h
theorem Fr.getL {h : Heap} {s : Scaffold} {q ge gb gm gr gh gl : Nat} {ve vb vm vr : List PV} {lh lr : List ((Int × Int) × PV)} {b kh : Nat} (hn : Fr h s q ge gb gm gr gh gl ve vb vm vr lh lr b kh) (a : Int × Int) :
   (aGet a lr = some ((aGet a lr).getD .nil) ∨ (aGet a lr).getD .nil = .nil) ∧ ∃ R : Pv.Rows, (SliceAt h 190 ((aGet a lr).getD .nil) 1 R ∨ SliceAt h 190 ((aGet a lr).getD .nil) 1 R) ∧ R.length ≤ b := by
 cases q : aGet a lr with
 | none => exact ⟨.inr rfl, [], .inl .nil, Nat.zero_le _⟩
 | some u =>
   obtain ⟨R, h1, h2⟩ := hn.ol.at_ a u q
   exact ⟨.inl rfl, R, h1, h2⟩
def abM (m : Member) (j : Nat) : Int := if j = 0 then m.a else m.b
theorem abM_get {m : Member} {j : Nat} (h : j < 2) : [PV.int m.a, PV.int m.b].getD ((j : Int)).toNat .dead = .int (abM m j) := by
 match j, h with
 | 0, _ => rfl
 | 1, _ => rfl
theorem abM_rng {m : Member} {j : Nat} {n : Int} (h1 : 0 ≤ m.a ∧ m.a < n) (h2 : 0 ≤ m.b ∧ m.b < n) : 0 ≤ abM m j ∧ abM m j < n := by
 rw [abM]; split <;> assumption
/-- What reading hands back. -/
def FrmR (s : Scaffold) (v : PV) (h' : Heap) : Prop :=
 (scfE s ≠ 0 ∧ v = .tup [.sc (.pointer none), .int (scfE s)]) ∨ (scfE s = 0 ∧ ∃ q ge gb gm gr gh gl b, v = .tup [.ptr (31, q) 8 0 0, .int 0] ∧ FrI h' s q ge gb gm gr gh gl b s.members.length ∧ h' (2, 0) = some (.rows 2 [Scaffold.enc s]))
theorem frm_0 {s : Scaffold} {v : PV} {h' : Heap} (hs : scfE s = 0) (h : FrmR s v h') : ∃ q ge gb gm gr gh gl b ve vb vm vr lh lr, v = .tup [.ptr (31, q) 8 0 0, .int 0] ∧ Fr h' s q ge gb gm gr gh gl ve vb vm vr lh lr b s.members.length ∧ h' (2, 0) = some (.rows 2 [Scaffold.enc s]) := by
 rcases h with ⟨h1, _⟩ | ⟨_, q, ge, gb, gm, gr, gh, gl, b, h1, ⟨ve, vb, vm, vr, lh, lr, h2⟩, h3⟩
 · exact absurd hs h1
 · exact ⟨q, ge, gb, gm, gr, gh, gl, b, ve, vb, vm, vr, lh, lr, h1, h2, h3⟩
theorem frm_e {s : Scaffold} {v : PV} {h' : Heap} (hs : scfE s ≠ 0) (h : FrmR s v h') : v = .tup [.sc (.pointer none), .int (scfE s)] := by
 rcases h with ⟨_, h1⟩ | ⟨h1, _⟩
 · exact h1
 · exact absurd h1 hs

theorem frH100 : (inFrame Try.f100.ntmps (Try.f100.body.getD .skip) && Try.f100.results.toList.all (resScope Try.f100.ntmps)) = true := by kernel_rfl
theorem readF (h0 : Heap) (c0 : Nat → Nat) (s : Scaffold) (hs1 : s.nodes.length ≤ 30) (hs2 : s.members.length ≤ 40) (hB : h0 (2, 0) = some (.rows 2 [Scaffold.enc s])) : HCallsR Try.prog 100 [.agg s.enc] h0 c0 (fun v h' _ => FrmR s v h') := by
 refine HCallsR.of_code Try.func100 rfl rfl (by kernel_rfl) mixed frH100 (by show _ ≤ 194; simp) (pwp_seq_plain rfl fun K1 hK1 => p_new rfl (e_box (n := 2) rfl rfl) ⟨rfl, by decide⟩ (p_aS rfl (p_aS rfl (p_end (hK1 _ ?_))))); clear hK1 K1
 refine pwp_seq_seq (pwp_seq_plain rfl fun K2 hK2 => p_e rfl (e_loadHA (cs := Scaffold.enc (s)) (n := 2) rfl (hset_self _ _ _) (by kernel_rfl) (by kernel_rfl) (by kernel_rfl) (by exact Nat.zero_lt_one) (by decide) rfl) (p_call rfl (.cons (inn_agg (Scaffold.pure _)) .nil) (CheckScf s (by omega) (by omega)) (p_aS rfl (p_end (hK2 _ ?_))))); clear hK2 K2
 refine pwp_seq_seq (pwp_seq_plain rfl fun K3 hK3 => p_mS rfl (p_e rfl (e_ne rfl rfl) (p_end (hK3 _ ?_)))); clear hK3 K3
 refine pwp_seq_cond rfl fun K4 hK4 => ⟨fun hb5 => ?_, fun hb5 => ?_⟩
 ·have hb5R := hb5; try simp only [zz] at hb5
  refine pwp_seq_plain rfl fun K6 hK6 => p_mS rfl (p_aS rfl (p_aS rfl (p_end (hK6 _ ?_)))); clear hK6 K6
  refine pwp_ret (ret_seq (end2 (v := .sc _) (w := .sc _) rfl rfl ?_))
  first
    | exact .inl ⟨(by assumption), rfl⟩
    | exact .inr ⟨hsc, _, _, _, _, _, _, _, _, rfl, hkk ▸ hfr, ((hset_ne (key_ne rfl)).trans hB)⟩
 ·have hb5R := hb5; try simp only [zz] at hb5
  refine pwp_skip (seq_norm (hK4 _ ?_)); clear hK4 K4
  have hsc : scfE s = 0 := (by assumption)
  refine pwp_seq_plain rfl fun K7 hK7 => p_e rfl (e_faQ pl2 rfl) (p_e rfl (e_lH (v := .lit _ _ _) rfl (hset_self _ _ _) rfl) (p_e rfl (e_len rfl (by kernel_rfl)) (p_aS rfl (p_end (hK7 _ ?_))))); clear hK7 K7
  refine pwp_seq_gops rfl fun K8 hK8 => s_begin (s_step [1] (by simp) rfl rfl rfl rfl (e_loadHA (n := 2) (cs := s.enc) rfl (hset_self _ _ _) (by kernel_rfl) (by kernel_rfl) (by kernel_rfl) (by exact Nat.zero_lt_one) (by decide) rfl) trivial (s_e rfl (e_move (v := .sc _) rfl) (s_new [] (by simp) rfl rfl rfl rfl (e_mkV (n := s.nodes.length) rfl rfl (by rw [List.length_map]) (by kernel_rfl) (by kernel_rfl) (by kernel_rfl) (by decide +kernel) (by omega)) trivial (s_e rfl (e_move (v := .sc _) rfl) (s_new [] (by simp) rfl rfl rfl rfl (e_mkV (n := s.nodes.length) rfl rfl (by rw [List.length_map]) (by kernel_rfl) (by kernel_rfl) (by kernel_rfl) (by decide +kernel) (by omega)) trivial (s_e rfl (e_move (v := .sc _) rfl) ?_))))))
  refine s_new [] (by simp) rfl rfl rfl rfl (e_mkV (n := s.nodes.length) rfl rfl (by rw [List.length_map]) (by kernel_rfl) (by kernel_rfl) (by kernel_rfl) (by decide +kernel) (by omega)) trivial (s_e rfl (e_move (v := .sc _) rfl) (s_new [] (by simp) rfl rfl rfl rfl (e_mkV (n := s.nodes.length) rfl rfl (by rw [List.length_map]) (by kernel_rfl) (by kernel_rfl) (by kernel_rfl) (by decide +kernel) (by omega)) trivial (s_new [] (by simp) rfl rfl rfl rfl e_mkmap trivial (s_new [] (by simp) rfl rfl rfl rfl e_mkmap trivial (s_e rfl (e_build (cs := frow s (fX s.nodes.length (c0 21) (c0 23) (c0 25) (c0 27) (c0 28) (c0 29))) (zs := [.nil, .nil, .nil, .nil, .nil, .nil, .sc (.map none), .sc (.map none)]) (pl := plF) (by kernel_rfl) (by kernel_rfl) (by kernel_rfl) rfl rfl (by exact ⟨by decide, rfl, Nat.le_of_ble_eq_true rfl, rfl, ⟨by decide, rfl, Nat.le_of_ble_eq_true rfl, rfl, ⟨by decide, rfl, Nat.le_of_ble_eq_true rfl, rfl, ⟨by decide, rfl, Nat.le_of_ble_eq_true rfl, rfl, ⟨by decide, rfl, Nat.le_of_ble_eq_true rfl, rfl, ⟨by decide, rfl, Nat.le_of_ble_eq_true rfl, rfl, ⟨by decide, rfl, Nat.le_of_ble_eq_true rfl, rfl, trivial⟩⟩⟩⟩⟩⟩⟩) rfl) (s_new [] (by simp) rfl rfl rfl rfl (e_box (n := 8) rfl rfl) ⟨rfl, by decide⟩ (s_e rfl (e_assign (v := .ptr (31, (c0 31)) 8 0 0) rfl) ?_)))))))
  refine s_end (ds := []) (by kernel_rfl) (by kernel_rfl) (hK8 _ ?_); clear hK8 K8
  refine pwp_seq_seq (pwp_seq_plain rfl fun K9 hK9 => p_e rfl (e_faQ pl2 rfl) (p_e rfl (e_lH (v := .lit _ _ _) rfl ((hset_ne (key_ne rfl)).trans ((hset_ne (key_ne rfl)).trans ((hset_ne (key_ne rfl)).trans ((hset_ne (key_ne rfl)).trans ((hset_ne (key_ne rfl)).trans ((hset_ne (key_ne rfl)).trans ((hset_ne (key_ne rfl)).trans (hset_self _ _ _)))))))) rfl) (p_e rfl (e_len rfl (by kernel_rfl)) (p_mS rfl (p_end (hK9 _ ?_)))))); clear hK9 K9
  refine pwp_seq_block fun K10 hK10 => pwp_loopR (α := Nat) [6, 33, 34] (fun (k : Nat) => [(35, .int (k))]) (fun (k : Nat) (h : Heap) (_ : Nat → Nat) => ((k) ≤ s.members.length) ∧ (FrI h s (c0 31) (c0 21) (c0 23) (c0 25) (c0 27) (c0 28) (c0 29) (2 * (k)) (k)) ∧ (h (2, 0) = some (.rows 2 [Scaffold.enc s]))) (fun (k : Nat) => s.members.length - (k)) (0) (by exact ⟨rfl, trivial⟩) (by exact ⟨by exact Nat.zero_le _, by exact Fr.new (hset_self _ _ _) ((hset_ne (key_ne rfl)).trans ((hset_ne (key_ne rfl)).trans ((hset_ne (key_ne rfl)).trans ((hset_ne (key_ne rfl)).trans ((hset_ne (key_ne rfl)).trans ((hset_ne (key_ne rfl)).trans (hset_self _ _ _))))))) ((hset_ne (key_ne rfl)).trans ((hset_ne (key_ne rfl)).trans ((hset_ne (key_ne rfl)).trans ((hset_ne (key_ne rfl)).trans ((hset_ne (key_ne rfl)).trans (hset_self _ _ _)))))) ((hset_ne (key_ne rfl)).trans ((hset_ne (key_ne rfl)).trans ((hset_ne (key_ne rfl)).trans ((hset_ne (key_ne rfl)).trans (hset_self _ _ _))))) ((hset_ne (key_ne rfl)).trans ((hset_ne (key_ne rfl)).trans ((hset_ne (key_ne rfl)).trans (hset_self _ _ _)))) ((hset_ne (key_ne rfl)).trans ((hset_ne (key_ne rfl)).trans (hset_self _ _ _))) ((hset_ne (key_ne rfl)).trans (hset_self _ _ _)), ((hset_ne (key_ne rfl)).trans ((hset_ne (key_ne rfl)).trans ((hset_ne (key_ne rfl)).trans ((hset_ne (key_ne rfl)).trans ((hset_ne (key_ne rfl)).trans ((hset_ne (key_ne rfl)).trans ((hset_ne (key_ne rfl)).trans ((hset_ne (key_ne rfl)).trans hB))))))))⟩) fun k r11 h12 c13 hj14 => ?_
  obtain ⟨hk, hfr, hihj14_0⟩ := hj14
  try dsimp only at hk
  try dsimp only at hfr
  try dsimp only at hihj14_0
  show pwp _ _ (loopQ _ _ _) ⟨sets (mix _ _ _) [(35, .int k)], _, _⟩
  refine pwp_seq_plain rfl fun K15 hK15 => p_e rfl (e_lt rfl rfl) (p_end (hK15 _ ?_)); clear hK15 K15
  refine pwp_seq_cond rfl fun K16 hK16 => ⟨fun hb17 => ?_, fun hb17 => ?_⟩
  ·have hb17R := hb17; try simp only [zz] at hb17
   obtain ⟨m, hm, hdm, htm⟩ := get_lt (xs := s.members) (i := k) (by omega)
   obtain ⟨hma, hmb⟩ := scf_rng hsc hm
   refine pwp_skip (seq_norm (hK16 _ ?_)); clear hK16 K16
   refine pwp_seq_block fun K18 hK18 => pwp_seq_plain rfl fun K19 hK19 => p_mS rfl (p_e rfl (e_ixL rfl rfl) (p_e rfl (e_loadA (n := 3) rfl (by kernel_rfl) (by kernel_rfl) (by kernel_rfl) (by first | omega | (simp only [List.length_map]; omega)) (by decide) (by first | exact agg_map hm rfl)) (p_new rfl (e_alloc (cs := [.int 0, .int 0, .int 0]) (n := 3) (by kernel_rfl) rfl (by decide)) (ob_alloc (by decide)) (p_aS rfl (p_store rfl (e_storeA rfl (hset_self _ _ _) rfl rfl rfl (by kernel_rfl) rfl (by kernel_rfl)) trivial ?_)))))
   refine p_end (hK19 _ ?_); clear hK19 K19
   refine pwp_seq_plain rfl fun K20 hK20 => p_e rfl (e_faQ pl3 rfl) (p_e rfl (e_lH (v := .sc _) rfl (hset_self _ _ _) rfl) (p_end (hK20 _ ?_))); clear hK20 K20
   refine pwp_block (pwp_seq_plain rfl fun K21 hK21 => p_e rfl (e_eq rfl rfl) (p_aS rfl (p_end (hK21 _ ?_)))); clear hK21 K21
   refine pwp_cond rfl (fun hb22 => ?_) (fun hb22 => ?_)
   ·have hb22R := hb22; try simp only [zz] at hb22
    refine pwp_seq_gopsK rfl fun hkn K23 hK23 => ?_
    have hfs := hkn.fresh 60
    have hfi := FrI.known hkn (by exact (FrI.set rfl (FrI.set rfl hfr))); dsimp only at hfi
    obtain ⟨ve, vb, vm, vr, lh, lr, hI⟩ := hfi
    refine s_begin ?_
    obtain ⟨u, hu⟩ : ∃ u, vb[m.a.toNat]? = some u := ⟨_, List.getElem?_eq_getElem (by rw [hI.lb]; omega)⟩
    obtain ⟨R, hs0, hb0⟩ := hI.ob.at_ _ u hu
    refine s_e rfl (e_move (v := .ptr (31, (c0 31)) 8 0 0) rfl) (s_e rfl (e_nilc rfl) (s_e rfl (e_faQ plF rfl) (s_step [31] (by simp) rfl rfl rfl rfl (e_lH (v := .ref (23, (c0 23)) 1 0 s.nodes.length) rfl hI.F rfl) trivial (s_e rfl (e_faQ pl3 rfl) (s_step [8] (by simp) rfl rfl rfl rfl (e_lH (v := .sc _) rfl (hset_self _ _ _) rfl) trivial (s_e rfl (e_move (v := .ptr (31, (c0 31)) 8 0 0) rfl) (s_e rfl (e_nilc rfl) ?_)))))))
    refine s_e rfl (e_faQ plF rfl) (s_step [31] (by simp) rfl rfl rfl rfl (e_lH (v := .ref (23, (c0 23)) 1 0 s.nodes.length) rfl hI.F rfl) trivial (s_e rfl (e_faQ pl3 rfl) (s_step [8] (by simp) rfl rfl rfl rfl (e_lH (v := .sc _) rfl (hset_self _ _ _) rfl) trivial (s_e rfl (e_ixaR0 rfl rfl (by kernel_rfl) (by kernel_rfl) hma) (s_step [23] (by simp) rfl rfl rfl rfl (e_loadV (v := u) rfl hI.sb (by kernel_rfl) (by kernel_rfl) (by kernel_rfl) hu) trivial (s_e rfl (e_move (v := .sc _) rfl) (s_new [] (by simp) rfl rfl rfl rfl (e_bslice (rows := [ci (k : Int)]) (zs := [.int 0]) (sz := 1) (by kernel_rfl) (by kernel_rfl) rfl (by kernel_rfl) (by decide) rfl rfl (by exact ⟨by decide, rfl, rfl, trivial⟩) rfl) trivial ?_)))))))
    refine s_appK2 (u := u) (sz := 1) (d1 := 60) (d2 := 60) (rows := R) (rows2 := [ci (k : Int)]) (ds := [59]) [60, 60, 59] [60, 60] (by simp) (by simp) (by simp) rfl rfl rfl (hs0.imp (fun q => q.keep fun g => hset_ne (key_ne rfl)) (fun q => q.keep fun g => hset_ne (key_ne rfl))) (SrcAt.ref (hset_self _ _ _) rfl) rfl (by kernel_rfl) (by simp only [List.length_cons, List.length_nil]; omega) (by simp) fun h1 hr1 hf1 => ?_
    have hA : ApK _ h1 60 _ 60 60 u R.length := hf1
    have hfr24 := Fr.appB (hI.set (d := 59) rfl) hu (hs0.imp (fun q => q.keep fun g => hset_ne (key_ne rfl)) (fun q => q.keep fun g => hset_ne (key_ne rfl))) hb0 hr1 hA (fun g o hh => hfs g o ((hset_ne (key_ne rfl)).symm.trans hh))
    refine s_e rfl (e_ixaR0 rfl rfl (by kernel_rfl) (by kernel_rfl) hma) (s_store [23] (by simp) rfl rfl (e_storeV rfl ((hA.ne rfl rfl rfl).trans ((hset_ne (key_ne rfl)).trans hI.sb)) rfl rfl rfl (by rw [hI.lb]; omega) (by kernel_rfl) (by kernel_rfl)) trivial ?_)
    have ho25 := (hA.ne rfl rfl rfl).trans ((hset_ne (key_ne rfl)).trans (hset_self _ _ _))
    have hoB26 := (hA.ne rfl rfl rfl).trans ((hset_ne (key_ne rfl)).trans ((hset_ne (key_ne rfl)).trans ((hset_ne (key_ne rfl)).trans hihj14_0)))
    refine s_end (ds := []) (by kernel_rfl) (by kernel_rfl) (hK23 _ ?_); clear hK23 K23
    refine pwp_gopsK rfl fun hkn K27 hK27 => ?_
    have hfs := hkn.fresh 78
    have hfi := FrI.known hkn (by exact hfr24); dsimp only at hfi
    obtain ⟨ve, vb, vm, vr, lh, lr, hI⟩ := hfi
    refine s_begin ?_
    obtain ⟨u, hu⟩ : ∃ u, ve[m.b.toNat]? = some u := ⟨_, List.getElem?_eq_getElem (by rw [hI.le]; omega)⟩
    obtain ⟨R, hs0, hb0⟩ := hI.oe.at_ _ u hu
    refine s_e rfl (e_move (v := .ptr (31, (c0 31)) 8 0 0) rfl) (s_e rfl (e_nilc rfl) (s_e rfl (e_faQ plF rfl) (s_step [31] (by simp) rfl rfl rfl rfl (e_lH (v := .ref (21, (c0 21)) 1 0 s.nodes.length) rfl hI.F rfl) trivial (s_e rfl (e_faQ pl3 rfl) (s_step [8] (by simp) rfl rfl rfl rfl (e_lH (v := .sc _) rfl ((hset_ne (key_ne rfl)).trans ho25) rfl) trivial (s_e rfl (e_move (v := .ptr (31, (c0 31)) 8 0 0) rfl) (s_e rfl (e_nilc rfl) ?_)))))))
    refine s_e rfl (e_faQ plF rfl) (s_step [31] (by simp) rfl rfl rfl rfl (e_lH (v := .ref (21, (c0 21)) 1 0 s.nodes.length) rfl hI.F rfl) trivial (s_e rfl (e_faQ pl3 rfl) (s_step [8] (by simp) rfl rfl rfl rfl (e_lH (v := .sc _) rfl ((hset_ne (key_ne rfl)).trans ho25) rfl) trivial (s_e rfl (e_ixaR0 rfl rfl (by kernel_rfl) (by kernel_rfl) hmb) (s_step [21] (by simp) rfl rfl rfl rfl (e_loadV (v := u) rfl hI.se (by kernel_rfl) (by kernel_rfl) (by kernel_rfl) hu) trivial (s_e rfl (e_move (v := .sc _) rfl) (s_new [] (by simp) rfl rfl rfl rfl (e_bslice (rows := [ci (k : Int)]) (zs := [.int 0]) (sz := 1) (by kernel_rfl) (by kernel_rfl) rfl (by kernel_rfl) (by decide) rfl rfl (by exact ⟨by decide, rfl, rfl, trivial⟩) rfl) trivial ?_)))))))
    refine s_appK2 (u := u) (sz := 1) (d1 := 78) (d2 := 78) (rows := R) (rows2 := [ci (k : Int)]) (ds := [77]) [78, 78, 77] [78, 78] (by simp) (by simp) (by simp) rfl rfl rfl (hs0.imp (fun q => q.keep fun g => hset_ne (key_ne rfl)) (fun q => q.keep fun g => hset_ne (key_ne rfl))) (SrcAt.ref (hset_self _ _ _) rfl) rfl (by kernel_rfl) (by simp only [List.length_cons, List.length_nil]; omega) (by simp) fun h1 hr1 hf1 => ?_
    have hA : ApK _ h1 78 _ 78 78 u R.length := hf1
    have hfr28 := Fr.appE (hI.set (d := 77) rfl) hu (hs0.imp (fun q => q.keep fun g => hset_ne (key_ne rfl)) (fun q => q.keep fun g => hset_ne (key_ne rfl))) hb0 hr1 hA (fun g o hh => hfs g o ((hset_ne (key_ne rfl)).symm.trans hh))
    refine s_e rfl (e_ixaR0 rfl rfl (by kernel_rfl) (by kernel_rfl) hmb) (s_store [21] (by simp) rfl rfl (e_storeV rfl ((hA.ne rfl rfl rfl).trans ((hset_ne (key_ne rfl)).trans hI.se)) rfl rfl rfl (by rw [hI.le]; omega) (by kernel_rfl) (by kernel_rfl)) trivial ?_)
    have ho29 := (hA.ne rfl rfl rfl).trans ((hset_ne (key_ne rfl)).trans ((hset_ne (key_ne rfl)).trans ho25))
    have hoB30 := (hA.ne rfl rfl rfl).trans ((hset_ne (key_ne rfl)).trans ((hset_ne (key_ne rfl)).trans hoB26))
    refine s_end (ds := []) (by kernel_rfl) (by kernel_rfl) (hK27 _ ?_); clear hK27 K27
    refine block_norm (block_norm (seq_norm (hK18 _ ?_))); clear hK18 K18
    refine pwp_plain rfl fun K31 hK31 => p_e rfl (e_adL rfl rfl) (p_mS rfl (p_end (hK31 _ ?_))); clear hK31 K31
    exact loop_again (k + 1) (by show _ < _; omega) ⟨rfl, rfl, rfl, trivial⟩ ⟨rfl, trivial⟩ (by exact ⟨by show _ + 1 ≤ _; simp only [List.length_map] at *; omega, by first | exact FrI.mono (FrI.skip hfr28 hm (by omega)) (by omega) | exact FrI.mono hfr28 (by omega), ((hset_ne (key_ne rfl)).trans hoB30)⟩)
   ·have hb22R := hb22; try simp only [zz] at hb22
    refine pwp_seq_seq (pwp_seq_plain rfl fun K32 hK32 => p_e rfl (e_eq rfl rfl) (p_aS rfl (p_end (hK32 _ ?_)))); clear hK32 K32
    refine pwp_seq_cond rfl fun K33 hK33 => ⟨fun hb34 => ?_, fun hb34 => ?_⟩
    ·have hb34R := hb34; try simp only [zz] at hb34
     refine pwp_skip (seq_norm (hK33 _ ?_)); clear hK33 K33
     refine pwp_cond rfl (fun hb35 => ?_) (fun hb35 => ?_)
     ·have hb35R := hb35; try simp only [zz] at hb35
      refine pwp_seq_gopsK rfl fun hkn K36 hK36 => ?_
      have hfs := hkn.fresh 99
      have hfi := FrI.known hkn (by exact (FrI.set rfl (FrI.set rfl hfr))); dsimp only at hfi
      obtain ⟨ve, vb, vm, vr, lh, lr, hI⟩ := hfi
      refine s_begin ?_
      obtain ⟨u, hu⟩ : ∃ u, vm[m.a.toNat]? = some u := ⟨_, List.getElem?_eq_getElem (by rw [hI.lm]; omega)⟩
      obtain ⟨R, hs0, hb0⟩ := hI.om.at_ _ u hu
      refine s_e rfl (e_move (v := .ptr (31, (c0 31)) 8 0 0) rfl) (s_e rfl (e_nilc rfl) (s_e rfl (e_faQ plF rfl) (s_step [31] (by simp) rfl rfl rfl rfl (e_lH (v := .ref (25, (c0 25)) 1 0 s.nodes.length) rfl hI.F rfl) trivial (s_e rfl (e_faQ pl3 rfl) (s_step [8] (by simp) rfl rfl rfl rfl (e_lH (v := .sc _) rfl (hset_self _ _ _) rfl) trivial (s_e rfl (e_move (v := .ptr (31, (c0 31)) 8 0 0) rfl) (s_e rfl (e_nilc rfl) ?_)))))))
      refine s_e rfl (e_faQ plF rfl) (s_step [31] (by simp) rfl rfl rfl rfl (e_lH (v := .ref (25, (c0 25)) 1 0 s.nodes.length) rfl hI.F rfl) trivial (s_e rfl (e_faQ pl3 rfl) (s_step [8] (by simp) rfl rfl rfl rfl (e_lH (v := .sc _) rfl (hset_self _ _ _) rfl) trivial (s_e rfl (e_ixaR0 rfl rfl (by kernel_rfl) (by kernel_rfl) hma) (s_step [25] (by simp) rfl rfl rfl rfl (e_loadV (v := u) rfl hI.sm (by kernel_rfl) (by kernel_rfl) (by kernel_rfl) hu) trivial (s_e rfl (e_move (v := .sc _) rfl) (s_new [] (by simp) rfl rfl rfl rfl (e_bslice (rows := [ci (k : Int)]) (zs := [.int 0]) (sz := 1) (by kernel_rfl) (by kernel_rfl) rfl (by kernel_rfl) (by decide) rfl rfl (by exact ⟨by decide, rfl, rfl, trivial⟩) rfl) trivial ?_)))))))
      refine s_appK2 (u := u) (sz := 1) (d1 := 99) (d2 := 117) (rows := R) (rows2 := [ci (k : Int)]) (ds := [98]) [99, 117, 98] [99, 117] (by simp) (by simp) (by simp) rfl rfl rfl (hs0.imp (fun q => q.keep fun g => hset_ne (key_ne rfl)) (fun q => q.keep fun g => hset_ne (key_ne rfl))) (SrcAt.ref (hset_self _ _ _) rfl) rfl (by kernel_rfl) (by simp only [List.length_cons, List.length_nil]; omega) (by simp) fun h1 hr1 hf1 => ?_
      have hA : ApK _ h1 99 _ 99 117 u R.length := hf1
      have hfr37 := Fr.appM (hI.set (d := 98) rfl) (d := 99) (.inl rfl) hu (hs0.imp (fun q => q.keep fun g => hset_ne (key_ne rfl)) (fun q => q.keep fun g => hset_ne (key_ne rfl))) hb0 hr1 hA (fun g o hh => hfs g o ((hset_ne (key_ne rfl)).symm.trans hh))
      refine s_e rfl (e_ixaR0 rfl rfl (by kernel_rfl) (by kernel_rfl) hma) (s_store [25] (by simp) rfl rfl (e_storeV rfl ((hA.ne rfl rfl rfl).trans ((hset_ne (key_ne rfl)).trans hI.sm)) rfl rfl rfl (by rw [hI.lm]; omega) (by kernel_rfl) (by kernel_rfl)) trivial ?_)
      have ho38 := (hA.ne rfl rfl rfl).trans ((hset_ne (key_ne rfl)).trans (hset_self _ _ _))
      have hoB39 := (hA.ne rfl rfl rfl).trans ((hset_ne (key_ne rfl)).trans ((hset_ne (key_ne rfl)).trans ((hset_ne (key_ne rfl)).trans hihj14_0)))
      refine s_end (ds := []) (by kernel_rfl) (by kernel_rfl) (hK36 _ ?_); clear hK36 K36
      refine pwp_gopsK rfl fun hkn K40 hK40 => ?_
      have hfs := hkn.fresh 117
      have hfi := FrI.known hkn (by exact hfr37); dsimp only at hfi
      obtain ⟨ve, vb, vm, vr, lh, lr, hI⟩ := hfi
      refine s_begin ?_
      obtain ⟨u, hu⟩ : ∃ u, vm[m.b.toNat]? = some u := ⟨_, List.getElem?_eq_getElem (by rw [hI.lm]; omega)⟩
      obtain ⟨R, hs0, hb0⟩ := hI.om.at_ _ u hu
      refine s_e rfl (e_move (v := .ptr (31, (c0 31)) 8 0 0) rfl) (s_e rfl (e_nilc rfl) (s_e rfl (e_faQ plF rfl) (s_step [31] (by simp) rfl rfl rfl rfl (e_lH (v := .ref (25, (c0 25)) 1 0 s.nodes.length) rfl hI.F rfl) trivial (s_e rfl (e_faQ pl3 rfl) (s_step [8] (by simp) rfl rfl rfl rfl (e_lH (v := .sc _) rfl ((hset_ne (key_ne rfl)).trans ho38) rfl) trivial (s_e rfl (e_move (v := .ptr (31, (c0 31)) 8 0 0) rfl) (s_e rfl (e_nilc rfl) ?_)))))))
      refine s_e rfl (e_faQ plF rfl) (s_step [31] (by simp) rfl rfl rfl rfl (e_lH (v := .ref (25, (c0 25)) 1 0 s.nodes.length) rfl hI.F rfl) trivial (s_e rfl (e_faQ pl3 rfl) (s_step [8] (by simp) rfl rfl rfl rfl (e_lH (v := .sc _) rfl ((hset_ne (key_ne rfl)).trans ho38) rfl) trivial (s_e rfl (e_ixaR0 rfl rfl (by kernel_rfl) (by kernel_rfl) hmb) (s_step [25] (by simp) rfl rfl rfl rfl (e_loadV (v := u) rfl hI.sm (by kernel_rfl) (by kernel_rfl) (by kernel_rfl) hu) trivial (s_e rfl (e_move (v := .sc _) rfl) (s_new [] (by simp) rfl rfl rfl rfl (e_bslice (rows := [ci (k : Int)]) (zs := [.int 0]) (sz := 1) (by kernel_rfl) (by kernel_rfl) rfl (by kernel_rfl) (by decide) rfl rfl (by exact ⟨by decide, rfl, rfl, trivial⟩) rfl) trivial ?_)))))))
      refine s_appK2 (u := u) (sz := 1) (d1 := 99) (d2 := 117) (rows := R) (rows2 := [ci (k : Int)]) (ds := [116]) [99, 117, 116] [99, 117] (by simp) (by simp) (by simp) rfl rfl rfl (hs0.imp (fun q => q.keep fun g => hset_ne (key_ne rfl)) (fun q => q.keep fun g => hset_ne (key_ne rfl))) (SrcAt.ref (hset_self _ _ _) rfl) rfl (by kernel_rfl) (by simp only [List.length_cons, List.length_nil]; omega) (by simp) fun h1 hr1 hf1 => ?_
      have hA : ApK _ h1 117 _ 99 117 u R.length := hf1
      have hfr41 := Fr.appM (hI.set (d := 116) rfl) (d := 117) (.inr rfl) hu (hs0.imp (fun q => q.keep fun g => hset_ne (key_ne rfl)) (fun q => q.keep fun g => hset_ne (key_ne rfl))) hb0 hr1 hA (fun g o hh => hfs g o ((hset_ne (key_ne rfl)).symm.trans hh))
      refine s_e rfl (e_ixaR0 rfl rfl (by kernel_rfl) (by kernel_rfl) hmb) (s_store [25] (by simp) rfl rfl (e_storeV rfl ((hA.ne rfl rfl rfl).trans ((hset_ne (key_ne rfl)).trans hI.sm)) rfl rfl rfl (by rw [hI.lm]; omega) (by kernel_rfl) (by kernel_rfl)) trivial ?_)
      have ho42 := (hA.ne rfl rfl rfl).trans ((hset_ne (key_ne rfl)).trans ((hset_ne (key_ne rfl)).trans ho38))
      have hoB43 := (hA.ne rfl rfl rfl).trans ((hset_ne (key_ne rfl)).trans ((hset_ne (key_ne rfl)).trans hoB39))
      refine s_end (ds := []) (by kernel_rfl) (by kernel_rfl) (hK40 _ ?_); clear hK40 K40
      refine block_norm (block_norm (seq_norm (hK18 _ ?_))); clear hK18 K18
      refine pwp_plain rfl fun K44 hK44 => p_e rfl (e_adL rfl rfl) (p_mS rfl (p_end (hK44 _ ?_))); clear hK44 K44
      exact loop_again (k + 1) (by show _ < _; omega) ⟨rfl, rfl, rfl, trivial⟩ ⟨rfl, trivial⟩ (by exact ⟨by show _ + 1 ≤ _; simp only [List.length_map] at *; omega, by first | exact FrI.mono (FrI.skip hfr41 hm (by omega)) (by omega) | exact FrI.mono hfr41 (by omega), ((hset_ne (key_ne rfl)).trans hoB43)⟩)
     ·have hb35R := hb35; try simp only [zz] at hb35
      refine pwp_seq_plain rfl fun K45 hK45 => p_e rfl (e_eq rfl rfl) (p_aS rfl (p_end (hK45 _ ?_))); clear hK45 K45
      refine pwp_cond rfl (fun hb46 => ?_) (fun hb46 => ?_)
      ·have hb46R := hb46; try simp only [zz] at hb46
       refine pwp_gopsK rfl fun hkn K47 hK47 => ?_
       have hfs := hkn.fresh 137
       have hfi := FrI.known hkn (by exact (FrI.set rfl (FrI.set rfl hfr))); dsimp only at hfi
       obtain ⟨ve, vb, vm, vr, lh, lr, hI⟩ := hfi
       refine s_begin ?_
       obtain ⟨u, hu⟩ : ∃ u, vr[m.b.toNat]? = some u := ⟨_, List.getElem?_eq_getElem (by rw [hI.lr_]; omega)⟩
       obtain ⟨R, hs0, hb0⟩ := hI.or_.at_ _ u hu
       refine s_e rfl (e_move (v := .ptr (31, (c0 31)) 8 0 0) rfl) (s_e rfl (e_nilc rfl) (s_e rfl (e_faQ plF rfl) (s_step [31] (by simp) rfl rfl rfl rfl (e_lH (v := .ref (27, (c0 27)) 1 0 s.nodes.length) rfl hI.F rfl) trivial (s_e rfl (e_faQ pl3 rfl) (s_step [8] (by simp) rfl rfl rfl rfl (e_lH (v := .sc _) rfl (hset_self _ _ _) rfl) trivial (s_e rfl (e_move (v := .ptr (31, (c0 31)) 8 0 0) rfl) (s_e rfl (e_nilc rfl) ?_)))))))
       refine s_e rfl (e_faQ plF rfl) (s_step [31] (by simp) rfl rfl rfl rfl (e_lH (v := .ref (27, (c0 27)) 1 0 s.nodes.length) rfl hI.F rfl) trivial (s_e rfl (e_faQ pl3 rfl) (s_step [8] (by simp) rfl rfl rfl rfl (e_lH (v := .sc _) rfl (hset_self _ _ _) rfl) trivial (s_e rfl (e_ixaR0 rfl rfl (by kernel_rfl) (by kernel_rfl) hmb) (s_step [27] (by simp) rfl rfl rfl rfl (e_loadV (v := u) rfl hI.sr (by kernel_rfl) (by kernel_rfl) (by kernel_rfl) hu) trivial (s_e rfl (e_move (v := .sc _) rfl) (s_new [] (by simp) rfl rfl rfl rfl (e_bslice (rows := [ci (k : Int)]) (zs := [.int 0]) (sz := 1) (by kernel_rfl) (by kernel_rfl) rfl (by kernel_rfl) (by decide) rfl rfl (by exact ⟨by decide, rfl, rfl, trivial⟩) rfl) trivial ?_)))))))
       refine s_appK2 (u := u) (sz := 1) (d1 := 137) (d2 := 137) (rows := R) (rows2 := [ci (k : Int)]) (ds := [136]) [137, 137, 136] [137, 137] (by simp) (by simp) (by simp) rfl rfl rfl (hs0.imp (fun q => q.keep fun g => hset_ne (key_ne rfl)) (fun q => q.keep fun g => hset_ne (key_ne rfl))) (SrcAt.ref (hset_self _ _ _) rfl) rfl (by kernel_rfl) (by simp only [List.length_cons, List.length_nil]; omega) (by simp) fun h1 hr1 hf1 => ?_
       have hA : ApK _ h1 137 _ 137 137 u R.length := hf1
       have hfr48 := Fr.appR (hI.set (d := 136) rfl) hu (hs0.imp (fun q => q.keep fun g => hset_ne (key_ne rfl)) (fun q => q.keep fun g => hset_ne (key_ne rfl))) hb0 hr1 hA (fun g o hh => hfs g o ((hset_ne (key_ne rfl)).symm.trans hh))
       refine s_e rfl (e_ixaR0 rfl rfl (by kernel_rfl) (by kernel_rfl) hmb) (s_store [27] (by simp) rfl rfl (e_storeV rfl ((hA.ne rfl rfl rfl).trans ((hset_ne (key_ne rfl)).trans hI.sr)) rfl rfl rfl (by rw [hI.lr_]; omega) (by kernel_rfl) (by kernel_rfl)) trivial ?_)
       have ho49 := (hA.ne rfl rfl rfl).trans ((hset_ne (key_ne rfl)).trans (hset_self _ _ _))
       have hoB50 := (hA.ne rfl rfl rfl).trans ((hset_ne (key_ne rfl)).trans ((hset_ne (key_ne rfl)).trans ((hset_ne (key_ne rfl)).trans hihj14_0)))
       refine s_end (ds := []) (by kernel_rfl) (by kernel_rfl) (hK47 _ ?_); clear hK47 K47
       refine block_norm (block_norm (seq_norm (hK18 _ ?_))); clear hK18 K18
       refine pwp_plain rfl fun K51 hK51 => p_e rfl (e_adL rfl rfl) (p_mS rfl (p_end (hK51 _ ?_))); clear hK51 K51
       exact loop_again (k + 1) (by show _ < _; omega) ⟨rfl, rfl, rfl, trivial⟩ ⟨rfl, trivial⟩ (by exact ⟨by show _ + 1 ≤ _; simp only [List.length_map] at *; omega, by first | exact FrI.mono (FrI.skip hfr48 hm (by omega)) (by omega) | exact FrI.mono hfr48 (by omega), ((hset_ne (key_ne rfl)).trans hoB50)⟩)
      ·have hb46R := hb46; try simp only [zz] at hb46
       refine pwp_seq_seq (pwp_seq_plain rfl fun K52 hK52 => p_e rfl (e_eq rfl rfl) (p_aS rfl (p_end (hK52 _ ?_)))); clear hK52 K52
       refine pwp_seq_cond rfl fun K53 hK53 => ⟨fun hb54 => ?_, fun hb54 => ?_⟩
       ·have hb54R := hb54; try simp only [zz] at hb54
        refine pwp_skip (seq_norm (hK53 _ ?_)); clear hK53 K53
        refine pwp_cond rfl (fun hb55 => ?_) (fun hb55 => ?_)
        ·have hb55R := hb55; try simp only [zz] at hb55
         refine pwp_gopsK rfl fun hkn K56 hK56 => ?_
         have hfs := hkn.fresh 161
         have hfi := FrI.known hkn (by exact (FrI.set rfl (FrI.set rfl hfr))); dsimp only at hfi
         obtain ⟨ve, vb, vm, vr, lh, lr, hI⟩ := hfi
         refine s_begin ?_
         have hll := hldL_len (s := s) (k := k) (a := (lnA s m.a))
         refine s_e rfl (e_move (v := .ptr (31, (c0 31)) 8 0 0) rfl) (s_e rfl (e_nilc rfl) (s_e rfl (e_faQ plF rfl) (s_step [31] (by simp) rfl rfl rfl rfl (e_lH (v := .map (28, (c0 28))) rfl hI.F rfl) trivial (s_e rfl (e_move (v := .ptr (31, (c0 31)) 8 0 0) rfl) (s_e rfl (e_faQ pl3 rfl) (s_step [8] (by simp) rfl rfl rfl rfl (e_lH (v := .sc _) rfl (hset_self _ _ _) rfl) trivial (s_callM [(31, (c0 31))] [31] (by simp) rfl rfl rfl rfl (fun h' hh c' => lineM h' c' s (c0 31) m.a _ ((hh _ (by simp)).trans hI.F) hma) ?_)))))))
         refine s_e rfl (e_move (v := .ptr (31, (c0 31)) 8 0 0) rfl) (s_e rfl (e_nilc rfl) (s_e rfl (e_faQ plF rfl) (s_step [31] (by simp) rfl rfl rfl rfl (e_lH (v := .map (28, (c0 28))) rfl hI.F rfl) trivial (s_e rfl (e_move (v := .ptr (31, (c0 31)) 8 0 0) rfl) (s_e rfl (e_faQ pl3 rfl) (s_step [8] (by simp) rfl rfl rfl rfl (e_lH (v := .sc _) rfl (hset_self _ _ _) rfl) trivial (s_callM [(31, (c0 31))] [31] (by simp) rfl rfl rfl rfl (fun h' hh c' => lineM h' c' s (c0 31) m.a _ ((hh _ (by simp)).trans hI.F) hma) ?_)))))))
         refine s_step [28] (by simp) rfl rfl rfl rfl (e_look (kt := 161) (et := 25) (f := kl) (g := id) (a := (lnA s m.a)) (l := lh) (z := .nil) kl_eq kl_ok rfl rfl hI.hm (by kernel_rfl) (by kernel_rfl) (by first | rfl | kernel_rfl)) trivial (s_e rfl (e_move (v := .sc _) rfl) (s_new [] (by simp) rfl rfl rfl rfl (e_bslice (rows := [ci (k : Int)]) (zs := [.int 0]) (sz := 1) (by kernel_rfl) (by kernel_rfl) rfl (by kernel_rfl) (by decide) rfl rfl (by exact ⟨by decide, rfl, rfl, trivial⟩) rfl) trivial (s_appK2 (u := ((aGet (lnA s m.a) lh).getD .nil)) (sz := 1) (d1 := 161) (d2 := 161) (rows := ((hldL s k (lnA s m.a)).map ci)) (rows2 := [ci (k : Int)]) (ds := [160]) [161, 160] [161] (by simp) (by simp) (by simp) rfl rfl rfl (.inl ((hI.hc _).keep fun g => hset_ne (key_ne rfl))) (SrcAt.ref (hset_self _ _ _) rfl) rfl (by kernel_rfl) (by simp only [List.length_map, List.length_cons, List.length_nil]; omega) (by simp) fun h1 hr1 hf1 => ?_)))
         have hA : ApK _ h1 161 _ 161 161 ((aGet (lnA s m.a) lh).getD .nil) ((hldL s k (lnA s m.a)).map ci).length := hf1
         have hfr57 := Fr.appH (hI.set (d := 160) rfl) hm (by omega) (by omega) hr1 hA (fun g o hh => hfs g o ((hset_ne (key_ne rfl)).symm.trans hh))
         refine s_store [28] (by simp) rfl rfl (e_mset (kt := 161) (et := 25) (f := kl) (g := id) (a := (lnA s m.a)) (b := .ref (161, _) 1 0 _) (l := lh) kl_eq kl_ok rfl rfl rfl rfl (hI.hm.keep ((hA.ne rfl rfl rfl).trans (hset_ne (key_ne rfl)))) (by kernel_rfl)) trivial ?_
         have ho58 := (hA.ne rfl rfl rfl).trans ((hset_ne (key_ne rfl)).trans (hset_self _ _ _))
         have hoB59 := (hA.ne rfl rfl rfl).trans ((hset_ne (key_ne rfl)).trans ((hset_ne (key_ne rfl)).trans ((hset_ne (key_ne rfl)).trans hihj14_0)))
         refine s_end (ds := []) (by kernel_rfl) (by kernel_rfl) (hK56 _ ?_); clear hK56 K56
         refine block_norm (block_norm (seq_norm (hK18 _ ?_))); clear hK18 K18
         refine pwp_plain rfl fun K60 hK60 => p_e rfl (e_adL rfl rfl) (p_mS rfl (p_end (hK60 _ ?_))); clear hK60 K60
         exact loop_again (k + 1) (by show _ < _; omega) ⟨rfl, rfl, rfl, trivial⟩ ⟨rfl, trivial⟩ (by exact ⟨by show _ + 1 ≤ _; simp only [List.length_map] at *; omega, by first | exact FrI.mono (FrI.skip hfr57 hm (by omega)) (by omega) | exact FrI.mono hfr57 (by omega), ((hset_ne (key_ne rfl)).trans hoB59)⟩)
        ·have hb55R := hb55; try simp only [zz] at hb55
         refine pwp_seq_seq (pwp_seq_plain rfl fun K61 hK61 => p_e rfl (e_eq rfl rfl) (p_aS rfl (p_end (hK61 _ ?_)))); clear hK61 K61
         refine pwp_seq_cond rfl fun K62 hK62 => ⟨fun hb63 => ?_, fun hb63 => ?_⟩
         ·have hb63R := hb63; try simp only [zz] at hb63
          refine pwp_skip (seq_norm (hK62 _ ?_)); clear hK62 K62
          refine pwp_cond rfl (fun hb64 => ?_) (fun hb64 => ?_)
          ·have hb64R := hb64; try simp only [zz] at hb64
           refine pwp_seq_plain rfl fun K65 hK65 => p_e rfl (e_faQ pl3 rfl) (p_e rfl (e_lH (v := .sc _) rfl (hset_self _ _ _) rfl) (p_e rfl (e_faQ pl3 rfl) (p_e rfl (e_lH (v := .sc _) rfl (hset_self _ _ _) rfl) (p_e rfl (e_buildA (cs := [.int m.a, .int m.b]) (zs := [.int 0, .int 0]) (pl := pl2) (by kernel_rfl) (by kernel_rfl) (by kernel_rfl) rfl rfl (by exact ⟨by decide, rfl, Nat.le_of_ble_eq_true rfl, rfl, ⟨by decide, rfl, Nat.le_of_ble_eq_true rfl, rfl, trivial⟩⟩) rfl) (p_mS rfl (p_end (hK65 _ ?_))))))); clear hK65 K65
           refine pwp_block (pwp_loopR (α := Nat) [6, 7, 33, 34, 35, 169] (fun (j : Nat) => [(170, .int (j))]) (fun (j : Nat) (h : Heap) (_ : Nat → Nat) => ((j) ≤ 2) ∧ (FrI h s (c0 31) (c0 21) (c0 23) (c0 25) (c0 27) (c0 28) (c0 29) (2 * k + (j)) k) ∧ (h (2, 0) = some (.rows 2 [Scaffold.enc s]))) (fun (j : Nat) => 2 - (j)) (0) (by exact ⟨rfl, trivial⟩) (by exact ⟨by exact Nat.zero_le _, by exact (FrI.set rfl (FrI.set rfl hfr)), ((hset_ne (key_ne rfl)).trans ((hset_ne (key_ne rfl)).trans hihj14_0))⟩) fun j r66 h67 c68 hj69 => ?_)
           obtain ⟨hj, hfr2, hihj69_0⟩ := hj69
           try dsimp only at hj
           try dsimp only at hfr2
           try dsimp only at hihj69_0
           show pwp _ _ (loopQ _ _ _) ⟨sets (mix _ _ _) [(170, .int j)], _, _⟩
           refine pwp_seq_plain rfl fun K70 hK70 => p_e rfl (e_lt rfl rfl) (p_end (hK70 _ ?_)); clear hK70 K70
           refine pwp_seq_cond rfl fun K71 hK71 => ⟨fun hb72 => ?_, fun hb72 => ?_⟩
           ·have hb72R := hb72; try simp only [zz] at hb72
            have hj2 : j < 2 := by omega
            refine pwp_skip (seq_norm (hK71 _ ?_)); clear hK71 K71
            refine pwp_seq_block fun K73 hK73 => pwp_seq_plain rfl fun K74 hK74 => p_e rfl (e_indexA (n := 2) (e := 3) rfl rfl (by kernel_rfl) (by kernel_rfl) (by kernel_rfl) (by omega) rfl (abM_get hj2)) (p_aS rfl (p_end (hK74 _ ?_))); clear hK74 K74
            refine pwp_gopsK rfl fun hkn K75 hK75 => ?_
            have hfs := hkn.fresh 190
            have hfi := FrI.known hkn (by exact hfr2); dsimp only at hfi
            obtain ⟨ve, vb, vm, vr, lh, lr, hI⟩ := hfi
            refine s_begin ?_
            obtain ⟨hgu, R, hs0, hb0⟩ := hI.getL (lnA s (abM m j))
            refine s_e rfl (e_move (v := .ptr (31, (c0 31)) 8 0 0) rfl) (s_e rfl (e_nilc rfl) (s_e rfl (e_faQ plF rfl) (s_step [31] (by simp) rfl rfl rfl rfl (e_lH (v := .map (29, (c0 29))) rfl hI.F rfl) trivial (s_e rfl (e_move (v := .ptr (31, (c0 31)) 8 0 0) rfl) (s_e rfl (e_move (v := .sc _) rfl) (s_callM [(31, (c0 31))] [31] (by simp) rfl rfl rfl rfl (fun h' hh c' => lineM h' c' s (c0 31) (abM m j) _ ((hh _ (by simp)).trans hI.F) (abM_rng hma hmb)) (s_e rfl (e_move (v := .ptr (31, (c0 31)) 8 0 0) rfl) ?_)))))))
            refine s_e rfl (e_nilc rfl) (s_e rfl (e_faQ plF rfl) (s_step [31] (by simp) rfl rfl rfl rfl (e_lH (v := .map (29, (c0 29))) rfl hI.F rfl) trivial (s_e rfl (e_move (v := .ptr (31, (c0 31)) 8 0 0) rfl) (s_e rfl (e_move (v := .sc _) rfl) (s_callM [(31, (c0 31))] [31] (by simp) rfl rfl rfl rfl (fun h' hh c' => lineM h' c' s (c0 31) (abM m j) _ ((hh _ (by simp)).trans hI.F) (abM_rng hma hmb)) (s_step [29] (by simp) rfl rfl rfl rfl (e_look (kt := 161) (et := 25) (f := kl) (g := id) (a := (lnA s (abM m j))) (l := lr) (z := .nil) kl_eq kl_ok rfl rfl hI.rm (by kernel_rfl) (by kernel_rfl) (by first | rfl | kernel_rfl)) trivial (s_e rfl (e_move (v := .sc _) rfl) ?_)))))))
            refine s_new [] (by simp) rfl rfl rfl rfl (e_bslice (rows := [ci (k : Int)]) (zs := [.int 0]) (sz := 1) (by kernel_rfl) (by kernel_rfl) rfl (by kernel_rfl) (by decide) rfl rfl (by exact ⟨by decide, rfl, rfl, trivial⟩) rfl) trivial (s_appK2 (u := ((aGet (lnA s (abM m j)) lr).getD .nil)) (sz := 1) (d1 := 190) (d2 := 190) (rows := R) (rows2 := [ci (k : Int)]) (ds := [189]) [190, 189] [190] (by simp) (by simp) (by simp) rfl rfl rfl (hs0.imp (fun q => q.keep fun g => hset_ne (key_ne rfl)) (fun q => q.keep fun g => hset_ne (key_ne rfl))) (SrcAt.ref (hset_self _ _ _) rfl) rfl (by kernel_rfl) (by simp only [List.length_map, List.length_cons, List.length_nil]; omega) (by simp) fun h1 hr1 hf1 => ?_)
            have hA : ApK _ h1 190 _ 190 190 ((aGet (lnA s (abM m j)) lr).getD .nil) R.length := hf1
            have hfr76 := Fr.appL (hI.set (d := 189) rfl) hgu (hs0.imp (fun q => q.keep fun g => hset_ne (key_ne rfl)) (fun q => q.keep fun g => hset_ne (key_ne rfl))) hb0 hr1 hA (fun g o hh => hfs g o ((hset_ne (key_ne rfl)).symm.trans hh))
            refine s_store [29] (by simp) rfl rfl (e_mset (kt := 161) (et := 25) (f := kl) (g := id) (a := (lnA s (abM m j))) (b := .ref (190, _) 1 0 _) (l := lr) kl_eq kl_ok rfl rfl rfl rfl (hI.rm.keep ((hA.ne rfl rfl rfl).trans (hset_ne (key_ne rfl)))) (by kernel_rfl)) trivial ?_
            have hoB78 := (hA.ne rfl rfl rfl).trans ((hset_ne (key_ne rfl)).trans hihj69_0)
            refine s_end (ds := []) (by kernel_rfl) (by kernel_rfl) (hK75 _ ?_); clear hK75 K75
            refine block_norm (seq_norm (hK73 _ ?_)); clear hK73 K73
            refine pwp_plain rfl fun K79 hK79 => p_e rfl (e_adL rfl rfl) (p_mS rfl (p_end (hK79 _ ?_))); clear hK79 K79
            exact loop_again (j + 1) (by show _ < _; omega) ⟨rfl, rfl, rfl, rfl, rfl, rfl, trivial⟩ ⟨rfl, trivial⟩ (by exact ⟨by show _ + 1 ≤ _; omega, by exact FrI.mono hfr76 (by omega), ((hset_ne (key_ne rfl)).trans hoB78)⟩)
           ·have hb72R := hb72; try simp only [zz] at hb72
            have hj2 : j = 2 := by omega
            refine pwp_exit (exit_seq ?_)
            clear hK71 K71
            refine exit_loop (exit_here (block_norm (block_norm (seq_norm (hK18 _ ?_))))); clear hK18 K18
            refine pwp_plain rfl fun K80 hK80 => p_e rfl (e_adL rfl rfl) (p_mS rfl (p_end (hK80 _ ?_))); clear hK80 K80
            exact loop_again (k + 1) (by show _ < _; omega) ⟨rfl, rfl, rfl, trivial⟩ ⟨rfl, trivial⟩ (by exact ⟨by show _ + 1 ≤ _; simp only [List.length_map] at *; omega, by first | exact FrI.mono (FrI.skip hfr2 hm (by omega)) (by omega) | exact FrI.mono hfr2 (by omega), hihj69_0⟩)
          ·have hb64R := hb64; try simp only [zz] at hb64
           refine pwp_skip (block_norm (block_norm (seq_norm (hK18 _ ?_)))); clear hK18 K18
           refine pwp_plain rfl fun K81 hK81 => p_e rfl (e_adL rfl rfl) (p_mS rfl (p_end (hK81 _ ?_))); clear hK81 K81
           exact loop_again (k + 1) (by show _ < _; omega) ⟨rfl, rfl, rfl, trivial⟩ ⟨rfl, trivial⟩ (by exact ⟨by show _ + 1 ≤ _; simp only [List.length_map] at *; omega, by first | exact FrI.mono (FrI.skip (FrI.set rfl (FrI.set rfl hfr)) hm (by omega)) (by omega) | exact FrI.mono (FrI.set rfl (FrI.set rfl hfr)) (by omega), ((hset_ne (key_ne rfl)).trans ((hset_ne (key_ne rfl)).trans hihj14_0))⟩)
         ·have hb63R := hb63; try simp only [zz] at hb63
          refine pwp_plain rfl fun K82 hK82 => p_e rfl (e_eq rfl rfl) (p_aS rfl (p_end (hK82 _ ?_))); clear hK82 K82
          refine seq_norm (hK62 _ ?_); clear hK62 K62
          refine pwp_cond rfl (fun hb83 => ?_) (fun hb83 => ?_)
          ·have hb83R := hb83; try simp only [zz] at hb83
           refine pwp_seq_plain rfl fun K84 hK84 => p_e rfl (e_faQ pl3 rfl) (p_e rfl (e_lH (v := .sc _) rfl (hset_self _ _ _) rfl) (p_e rfl (e_faQ pl3 rfl) (p_e rfl (e_lH (v := .sc _) rfl (hset_self _ _ _) rfl) (p_e rfl (e_buildA (cs := [.int m.a, .int m.b]) (zs := [.int 0, .int 0]) (pl := pl2) (by kernel_rfl) (by kernel_rfl) (by kernel_rfl) rfl rfl (by exact ⟨by decide, rfl, Nat.le_of_ble_eq_true rfl, rfl, ⟨by decide, rfl, Nat.le_of_ble_eq_true rfl, rfl, trivial⟩⟩) rfl) (p_mS rfl (p_end (hK84 _ ?_))))))); clear hK84 K84
           refine pwp_block (pwp_loopR (α := Nat) [6, 7, 33, 34, 35, 169] (fun (j : Nat) => [(170, .int (j))]) (fun (j : Nat) (h : Heap) (_ : Nat → Nat) => ((j) ≤ 2) ∧ (FrI h s (c0 31) (c0 21) (c0 23) (c0 25) (c0 27) (c0 28) (c0 29) (2 * k + (j)) k) ∧ (h (2, 0) = some (.rows 2 [Scaffold.enc s]))) (fun (j : Nat) => 2 - (j)) (0) (by exact ⟨rfl, trivial⟩) (by exact ⟨by exact Nat.zero_le _, by exact (FrI.set rfl (FrI.set rfl hfr)), ((hset_ne (key_ne rfl)).trans ((hset_ne (key_ne rfl)).trans hihj14_0))⟩) fun j r85 h86 c87 hj88 => ?_)
           obtain ⟨hj, hfr2, hihj88_0⟩ := hj88
           try dsimp only at hj
           try dsimp only at hfr2
           try dsimp only at hihj88_0
           show pwp _ _ (loopQ _ _ _) ⟨sets (mix _ _ _) [(170, .int j)], _, _⟩
           refine pwp_seq_plain rfl fun K89 hK89 => p_e rfl (e_lt rfl rfl) (p_end (hK89 _ ?_)); clear hK89 K89
           refine pwp_seq_cond rfl fun K90 hK90 => ⟨fun hb91 => ?_, fun hb91 => ?_⟩
           ·have hb91R := hb91; try simp only [zz] at hb91
            have hj2 : j < 2 := by omega
            refine pwp_skip (seq_norm (hK90 _ ?_)); clear hK90 K90
            refine pwp_seq_block fun K92 hK92 => pwp_seq_plain rfl fun K93 hK93 => p_e rfl (e_indexA (n := 2) (e := 3) rfl rfl (by kernel_rfl) (by kernel_rfl) (by kernel_rfl) (by omega) rfl (abM_get hj2)) (p_aS rfl (p_end (hK93 _ ?_))); clear hK93 K93
            refine pwp_gopsK rfl fun hkn K94 hK94 => ?_
            have hfs := hkn.fresh 190
            have hfi := FrI.known hkn (by exact hfr2); dsimp only at hfi
            obtain ⟨ve, vb, vm, vr, lh, lr, hI⟩ := hfi
            refine s_begin ?_
            obtain ⟨hgu, R, hs0, hb0⟩ := hI.getL (lnA s (abM m j))
            refine s_e rfl (e_move (v := .ptr (31, (c0 31)) 8 0 0) rfl) (s_e rfl (e_nilc rfl) (s_e rfl (e_faQ plF rfl) (s_step [31] (by simp) rfl rfl rfl rfl (e_lH (v := .map (29, (c0 29))) rfl hI.F rfl) trivial (s_e rfl (e_move (v := .ptr (31, (c0 31)) 8 0 0) rfl) (s_e rfl (e_move (v := .sc _) rfl) (s_callM [(31, (c0 31))] [31] (by simp) rfl rfl rfl rfl (fun h' hh c' => lineM h' c' s (c0 31) (abM m j) _ ((hh _ (by simp)).trans hI.F) (abM_rng hma hmb)) (s_e rfl (e_move (v := .ptr (31, (c0 31)) 8 0 0) rfl) ?_)))))))
            refine s_e rfl (e_nilc rfl) (s_e rfl (e_faQ plF rfl) (s_step [31] (by simp) rfl rfl rfl rfl (e_lH (v := .map (29, (c0 29))) rfl hI.F rfl) trivial (s_e rfl (e_move (v := .ptr (31, (c0 31)) 8 0 0) rfl) (s_e rfl (e_move (v := .sc _) rfl) (s_callM [(31, (c0 31))] [31] (by simp) rfl rfl rfl rfl (fun h' hh c' => lineM h' c' s (c0 31) (abM m j) _ ((hh _ (by simp)).trans hI.F) (abM_rng hma hmb)) (s_step [29] (by simp) rfl rfl rfl rfl (e_look (kt := 161) (et := 25) (f := kl) (g := id) (a := (lnA s (abM m j))) (l := lr) (z := .nil) kl_eq kl_ok rfl rfl hI.rm (by kernel_rfl) (by kernel_rfl) (by first | rfl | kernel_rfl)) trivial (s_e rfl (e_move (v := .sc _) rfl) ?_)))))))
            refine s_new [] (by simp) rfl rfl rfl rfl (e_bslice (rows := [ci (k : Int)]) (zs := [.int 0]) (sz := 1) (by kernel_rfl) (by kernel_rfl) rfl (by kernel_rfl) (by decide) rfl rfl (by exact ⟨by decide, rfl, rfl, trivial⟩) rfl) trivial (s_appK2 (u := ((aGet (lnA s (abM m j)) lr).getD .nil)) (sz := 1) (d1 := 190) (d2 := 190) (rows := R) (rows2 := [ci (k : Int)]) (ds := [189]) [190, 189] [190] (by simp) (by simp) (by simp) rfl rfl rfl (hs0.imp (fun q => q.keep fun g => hset_ne (key_ne rfl)) (fun q => q.keep fun g => hset_ne (key_ne rfl))) (SrcAt.ref (hset_self _ _ _) rfl) rfl (by kernel_rfl) (by simp only [List.length_map, List.length_cons, List.length_nil]; omega) (by simp) fun h1 hr1 hf1 => ?_)
            have hA : ApK _ h1 190 _ 190 190 ((aGet (lnA s (abM m j)) lr).getD .nil) R.length := hf1
            have hfr95 := Fr.appL (hI.set (d := 189) rfl) hgu (hs0.imp (fun q => q.keep fun g => hset_ne (key_ne rfl)) (fun q => q.keep fun g => hset_ne (key_ne rfl))) hb0 hr1 hA (fun g o hh => hfs g o ((hset_ne (key_ne rfl)).symm.trans hh))
            refine s_store [29] (by simp) rfl rfl (e_mset (kt := 161) (et := 25) (f := kl) (g := id) (a := (lnA s (abM m j))) (b := .ref (190, _) 1 0 _) (l := lr) kl_eq kl_ok rfl rfl rfl rfl (hI.rm.keep ((hA.ne rfl rfl rfl).trans (hset_ne (key_ne rfl)))) (by kernel_rfl)) trivial ?_
            have hoB97 := (hA.ne rfl rfl rfl).trans ((hset_ne (key_ne rfl)).trans hihj88_0)
            refine s_end (ds := []) (by kernel_rfl) (by kernel_rfl) (hK94 _ ?_); clear hK94 K94
            refine block_norm (seq_norm (hK92 _ ?_)); clear hK92 K92
            refine pwp_plain rfl fun K98 hK98 => p_e rfl (e_adL rfl rfl) (p_mS rfl (p_end (hK98 _ ?_))); clear hK98 K98
            exact loop_again (j + 1) (by show _ < _; omega) ⟨rfl, rfl, rfl, rfl, rfl, rfl, trivial⟩ ⟨rfl, trivial⟩ (by exact ⟨by show _ + 1 ≤ _; omega, by exact FrI.mono hfr95 (by omega), ((hset_ne (key_ne rfl)).trans hoB97)⟩)
           ·have hb91R := hb91; try simp only [zz] at hb91
            have hj2 : j = 2 := by omega
            refine pwp_exit (exit_seq ?_)
            clear hK90 K90
            refine exit_loop (exit_here (block_norm (block_norm (seq_norm (hK18 _ ?_))))); clear hK18 K18
            refine pwp_plain rfl fun K99 hK99 => p_e rfl (e_adL rfl rfl) (p_mS rfl (p_end (hK99 _ ?_))); clear hK99 K99
            exact loop_again (k + 1) (by show _ < _; omega) ⟨rfl, rfl, rfl, trivial⟩ ⟨rfl, trivial⟩ (by exact ⟨by show _ + 1 ≤ _; simp only [List.length_map] at *; omega, by first | exact FrI.mono (FrI.skip hfr2 hm (by omega)) (by omega) | exact FrI.mono hfr2 (by omega), hihj88_0⟩)
          ·have hb83R := hb83; try simp only [zz] at hb83
           refine pwp_skip (block_norm (block_norm (seq_norm (hK18 _ ?_)))); clear hK18 K18
           refine pwp_plain rfl fun K100 hK100 => p_e rfl (e_adL rfl rfl) (p_mS rfl (p_end (hK100 _ ?_))); clear hK100 K100
           exact loop_again (k + 1) (by show _ < _; omega) ⟨rfl, rfl, rfl, trivial⟩ ⟨rfl, trivial⟩ (by exact ⟨by show _ + 1 ≤ _; simp only [List.length_map] at *; omega, by first | exact FrI.mono (FrI.skip (FrI.set rfl (FrI.set rfl hfr)) hm (by omega)) (by omega) | exact FrI.mono (FrI.set rfl (FrI.set rfl hfr)) (by omega), ((hset_ne (key_ne rfl)).trans ((hset_ne (key_ne rfl)).trans hihj14_0))⟩)
       ·have hb54R := hb54; try simp only [zz] at hb54
        refine pwp_plain rfl fun K101 hK101 => p_e rfl (e_eq rfl rfl) (p_aS rfl (p_end (hK101 _ ?_))); clear hK101 K101
        refine seq_norm (hK53 _ ?_); clear hK53 K53
        refine pwp_cond rfl (fun hb102 => ?_) (fun hb102 => ?_)
        ·have hb102R := hb102; try simp only [zz] at hb102
         refine pwp_gopsK rfl fun hkn K103 hK103 => ?_
         have hfs := hkn.fresh 161
         have hfi := FrI.known hkn (by exact (FrI.set rfl (FrI.set rfl hfr))); dsimp only at hfi
         obtain ⟨ve, vb, vm, vr, lh, lr, hI⟩ := hfi
         refine s_begin ?_
         have hll := hldL_len (s := s) (k := k) (a := (lnA s m.a))
         refine s_e rfl (e_move (v := .ptr (31, (c0 31)) 8 0 0) rfl) (s_e rfl (e_nilc rfl) (s_e rfl (e_faQ plF rfl) (s_step [31] (by simp) rfl rfl rfl rfl (e_lH (v := .map (28, (c0 28))) rfl hI.F rfl) trivial (s_e rfl (e_move (v := .ptr (31, (c0 31)) 8 0 0) rfl) (s_e rfl (e_faQ pl3 rfl) (s_step [8] (by simp) rfl rfl rfl rfl (e_lH (v := .sc _) rfl (hset_self _ _ _) rfl) trivial (s_callM [(31, (c0 31))] [31] (by simp) rfl rfl rfl rfl (fun h' hh c' => lineM h' c' s (c0 31) m.a _ ((hh _ (by simp)).trans hI.F) hma) ?_)))))))
         refine s_e rfl (e_move (v := .ptr (31, (c0 31)) 8 0 0) rfl) (s_e rfl (e_nilc rfl) (s_e rfl (e_faQ plF rfl) (s_step [31] (by simp) rfl rfl rfl rfl (e_lH (v := .map (28, (c0 28))) rfl hI.F rfl) trivial (s_e rfl (e_move (v := .ptr (31, (c0 31)) 8 0 0) rfl) (s_e rfl (e_faQ pl3 rfl) (s_step [8] (by simp) rfl rfl rfl rfl (e_lH (v := .sc _) rfl (hset_self _ _ _) rfl) trivial (s_callM [(31, (c0 31))] [31] (by simp) rfl rfl rfl rfl (fun h' hh c' => lineM h' c' s (c0 31) m.a _ ((hh _ (by simp)).trans hI.F) hma) ?_)))))))
         refine s_step [28] (by simp) rfl rfl rfl rfl (e_look (kt := 161) (et := 25) (f := kl) (g := id) (a := (lnA s m.a)) (l := lh) (z := .nil) kl_eq kl_ok rfl rfl hI.hm (by kernel_rfl) (by kernel_rfl) (by first | rfl | kernel_rfl)) trivial (s_e rfl (e_move (v := .sc _) rfl) (s_new [] (by simp) rfl rfl rfl rfl (e_bslice (rows := [ci (k : Int)]) (zs := [.int 0]) (sz := 1) (by kernel_rfl) (by kernel_rfl) rfl (by kernel_rfl) (by decide) rfl rfl (by exact ⟨by decide, rfl, rfl, trivial⟩) rfl) trivial (s_appK2 (u := ((aGet (lnA s m.a) lh).getD .nil)) (sz := 1) (d1 := 161) (d2 := 161) (rows := ((hldL s k (lnA s m.a)).map ci)) (rows2 := [ci (k : Int)]) (ds := [160]) [161, 160] [161] (by simp) (by simp) (by simp) rfl rfl rfl (.inl ((hI.hc _).keep fun g => hset_ne (key_ne rfl))) (SrcAt.ref (hset_self _ _ _) rfl) rfl (by kernel_rfl) (by simp only [List.length_map, List.length_cons, List.length_nil]; omega) (by simp) fun h1 hr1 hf1 => ?_)))
         have hA : ApK _ h1 161 _ 161 161 ((aGet (lnA s m.a) lh).getD .nil) ((hldL s k (lnA s m.a)).map ci).length := hf1
         have hfr104 := Fr.appH (hI.set (d := 160) rfl) hm (by omega) (by omega) hr1 hA (fun g o hh => hfs g o ((hset_ne (key_ne rfl)).symm.trans hh))
         refine s_store [28] (by simp) rfl rfl (e_mset (kt := 161) (et := 25) (f := kl) (g := id) (a := (lnA s m.a)) (b := .ref (161, _) 1 0 _) (l := lh) kl_eq kl_ok rfl rfl rfl rfl (hI.hm.keep ((hA.ne rfl rfl rfl).trans (hset_ne (key_ne rfl)))) (by kernel_rfl)) trivial ?_
         have ho105 := (hA.ne rfl rfl rfl).trans ((hset_ne (key_ne rfl)).trans (hset_self _ _ _))
         have hoB106 := (hA.ne rfl rfl rfl).trans ((hset_ne (key_ne rfl)).trans ((hset_ne (key_ne rfl)).trans ((hset_ne (key_ne rfl)).trans hihj14_0)))
         refine s_end (ds := []) (by kernel_rfl) (by kernel_rfl) (hK103 _ ?_); clear hK103 K103
         refine block_norm (block_norm (seq_norm (hK18 _ ?_))); clear hK18 K18
         refine pwp_plain rfl fun K107 hK107 => p_e rfl (e_adL rfl rfl) (p_mS rfl (p_end (hK107 _ ?_))); clear hK107 K107
         exact loop_again (k + 1) (by show _ < _; omega) ⟨rfl, rfl, rfl, trivial⟩ ⟨rfl, trivial⟩ (by exact ⟨by show _ + 1 ≤ _; simp only [List.length_map] at *; omega, by first | exact FrI.mono (FrI.skip hfr104 hm (by omega)) (by omega) | exact FrI.mono hfr104 (by omega), ((hset_ne (key_ne rfl)).trans hoB106)⟩)
        ·have hb102R := hb102; try simp only [zz] at hb102
         refine pwp_seq_seq (pwp_seq_plain rfl fun K108 hK108 => p_e rfl (e_eq rfl rfl) (p_aS rfl (p_end (hK108 _ ?_)))); clear hK108 K108
         refine pwp_seq_cond rfl fun K109 hK109 => ⟨fun hb110 => ?_, fun hb110 => ?_⟩
         ·have hb110R := hb110; try simp only [zz] at hb110
          refine pwp_skip (seq_norm (hK109 _ ?_)); clear hK109 K109
          refine pwp_cond rfl (fun hb111 => ?_) (fun hb111 => ?_)
          ·have hb111R := hb111; try simp only [zz] at hb111
           refine pwp_seq_plain rfl fun K112 hK112 => p_e rfl (e_faQ pl3 rfl) (p_e rfl (e_lH (v := .sc _) rfl (hset_self _ _ _) rfl) (p_e rfl (e_faQ pl3 rfl) (p_e rfl (e_lH (v := .sc _) rfl (hset_self _ _ _) rfl) (p_e rfl (e_buildA (cs := [.int m.a, .int m.b]) (zs := [.int 0, .int 0]) (pl := pl2) (by kernel_rfl) (by kernel_rfl) (by kernel_rfl) rfl rfl (by exact ⟨by decide, rfl, Nat.le_of_ble_eq_true rfl, rfl, ⟨by decide, rfl, Nat.le_of_ble_eq_true rfl, rfl, trivial⟩⟩) rfl) (p_mS rfl (p_end (hK112 _ ?_))))))); clear hK112 K112
           refine pwp_block (pwp_loopR (α := Nat) [6, 7, 33, 34, 35, 169] (fun (j : Nat) => [(170, .int (j))]) (fun (j : Nat) (h : Heap) (_ : Nat → Nat) => ((j) ≤ 2) ∧ (FrI h s (c0 31) (c0 21) (c0 23) (c0 25) (c0 27) (c0 28) (c0 29) (2 * k + (j)) k) ∧ (h (2, 0) = some (.rows 2 [Scaffold.enc s]))) (fun (j : Nat) => 2 - (j)) (0) (by exact ⟨rfl, trivial⟩) (by exact ⟨by exact Nat.zero_le _, by exact (FrI.set rfl (FrI.set rfl hfr)), ((hset_ne (key_ne rfl)).trans ((hset_ne (key_ne rfl)).trans hihj14_0))⟩) fun j r113 h114 c115 hj116 => ?_)
           obtain ⟨hj, hfr2, hihj116_0⟩ := hj116
           try dsimp only at hj
           try dsimp only at hfr2
           try dsimp only at hihj116_0
           show pwp _ _ (loopQ _ _ _) ⟨sets (mix _ _ _) [(170, .int j)], _, _⟩
           refine pwp_seq_plain rfl fun K117 hK117 => p_e rfl (e_lt rfl rfl) (p_end (hK117 _ ?_)); clear hK117 K117
           refine pwp_seq_cond rfl fun K118 hK118 => ⟨fun hb119 => ?_, fun hb119 => ?_⟩
           ·have hb119R := hb119; try simp only [zz] at hb119
            have hj2 : j < 2 := by omega
            refine pwp_skip (seq_norm (hK118 _ ?_)); clear hK118 K118
            refine pwp_seq_block fun K120 hK120 => pwp_seq_plain rfl fun K121 hK121 => p_e rfl (e_indexA (n := 2) (e := 3) rfl rfl (by kernel_rfl) (by kernel_rfl) (by kernel_rfl) (by omega) rfl (abM_get hj2)) (p_aS rfl (p_end (hK121 _ ?_))); clear hK121 K121
            refine pwp_gopsK rfl fun hkn K122 hK122 => ?_
            have hfs := hkn.fresh 190
            have hfi := FrI.known hkn (by exact hfr2); dsimp only at hfi
            obtain ⟨ve, vb, vm, vr, lh, lr, hI⟩ := hfi
            refine s_begin ?_
            obtain ⟨hgu, R, hs0, hb0⟩ := hI.getL (lnA s (abM m j))
            refine s_e rfl (e_move (v := .ptr (31, (c0 31)) 8 0 0) rfl) (s_e rfl (e_nilc rfl) (s_e rfl (e_faQ plF rfl) (s_step [31] (by simp) rfl rfl rfl rfl (e_lH (v := .map (29, (c0 29))) rfl hI.F rfl) trivial (s_e rfl (e_move (v := .ptr (31, (c0 31)) 8 0 0) rfl) (s_e rfl (e_move (v := .sc _) rfl) (s_callM [(31, (c0 31))] [31] (by simp) rfl rfl rfl rfl (fun h' hh c' => lineM h' c' s (c0 31) (abM m j) _ ((hh _ (by simp)).trans hI.F) (abM_rng hma hmb)) (s_e rfl (e_move (v := .ptr (31, (c0 31)) 8 0 0) rfl) ?_)))))))
            refine s_e rfl (e_nilc rfl) (s_e rfl (e_faQ plF rfl) (s_step [31] (by simp) rfl rfl rfl rfl (e_lH (v := .map (29, (c0 29))) rfl hI.F rfl) trivial (s_e rfl (e_move (v := .ptr (31, (c0 31)) 8 0 0) rfl) (s_e rfl (e_move (v := .sc _) rfl) (s_callM [(31, (c0 31))] [31] (by simp) rfl rfl rfl rfl (fun h' hh c' => lineM h' c' s (c0 31) (abM m j) _ ((hh _ (by simp)).trans hI.F) (abM_rng hma hmb)) (s_step [29] (by simp) rfl rfl rfl rfl (e_look (kt := 161) (et := 25) (f := kl) (g := id) (a := (lnA s (abM m j))) (l := lr) (z := .nil) kl_eq kl_ok rfl rfl hI.rm (by kernel_rfl) (by kernel_rfl) (by first | rfl | kernel_rfl)) trivial (s_e rfl (e_move (v := .sc _) rfl) ?_)))))))
            refine s_new [] (by simp) rfl rfl rfl rfl (e_bslice (rows := [ci (k : Int)]) (zs := [.int 0]) (sz := 1) (by kernel_rfl) (by kernel_rfl) rfl (by kernel_rfl) (by decide) rfl rfl (by exact ⟨by decide, rfl, rfl, trivial⟩) rfl) trivial (s_appK2 (u := ((aGet (lnA s (abM m j)) lr).getD .nil)) (sz := 1) (d1 := 190) (d2 := 190) (rows := R) (rows2 := [ci (k : Int)]) (ds := [189]) [190, 189] [190] (by simp) (by simp) (by simp) rfl rfl rfl (hs0.imp (fun q => q.keep fun g => hset_ne (key_ne rfl)) (fun q => q.keep fun g => hset_ne (key_ne rfl))) (SrcAt.ref (hset_self _ _ _) rfl) rfl (by kernel_rfl) (by simp only [List.length_map, List.length_cons, List.length_nil]; omega) (by simp) fun h1 hr1 hf1 => ?_)
            have hA : ApK _ h1 190 _ 190 190 ((aGet (lnA s (abM m j)) lr).getD .nil) R.length := hf1
            have hfr123 := Fr.appL (hI.set (d := 189) rfl) hgu (hs0.imp (fun q => q.keep fun g => hset_ne (key_ne rfl)) (fun q => q.keep fun g => hset_ne (key_ne rfl))) hb0 hr1 hA (fun g o hh => hfs g o ((hset_ne (key_ne rfl)).symm.trans hh))
            refine s_store [29] (by simp) rfl rfl (e_mset (kt := 161) (et := 25) (f := kl) (g := id) (a := (lnA s (abM m j))) (b := .ref (190, _) 1 0 _) (l := lr) kl_eq kl_ok rfl rfl rfl rfl (hI.rm.keep ((hA.ne rfl rfl rfl).trans (hset_ne (key_ne rfl)))) (by kernel_rfl)) trivial ?_
            have hoB125 := (hA.ne rfl rfl rfl).trans ((hset_ne (key_ne rfl)).trans hihj116_0)
            refine s_end (ds := []) (by kernel_rfl) (by kernel_rfl) (hK122 _ ?_); clear hK122 K122
            refine block_norm (seq_norm (hK120 _ ?_)); clear hK120 K120
            refine pwp_plain rfl fun K126 hK126 => p_e rfl (e_adL rfl rfl) (p_mS rfl (p_end (hK126 _ ?_))); clear hK126 K126
            exact loop_again (j + 1) (by show _ < _; omega) ⟨rfl, rfl, rfl, rfl, rfl, rfl, trivial⟩ ⟨rfl, trivial⟩ (by exact ⟨by show _ + 1 ≤ _; omega, by exact FrI.mono hfr123 (by omega), ((hset_ne (key_ne rfl)).trans hoB125)⟩)
           ·have hb119R := hb119; try simp only [zz] at hb119
            have hj2 : j = 2 := by omega
            refine pwp_exit (exit_seq ?_)
            clear hK118 K118
            refine exit_loop (exit_here (block_norm (block_norm (seq_norm (hK18 _ ?_))))); clear hK18 K18
            refine pwp_plain rfl fun K127 hK127 => p_e rfl (e_adL rfl rfl) (p_mS rfl (p_end (hK127 _ ?_))); clear hK127 K127
            exact loop_again (k + 1) (by show _ < _; omega) ⟨rfl, rfl, rfl, trivial⟩ ⟨rfl, trivial⟩ (by exact ⟨by show _ + 1 ≤ _; simp only [List.length_map] at *; omega, by first | exact FrI.mono (FrI.skip hfr2 hm (by omega)) (by omega) | exact FrI.mono hfr2 (by omega), hihj116_0⟩)
          ·have hb111R := hb111; try simp only [zz] at hb111
           refine pwp_skip (block_norm (block_norm (seq_norm (hK18 _ ?_)))); clear hK18 K18
           refine pwp_plain rfl fun K128 hK128 => p_e rfl (e_adL rfl rfl) (p_mS rfl (p_end (hK128 _ ?_))); clear hK128 K128
           exact loop_again (k + 1) (by show _ < _; omega) ⟨rfl, rfl, rfl, trivial⟩ ⟨rfl, trivial⟩ (by exact ⟨by show _ + 1 ≤ _; simp only [List.length_map] at *; omega, by first | exact FrI.mono (FrI.skip (FrI.set rfl (FrI.set rfl hfr)) hm (by omega)) (by omega) | exact FrI.mono (FrI.set rfl (FrI.set rfl hfr)) (by omega), ((hset_ne (key_ne rfl)).trans ((hset_ne (key_ne rfl)).trans hihj14_0))⟩)
         ·have hb110R := hb110; try simp only [zz] at hb110
          refine pwp_plain rfl fun K129 hK129 => p_e rfl (e_eq rfl rfl) (p_aS rfl (p_end (hK129 _ ?_))); clear hK129 K129
          refine seq_norm (hK109 _ ?_); clear hK109 K109
          refine pwp_cond rfl (fun hb130 => ?_) (fun hb130 => ?_)
          ·have hb130R := hb130; try simp only [zz] at hb130
           refine pwp_seq_plain rfl fun K131 hK131 => p_e rfl (e_faQ pl3 rfl) (p_e rfl (e_lH (v := .sc _) rfl (hset_self _ _ _) rfl) (p_e rfl (e_faQ pl3 rfl) (p_e rfl (e_lH (v := .sc _) rfl (hset_self _ _ _) rfl) (p_e rfl (e_buildA (cs := [.int m.a, .int m.b]) (zs := [.int 0, .int 0]) (pl := pl2) (by kernel_rfl) (by kernel_rfl) (by kernel_rfl) rfl rfl (by exact ⟨by decide, rfl, Nat.le_of_ble_eq_true rfl, rfl, ⟨by decide, rfl, Nat.le_of_ble_eq_true rfl, rfl, trivial⟩⟩) rfl) (p_mS rfl (p_end (hK131 _ ?_))))))); clear hK131 K131
           refine pwp_block (pwp_loopR (α := Nat) [6, 7, 33, 34, 35, 169] (fun (j : Nat) => [(170, .int (j))]) (fun (j : Nat) (h : Heap) (_ : Nat → Nat) => ((j) ≤ 2) ∧ (FrI h s (c0 31) (c0 21) (c0 23) (c0 25) (c0 27) (c0 28) (c0 29) (2 * k + (j)) k) ∧ (h (2, 0) = some (.rows 2 [Scaffold.enc s]))) (fun (j : Nat) => 2 - (j)) (0) (by exact ⟨rfl, trivial⟩) (by exact ⟨by exact Nat.zero_le _, by exact (FrI.set rfl (FrI.set rfl hfr)), ((hset_ne (key_ne rfl)).trans ((hset_ne (key_ne rfl)).trans hihj14_0))⟩) fun j r132 h133 c134 hj135 => ?_)
           obtain ⟨hj, hfr2, hihj135_0⟩ := hj135
           try dsimp only at hj
           try dsimp only at hfr2
           try dsimp only at hihj135_0
           show pwp _ _ (loopQ _ _ _) ⟨sets (mix _ _ _) [(170, .int j)], _, _⟩
           refine pwp_seq_plain rfl fun K136 hK136 => p_e rfl (e_lt rfl rfl) (p_end (hK136 _ ?_)); clear hK136 K136
           refine pwp_seq_cond rfl fun K137 hK137 => ⟨fun hb138 => ?_, fun hb138 => ?_⟩
           ·have hb138R := hb138; try simp only [zz] at hb138
            have hj2 : j < 2 := by omega
            refine pwp_skip (seq_norm (hK137 _ ?_)); clear hK137 K137
            refine pwp_seq_block fun K139 hK139 => pwp_seq_plain rfl fun K140 hK140 => p_e rfl (e_indexA (n := 2) (e := 3) rfl rfl (by kernel_rfl) (by kernel_rfl) (by kernel_rfl) (by omega) rfl (abM_get hj2)) (p_aS rfl (p_end (hK140 _ ?_))); clear hK140 K140
            refine pwp_gopsK rfl fun hkn K141 hK141 => ?_
            have hfs := hkn.fresh 190
            have hfi := FrI.known hkn (by exact hfr2); dsimp only at hfi
            obtain ⟨ve, vb, vm, vr, lh, lr, hI⟩ := hfi
            refine s_begin ?_
            obtain ⟨hgu, R, hs0, hb0⟩ := hI.getL (lnA s (abM m j))
            refine s_e rfl (e_move (v := .ptr (31, (c0 31)) 8 0 0) rfl) (s_e rfl (e_nilc rfl) (s_e rfl (e_faQ plF rfl) (s_step [31] (by simp) rfl rfl rfl rfl (e_lH (v := .map (29, (c0 29))) rfl hI.F rfl) trivial (s_e rfl (e_move (v := .ptr (31, (c0 31)) 8 0 0) rfl) (s_e rfl (e_move (v := .sc _) rfl) (s_callM [(31, (c0 31))] [31] (by simp) rfl rfl rfl rfl (fun h' hh c' => lineM h' c' s (c0 31) (abM m j) _ ((hh _ (by simp)).trans hI.F) (abM_rng hma hmb)) (s_e rfl (e_move (v := .ptr (31, (c0 31)) 8 0 0) rfl) ?_)))))))
            refine s_e rfl (e_nilc rfl) (s_e rfl (e_faQ plF rfl) (s_step [31] (by simp) rfl rfl rfl rfl (e_lH (v := .map (29, (c0 29))) rfl hI.F rfl) trivial (s_e rfl (e_move (v := .ptr (31, (c0 31)) 8 0 0) rfl) (s_e rfl (e_move (v := .sc _) rfl) (s_callM [(31, (c0 31))] [31] (by simp) rfl rfl rfl rfl (fun h' hh c' => lineM h' c' s (c0 31) (abM m j) _ ((hh _ (by simp)).trans hI.F) (abM_rng hma hmb)) (s_step [29] (by simp) rfl rfl rfl rfl (e_look (kt := 161) (et := 25) (f := kl) (g := id) (a := (lnA s (abM m j))) (l := lr) (z := .nil) kl_eq kl_ok rfl rfl hI.rm (by kernel_rfl) (by kernel_rfl) (by first | rfl | kernel_rfl)) trivial (s_e rfl (e_move (v := .sc _) rfl) ?_)))))))
            refine s_new [] (by simp) rfl rfl rfl rfl (e_bslice (rows := [ci (k : Int)]) (zs := [.int 0]) (sz := 1) (by kernel_rfl) (by kernel_rfl) rfl (by kernel_rfl) (by decide) rfl rfl (by exact ⟨by decide, rfl, rfl, trivial⟩) rfl) trivial (s_appK2 (u := ((aGet (lnA s (abM m j)) lr).getD .nil)) (sz := 1) (d1 := 190) (d2 := 190) (rows := R) (rows2 := [ci (k : Int)]) (ds := [189]) [190, 189] [190] (by simp) (by simp) (by simp) rfl rfl rfl (hs0.imp (fun q => q.keep fun g => hset_ne (key_ne rfl)) (fun q => q.keep fun g => hset_ne (key_ne rfl))) (SrcAt.ref (hset_self _ _ _) rfl) rfl (by kernel_rfl) (by simp only [List.length_map, List.length_cons, List.length_nil]; omega) (by simp) fun h1 hr1 hf1 => ?_)
            have hA : ApK _ h1 190 _ 190 190 ((aGet (lnA s (abM m j)) lr).getD .nil) R.length := hf1
            have hfr142 := Fr.appL (hI.set (d := 189) rfl) hgu (hs0.imp (fun q => q.keep fun g => hset_ne (key_ne rfl)) (fun q => q.keep fun g => hset_ne (key_ne rfl))) hb0 hr1 hA (fun g o hh => hfs g o ((hset_ne (key_ne rfl)).symm.trans hh))
            refine s_store [29] (by simp) rfl rfl (e_mset (kt := 161) (et := 25) (f := kl) (g := id) (a := (lnA s (abM m j))) (b := .ref (190, _) 1 0 _) (l := lr) kl_eq kl_ok rfl rfl rfl rfl (hI.rm.keep ((hA.ne rfl rfl rfl).trans (hset_ne (key_ne rfl)))) (by kernel_rfl)) trivial ?_
            have hoB144 := (hA.ne rfl rfl rfl).trans ((hset_ne (key_ne rfl)).trans hihj135_0)
            refine s_end (ds := []) (by kernel_rfl) (by kernel_rfl) (hK141 _ ?_); clear hK141 K141
            refine block_norm (seq_norm (hK139 _ ?_)); clear hK139 K139
            refine pwp_plain rfl fun K145 hK145 => p_e rfl (e_adL rfl rfl) (p_mS rfl (p_end (hK145 _ ?_))); clear hK145 K145
            exact loop_again (j + 1) (by show _ < _; omega) ⟨rfl, rfl, rfl, rfl, rfl, rfl, trivial⟩ ⟨rfl, trivial⟩ (by exact ⟨by show _ + 1 ≤ _; omega, by exact FrI.mono hfr142 (by omega), ((hset_ne (key_ne rfl)).trans hoB144)⟩)
           ·have hb138R := hb138; try simp only [zz] at hb138
            have hj2 : j = 2 := by omega
            refine pwp_exit (exit_seq ?_)
            clear hK137 K137
            refine exit_loop (exit_here (block_norm (block_norm (seq_norm (hK18 _ ?_))))); clear hK18 K18
            refine pwp_plain rfl fun K146 hK146 => p_e rfl (e_adL rfl rfl) (p_mS rfl (p_end (hK146 _ ?_))); clear hK146 K146
            exact loop_again (k + 1) (by show _ < _; omega) ⟨rfl, rfl, rfl, trivial⟩ ⟨rfl, trivial⟩ (by exact ⟨by show _ + 1 ≤ _; simp only [List.length_map] at *; omega, by first | exact FrI.mono (FrI.skip hfr2 hm (by omega)) (by omega) | exact FrI.mono hfr2 (by omega), hihj135_0⟩)
          ·have hb130R := hb130; try simp only [zz] at hb130
           refine pwp_skip (block_norm (block_norm (seq_norm (hK18 _ ?_)))); clear hK18 K18
           refine pwp_plain rfl fun K147 hK147 => p_e rfl (e_adL rfl rfl) (p_mS rfl (p_end (hK147 _ ?_))); clear hK147 K147
           exact loop_again (k + 1) (by show _ < _; omega) ⟨rfl, rfl, rfl, trivial⟩ ⟨rfl, trivial⟩ (by exact ⟨by show _ + 1 ≤ _; simp only [List.length_map] at *; omega, by first | exact FrI.mono (FrI.skip (FrI.set rfl (FrI.set rfl hfr)) hm (by omega)) (by omega) | exact FrI.mono (FrI.set rfl (FrI.set rfl hfr)) (by omega), ((hset_ne (key_ne rfl)).trans ((hset_ne (key_ne rfl)).trans hihj14_0))⟩)
    ·have hb34R := hb34; try simp only [zz] at hb34
     refine pwp_plain rfl fun K148 hK148 => p_e rfl (e_eq rfl rfl) (p_aS rfl (p_end (hK148 _ ?_))); clear hK148 K148
     refine seq_norm (hK33 _ ?_); clear hK33 K33
     refine pwp_cond rfl (fun hb149 => ?_) (fun hb149 => ?_)
     ·have hb149R := hb149; try simp only [zz] at hb149
      refine pwp_seq_gopsK rfl fun hkn K150 hK150 => ?_
      have hfs := hkn.fresh 99
      have hfi := FrI.known hkn (by exact (FrI.set rfl (FrI.set rfl hfr))); dsimp only at hfi
      obtain ⟨ve, vb, vm, vr, lh, lr, hI⟩ := hfi
      refine s_begin ?_
      obtain ⟨u, hu⟩ : ∃ u, vm[m.a.toNat]? = some u := ⟨_, List.getElem?_eq_getElem (by rw [hI.lm]; omega)⟩
      obtain ⟨R, hs0, hb0⟩ := hI.om.at_ _ u hu
      refine s_e rfl (e_move (v := .ptr (31, (c0 31)) 8 0 0) rfl) (s_e rfl (e_nilc rfl) (s_e rfl (e_faQ plF rfl) (s_step [31] (by simp) rfl rfl rfl rfl (e_lH (v := .ref (25, (c0 25)) 1 0 s.nodes.length) rfl hI.F rfl) trivial (s_e rfl (e_faQ pl3 rfl) (s_step [8] (by simp) rfl rfl rfl rfl (e_lH (v := .sc _) rfl (hset_self _ _ _) rfl) trivial (s_e rfl (e_move (v := .ptr (31, (c0 31)) 8 0 0) rfl) (s_e rfl (e_nilc rfl) ?_)))))))
      refine s_e rfl (e_faQ plF rfl) (s_step [31] (by simp) rfl rfl rfl rfl (e_lH (v := .ref (25, (c0 25)) 1 0 s.nodes.length) rfl hI.F rfl) trivial (s_e rfl (e_faQ pl3 rfl) (s_step [8] (by simp) rfl rfl rfl rfl (e_lH (v := .sc _) rfl (hset_self _ _ _) rfl) trivial (s_e rfl (e_ixaR0 rfl rfl (by kernel_rfl) (by kernel_rfl) hma) (s_step [25] (by simp) rfl rfl rfl rfl (e_loadV (v := u) rfl hI.sm (by kernel_rfl) (by kernel_rfl) (by kernel_rfl) hu) trivial (s_e rfl (e_move (v := .sc _) rfl) (s_new [] (by simp) rfl rfl rfl rfl (e_bslice (rows := [ci (k : Int)]) (zs := [.int 0]) (sz := 1) (by kernel_rfl) (by kernel_rfl) rfl (by kernel_rfl) (by decide) rfl rfl (by exact ⟨by decide, rfl, rfl, trivial⟩) rfl) trivial ?_)))))))
      refine s_appK2 (u := u) (sz := 1) (d1 := 99) (d2 := 117) (rows := R) (rows2 := [ci (k : Int)]) (ds := [98]) [99, 117, 98] [99, 117] (by simp) (by simp) (by simp) rfl rfl rfl (hs0.imp (fun q => q.keep fun g => hset_ne (key_ne rfl)) (fun q => q.keep fun g => hset_ne (key_ne rfl))) (SrcAt.ref (hset_self _ _ _) rfl) rfl (by kernel_rfl) (by simp only [List.length_cons, List.length_nil]; omega) (by simp) fun h1 hr1 hf1 => ?_
      have hA : ApK _ h1 99 _ 99 117 u R.length := hf1
      have hfr151 := Fr.appM (hI.set (d := 98) rfl) (d := 99) (.inl rfl) hu (hs0.imp (fun q => q.keep fun g => hset_ne (key_ne rfl)) (fun q => q.keep fun g => hset_ne (key_ne rfl))) hb0 hr1 hA (fun g o hh => hfs g o ((hset_ne (key_ne rfl)).symm.trans hh))
      refine s_e rfl (e_ixaR0 rfl rfl (by kernel_rfl) (by kernel_rfl) hma) (s_store [25] (by simp) rfl rfl (e_storeV rfl ((hA.ne rfl rfl rfl).trans ((hset_ne (key_ne rfl)).trans hI.sm)) rfl rfl rfl (by rw [hI.lm]; omega) (by kernel_rfl) (by kernel_rfl)) trivial ?_)
      have ho152 := (hA.ne rfl rfl rfl).trans ((hset_ne (key_ne rfl)).trans (hset_self _ _ _))
      have hoB153 := (hA.ne rfl rfl rfl).trans ((hset_ne (key_ne rfl)).trans ((hset_ne (key_ne rfl)).trans ((hset_ne (key_ne rfl)).trans hihj14_0)))
      refine s_end (ds := []) (by kernel_rfl) (by kernel_rfl) (hK150 _ ?_); clear hK150 K150
      refine pwp_gopsK rfl fun hkn K154 hK154 => ?_
      have hfs := hkn.fresh 117
      have hfi := FrI.known hkn (by exact hfr151); dsimp only at hfi
      obtain ⟨ve, vb, vm, vr, lh, lr, hI⟩ := hfi
      refine s_begin ?_
      obtain ⟨u, hu⟩ : ∃ u, vm[m.b.toNat]? = some u := ⟨_, List.getElem?_eq_getElem (by rw [hI.lm]; omega)⟩
      obtain ⟨R, hs0, hb0⟩ := hI.om.at_ _ u hu
      refine s_e rfl (e_move (v := .ptr (31, (c0 31)) 8 0 0) rfl) (s_e rfl (e_nilc rfl) (s_e rfl (e_faQ plF rfl) (s_step [31] (by simp) rfl rfl rfl rfl (e_lH (v := .ref (25, (c0 25)) 1 0 s.nodes.length) rfl hI.F rfl) trivial (s_e rfl (e_faQ pl3 rfl) (s_step [8] (by simp) rfl rfl rfl rfl (e_lH (v := .sc _) rfl ((hset_ne (key_ne rfl)).trans ho152) rfl) trivial (s_e rfl (e_move (v := .ptr (31, (c0 31)) 8 0 0) rfl) (s_e rfl (e_nilc rfl) ?_)))))))
      refine s_e rfl (e_faQ plF rfl) (s_step [31] (by simp) rfl rfl rfl rfl (e_lH (v := .ref (25, (c0 25)) 1 0 s.nodes.length) rfl hI.F rfl) trivial (s_e rfl (e_faQ pl3 rfl) (s_step [8] (by simp) rfl rfl rfl rfl (e_lH (v := .sc _) rfl ((hset_ne (key_ne rfl)).trans ho152) rfl) trivial (s_e rfl (e_ixaR0 rfl rfl (by kernel_rfl) (by kernel_rfl) hmb) (s_step [25] (by simp) rfl rfl rfl rfl (e_loadV (v := u) rfl hI.sm (by kernel_rfl) (by kernel_rfl) (by kernel_rfl) hu) trivial (s_e rfl (e_move (v := .sc _) rfl) (s_new [] (by simp) rfl rfl rfl rfl (e_bslice (rows := [ci (k : Int)]) (zs := [.int 0]) (sz := 1) (by kernel_rfl) (by kernel_rfl) rfl (by kernel_rfl) (by decide) rfl rfl (by exact ⟨by decide, rfl, rfl, trivial⟩) rfl) trivial ?_)))))))
      refine s_appK2 (u := u) (sz := 1) (d1 := 99) (d2 := 117) (rows := R) (rows2 := [ci (k : Int)]) (ds := [116]) [99, 117, 116] [99, 117] (by simp) (by simp) (by simp) rfl rfl rfl (hs0.imp (fun q => q.keep fun g => hset_ne (key_ne rfl)) (fun q => q.keep fun g => hset_ne (key_ne rfl))) (SrcAt.ref (hset_self _ _ _) rfl) rfl (by kernel_rfl) (by simp only [List.length_cons, List.length_nil]; omega) (by simp) fun h1 hr1 hf1 => ?_
      have hA : ApK _ h1 117 _ 99 117 u R.length := hf1
      have hfr155 := Fr.appM (hI.set (d := 116) rfl) (d := 117) (.inr rfl) hu (hs0.imp (fun q => q.keep fun g => hset_ne (key_ne rfl)) (fun q => q.keep fun g => hset_ne (key_ne rfl))) hb0 hr1 hA (fun g o hh => hfs g o ((hset_ne (key_ne rfl)).symm.trans hh))
      refine s_e rfl (e_ixaR0 rfl rfl (by kernel_rfl) (by kernel_rfl) hmb) (s_store [25] (by simp) rfl rfl (e_storeV rfl ((hA.ne rfl rfl rfl).trans ((hset_ne (key_ne rfl)).trans hI.sm)) rfl rfl rfl (by rw [hI.lm]; omega) (by kernel_rfl) (by kernel_rfl)) trivial ?_)
      have ho156 := (hA.ne rfl rfl rfl).trans ((hset_ne (key_ne rfl)).trans ((hset_ne (key_ne rfl)).trans ho152))
      have hoB157 := (hA.ne rfl rfl rfl).trans ((hset_ne (key_ne rfl)).trans ((hset_ne (key_ne rfl)).trans hoB153))
      refine s_end (ds := []) (by kernel_rfl) (by kernel_rfl) (hK154 _ ?_); clear hK154 K154
      refine block_norm (block_norm (seq_norm (hK18 _ ?_))); clear hK18 K18
      refine pwp_plain rfl fun K158 hK158 => p_e rfl (e_adL rfl rfl) (p_mS rfl (p_end (hK158 _ ?_))); clear hK158 K158
      exact loop_again (k + 1) (by show _ < _; omega) ⟨rfl, rfl, rfl, trivial⟩ ⟨rfl, trivial⟩ (by exact ⟨by show _ + 1 ≤ _; simp only [List.length_map] at *; omega, by first | exact FrI.mono (FrI.skip hfr155 hm (by omega)) (by omega) | exact FrI.mono hfr155 (by omega), ((hset_ne (key_ne rfl)).trans hoB157)⟩)
     ·have hb149R := hb149; try simp only [zz] at hb149
      refine pwp_seq_plain rfl fun K159 hK159 => p_e rfl (e_eq rfl rfl) (p_aS rfl (p_end (hK159 _ ?_))); clear hK159 K159
      refine pwp_cond rfl (fun hb160 => ?_) (fun hb160 => ?_)
      ·have hb160R := hb160; try simp only [zz] at hb160
       refine pwp_gopsK rfl fun hkn K161 hK161 => ?_
       have hfs := hkn.fresh 137
       have hfi := FrI.known hkn (by exact (FrI.set rfl (FrI.set rfl hfr))); dsimp only at hfi
       obtain ⟨ve, vb, vm, vr, lh, lr, hI⟩ := hfi
       refine s_begin ?_
       obtain ⟨u, hu⟩ : ∃ u, vr[m.b.toNat]? = some u := ⟨_, List.getElem?_eq_getElem (by rw [hI.lr_]; omega)⟩
       obtain ⟨R, hs0, hb0⟩ := hI.or_.at_ _ u hu
       refine s_e rfl (e_move (v := .ptr (31, (c0 31)) 8 0 0) rfl) (s_e rfl (e_nilc rfl) (s_e rfl (e_faQ plF rfl) (s_step [31] (by simp) rfl rfl rfl rfl (e_lH (v := .ref (27, (c0 27)) 1 0 s.nodes.length) rfl hI.F rfl) trivial (s_e rfl (e_faQ pl3 rfl) (s_step [8] (by simp) rfl rfl rfl rfl (e_lH (v := .sc _) rfl (hset_self _ _ _) rfl) trivial (s_e rfl (e_move (v := .ptr (31, (c0 31)) 8 0 0) rfl) (s_e rfl (e_nilc rfl) ?_)))))))
       refine s_e rfl (e_faQ plF rfl) (s_step [31] (by simp) rfl rfl rfl rfl (e_lH (v := .ref (27, (c0 27)) 1 0 s.nodes.length) rfl hI.F rfl) trivial (s_e rfl (e_faQ pl3 rfl) (s_step [8] (by simp) rfl rfl rfl rfl (e_lH (v := .sc _) rfl (hset_self _ _ _) rfl) trivial (s_e rfl (e_ixaR0 rfl rfl (by kernel_rfl) (by kernel_rfl) hmb) (s_step [27] (by simp) rfl rfl rfl rfl (e_loadV (v := u) rfl hI.sr (by kernel_rfl) (by kernel_rfl) (by kernel_rfl) hu) trivial (s_e rfl (e_move (v := .sc _) rfl) (s_new [] (by simp) rfl rfl rfl rfl (e_bslice (rows := [ci (k : Int)]) (zs := [.int 0]) (sz := 1) (by kernel_rfl) (by kernel_rfl) rfl (by kernel_rfl) (by decide) rfl rfl (by exact ⟨by decide, rfl, rfl, trivial⟩) rfl) trivial ?_)))))))
       refine s_appK2 (u := u) (sz := 1) (d1 := 137) (d2 := 137) (rows := R) (rows2 := [ci (k : Int)]) (ds := [136]) [137, 137, 136] [137, 137] (by simp) (by simp) (by simp) rfl rfl rfl (hs0.imp (fun q => q.keep fun g => hset_ne (key_ne rfl)) (fun q => q.keep fun g => hset_ne (key_ne rfl))) (SrcAt.ref (hset_self _ _ _) rfl) rfl (by kernel_rfl) (by simp only [List.length_cons, List.length_nil]; omega) (by simp) fun h1 hr1 hf1 => ?_
       have hA : ApK _ h1 137 _ 137 137 u R.length := hf1
       have hfr162 := Fr.appR (hI.set (d := 136) rfl) hu (hs0.imp (fun q => q.keep fun g => hset_ne (key_ne rfl)) (fun q => q.keep fun g => hset_ne (key_ne rfl))) hb0 hr1 hA (fun g o hh => hfs g o ((hset_ne (key_ne rfl)).symm.trans hh))
       refine s_e rfl (e_ixaR0 rfl rfl (by kernel_rfl) (by kernel_rfl) hmb) (s_store [27] (by simp) rfl rfl (e_storeV rfl ((hA.ne rfl rfl rfl).trans ((hset_ne (key_ne rfl)).trans hI.sr)) rfl rfl rfl (by rw [hI.lr_]; omega) (by kernel_rfl) (by kernel_rfl)) trivial ?_)
       have ho163 := (hA.ne rfl rfl rfl).trans ((hset_ne (key_ne rfl)).trans (hset_self _ _ _))
       have hoB164 := (hA.ne rfl rfl rfl).trans ((hset_ne (key_ne rfl)).trans ((hset_ne (key_ne rfl)).trans ((hset_ne (key_ne rfl)).trans hihj14_0)))
       refine s_end (ds := []) (by kernel_rfl) (by kernel_rfl) (hK161 _ ?_); clear hK161 K161
       refine block_norm (block_norm (seq_norm (hK18 _ ?_))); clear hK18 K18
       refine pwp_plain rfl fun K165 hK165 => p_e rfl (e_adL rfl rfl) (p_mS rfl (p_end (hK165 _ ?_))); clear hK165 K165
       exact loop_again (k + 1) (by show _ < _; omega) ⟨rfl, rfl, rfl, trivial⟩ ⟨rfl, trivial⟩ (by exact ⟨by show _ + 1 ≤ _; simp only [List.length_map] at *; omega, by first | exact FrI.mono (FrI.skip hfr162 hm (by omega)) (by omega) | exact FrI.mono hfr162 (by omega), ((hset_ne (key_ne rfl)).trans hoB164)⟩)
      ·have hb160R := hb160; try simp only [zz] at hb160
       refine pwp_seq_seq (pwp_seq_plain rfl fun K166 hK166 => p_e rfl (e_eq rfl rfl) (p_aS rfl (p_end (hK166 _ ?_)))); clear hK166 K166
       refine pwp_seq_cond rfl fun K167 hK167 => ⟨fun hb168 => ?_, fun hb168 => ?_⟩
       ·have hb168R := hb168; try simp only [zz] at hb168
        refine pwp_skip (seq_norm (hK167 _ ?_)); clear hK167 K167
        refine pwp_cond rfl (fun hb169 => ?_) (fun hb169 => ?_)
        ·have hb169R := hb169; try simp only [zz] at hb169
         refine pwp_gopsK rfl fun hkn K170 hK170 => ?_
         have hfs := hkn.fresh 161
         have hfi := FrI.known hkn (by exact (FrI.set rfl (FrI.set rfl hfr))); dsimp only at hfi
         obtain ⟨ve, vb, vm, vr, lh, lr, hI⟩ := hfi
         refine s_begin ?_
         have hll := hldL_len (s := s) (k := k) (a := (lnA s m.a))
         refine s_e rfl (e_move (v := .ptr (31, (c0 31)) 8 0 0) rfl) (s_e rfl (e_nilc rfl) (s_e rfl (e_faQ plF rfl) (s_step [31] (by simp) rfl rfl rfl rfl (e_lH (v := .map (28, (c0 28))) rfl hI.F rfl) trivial (s_e rfl (e_move (v := .ptr (31, (c0 31)) 8 0 0) rfl) (s_e rfl (e_faQ pl3 rfl) (s_step [8] (by simp) rfl rfl rfl rfl (e_lH (v := .sc _) rfl (hset_self _ _ _) rfl) trivial (s_callM [(31, (c0 31))] [31] (by simp) rfl rfl rfl rfl (fun h' hh c' => lineM h' c' s (c0 31) m.a _ ((hh _ (by simp)).trans hI.F) hma) ?_)))))))
         refine s_e rfl (e_move (v := .ptr (31, (c0 31)) 8 0 0) rfl) (s_e rfl (e_nilc rfl) (s_e rfl (e_faQ plF rfl) (s_step [31] (by simp) rfl rfl rfl rfl (e_lH (v := .map (28, (c0 28))) rfl hI.F rfl) trivial (s_e rfl (e_move (v := .ptr (31, (c0 31)) 8 0 0) rfl) (s_e rfl (e_faQ pl3 rfl) (s_step [8] (by simp) rfl rfl rfl rfl (e_lH (v := .sc _) rfl (hset_self _ _ _) rfl) trivial (s_callM [(31, (c0 31))] [31] (by simp) rfl rfl rfl rfl (fun h' hh c' => lineM h' c' s (c0 31) m.a _ ((hh _ (by simp)).trans hI.F) hma) ?_)))))))
         refine s_step [28] (by simp) rfl rfl rfl rfl (e_look (kt := 161) (et := 25) (f := kl) (g := id) (a := (lnA s m.a)) (l := lh) (z := .nil) kl_eq kl_ok rfl rfl hI.hm (by kernel_rfl) (by kernel_rfl) (by first | rfl | kernel_rfl)) trivial (s_e rfl (e_move (v := .sc _) rfl) (s_new [] (by simp) rfl rfl rfl rfl (e_bslice (rows := [ci (k : Int)]) (zs := [.int 0]) (sz := 1) (by kernel_rfl) (by kernel_rfl) rfl (by kernel_rfl) (by decide) rfl rfl (by exact ⟨by decide, rfl, rfl, trivial⟩) rfl) trivial (s_appK2 (u := ((aGet (lnA s m.a) lh).getD .nil)) (sz := 1) (d1 := 161) (d2 := 161) (rows := ((hldL s k (lnA s m.a)).map ci)) (rows2 := [ci (k : Int)]) (ds := [160]) [161, 160] [161] (by simp) (by simp) (by simp) rfl rfl rfl (.inl ((hI.hc _).keep fun g => hset_ne (key_ne rfl))) (SrcAt.ref (hset_self _ _ _) rfl) rfl (by kernel_rfl) (by simp only [List.length_map, List.length_cons, List.length_nil]; omega) (by simp) fun h1 hr1 hf1 => ?_)))
         have hA : ApK _ h1 161 _ 161 161 ((aGet (lnA s m.a) lh).getD .nil) ((hldL s k (lnA s m.a)).map ci).length := hf1
         have hfr171 := Fr.appH (hI.set (d := 160) rfl) hm (by omega) (by omega) hr1 hA (fun g o hh => hfs g o ((hset_ne (key_ne rfl)).symm.trans hh))
         refine s_store [28] (by simp) rfl rfl (e_mset (kt := 161) (et := 25) (f := kl) (g := id) (a := (lnA s m.a)) (b := .ref (161, _) 1 0 _) (l := lh) kl_eq kl_ok rfl rfl rfl rfl (hI.hm.keep ((hA.ne rfl rfl rfl).trans (hset_ne (key_ne rfl)))) (by kernel_rfl)) trivial ?_
         have ho172 := (hA.ne rfl rfl rfl).trans ((hset_ne (key_ne rfl)).trans (hset_self _ _ _))
         have hoB173 := (hA.ne rfl rfl rfl).trans ((hset_ne (key_ne rfl)).trans ((hset_ne (key_ne rfl)).trans ((hset_ne (key_ne rfl)).trans hihj14_0)))
         refine s_end (ds := []) (by kernel_rfl) (by kernel_rfl) (hK170 _ ?_); clear hK170 K170
         refine block_norm (block_norm (seq_norm (hK18 _ ?_))); clear hK18 K18
         refine pwp_plain rfl fun K174 hK174 => p_e rfl (e_adL rfl rfl) (p_mS rfl (p_end (hK174 _ ?_))); clear hK174 K174
         exact loop_again (k + 1) (by show _ < _; omega) ⟨rfl, rfl, rfl, trivial⟩ ⟨rfl, trivial⟩ (by exact ⟨by show _ + 1 ≤ _; simp only [List.length_map] at *; omega, by first | exact FrI.mono (FrI.skip hfr171 hm (by omega)) (by omega) | exact FrI.mono hfr171 (by omega), ((hset_ne (key_ne rfl)).trans hoB173)⟩)
        ·have hb169R := hb169; try simp only [zz] at hb169
         refine pwp_seq_seq (pwp_seq_plain rfl fun K175 hK175 => p_e rfl (e_eq rfl rfl) (p_aS rfl (p_end (hK175 _ ?_)))); clear hK175 K175
         refine pwp_seq_cond rfl fun K176 hK176 => ⟨fun hb177 => ?_, fun hb177 => ?_⟩
         ·have hb177R := hb177; try simp only [zz] at hb177
          refine pwp_skip (seq_norm (hK176 _ ?_)); clear hK176 K176
          refine pwp_cond rfl (fun hb178 => ?_) (fun hb178 => ?_)
          ·have hb178R := hb178; try simp only [zz] at hb178
           refine pwp_seq_plain rfl fun K179 hK179 => p_e rfl (e_faQ pl3 rfl) (p_e rfl (e_lH (v := .sc _) rfl (hset_self _ _ _) rfl) (p_e rfl (e_faQ pl3 rfl) (p_e rfl (e_lH (v := .sc _) rfl (hset_self _ _ _) rfl) (p_e rfl (e_buildA (cs := [.int m.a, .int m.b]) (zs := [.int 0, .int 0]) (pl := pl2) (by kernel_rfl) (by kernel_rfl) (by kernel_rfl) rfl rfl (by exact ⟨by decide, rfl, Nat.le_of_ble_eq_true rfl, rfl, ⟨by decide, rfl, Nat.le_of_ble_eq_true rfl, rfl, trivial⟩⟩) rfl) (p_mS rfl (p_end (hK179 _ ?_))))))); clear hK179 K179
           refine pwp_block (pwp_loopR (α := Nat) [6, 7, 33, 34, 35, 169] (fun (j : Nat) => [(170, .int (j))]) (fun (j : Nat) (h : Heap) (_ : Nat → Nat) => ((j) ≤ 2) ∧ (FrI h s (c0 31) (c0 21) (c0 23) (c0 25) (c0 27) (c0 28) (c0 29) (2 * k + (j)) k) ∧ (h (2, 0) = some (.rows 2 [Scaffold.enc s]))) (fun (j : Nat) => 2 - (j)) (0) (by exact ⟨rfl, trivial⟩) (by exact ⟨by exact Nat.zero_le _, by exact (FrI.set rfl (FrI.set rfl hfr)), ((hset_ne (key_ne rfl)).trans ((hset_ne (key_ne rfl)).trans hihj14_0))⟩) fun j r180 h181 c182 hj183 => ?_)
           obtain ⟨hj, hfr2, hihj183_0⟩ := hj183
           try dsimp only at hj
           try dsimp only at hfr2
           try dsimp only at hihj183_0
           show pwp _ _ (loopQ _ _ _) ⟨sets (mix _ _ _) [(170, .int j)], _, _⟩
           refine pwp_seq_plain rfl fun K184 hK184 => p_e rfl (e_lt rfl rfl) (p_end (hK184 _ ?_)); clear hK184 K184
           refine pwp_seq_cond rfl fun K185 hK185 => ⟨fun hb186 => ?_, fun hb186 => ?_⟩
           ·have hb186R := hb186; try simp only [zz] at hb186
            have hj2 : j < 2 := by omega
            refine pwp_skip (seq_norm (hK185 _ ?_)); clear hK185 K185
            refine pwp_seq_block fun K187 hK187 => pwp_seq_plain rfl fun K188 hK188 => p_e rfl (e_indexA (n := 2) (e := 3) rfl rfl (by kernel_rfl) (by kernel_rfl) (by kernel_rfl) (by omega) rfl (abM_get hj2)) (p_aS rfl (p_end (hK188 _ ?_))); clear hK188 K188
            refine pwp_gopsK rfl fun hkn K189 hK189 => ?_
            have hfs := hkn.fresh 190
            have hfi := FrI.known hkn (by exact hfr2); dsimp only at hfi
            obtain ⟨ve, vb, vm, vr, lh, lr, hI⟩ := hfi
            refine s_begin ?_
            obtain ⟨hgu, R, hs0, hb0⟩ := hI.getL (lnA s (abM m j))
            refine s_e rfl (e_move (v := .ptr (31, (c0 31)) 8 0 0) rfl) (s_e rfl (e_nilc rfl) (s_e rfl (e_faQ plF rfl) (s_step [31] (by simp) rfl rfl rfl rfl (e_lH (v := .map (29, (c0 29))) rfl hI.F rfl) trivial (s_e rfl (e_move (v := .ptr (31, (c0 31)) 8 0 0) rfl) (s_e rfl (e_move (v := .sc _) rfl) (s_callM [(31, (c0 31))] [31] (by simp) rfl rfl rfl rfl (fun h' hh c' => lineM h' c' s (c0 31) (abM m j) _ ((hh _ (by simp)).trans hI.F) (abM_rng hma hmb)) (s_e rfl (e_move (v := .ptr (31, (c0 31)) 8 0 0) rfl) ?_)))))))
            refine s_e rfl (e_nilc rfl) (s_e rfl (e_faQ plF rfl) (s_step [31] (by simp) rfl rfl rfl rfl (e_lH (v := .map (29, (c0 29))) rfl hI.F rfl) trivial (s_e rfl (e_move (v := .ptr (31, (c0 31)) 8 0 0) rfl) (s_e rfl (e_move (v := .sc _) rfl) (s_callM [(31, (c0 31))] [31] (by simp) rfl rfl rfl rfl (fun h' hh c' => lineM h' c' s (c0 31) (abM m j) _ ((hh _ (by simp)).trans hI.F) (abM_rng hma hmb)) (s_step [29] (by simp) rfl rfl rfl rfl (e_look (kt := 161) (et := 25) (f := kl) (g := id) (a := (lnA s (abM m j))) (l := lr) (z := .nil) kl_eq kl_ok rfl rfl hI.rm (by kernel_rfl) (by kernel_rfl) (by first | rfl | kernel_rfl)) trivial (s_e rfl (e_move (v := .sc _) rfl) ?_)))))))
            refine s_new [] (by simp) rfl rfl rfl rfl (e_bslice (rows := [ci (k : Int)]) (zs := [.int 0]) (sz := 1) (by kernel_rfl) (by kernel_rfl) rfl (by kernel_rfl) (by decide) rfl rfl (by exact ⟨by decide, rfl, rfl, trivial⟩) rfl) trivial (s_appK2 (u := ((aGet (lnA s (abM m j)) lr).getD .nil)) (sz := 1) (d1 := 190) (d2 := 190) (rows := R) (rows2 := [ci (k : Int)]) (ds := [189]) [190, 189] [190] (by simp) (by simp) (by simp) rfl rfl rfl (hs0.imp (fun q => q.keep fun g => hset_ne (key_ne rfl)) (fun q => q.keep fun g => hset_ne (key_ne rfl))) (SrcAt.ref (hset_self _ _ _) rfl) rfl (by kernel_rfl) (by simp only [List.length_map, List.length_cons, List.length_nil]; omega) (by simp) fun h1 hr1 hf1 => ?_)
            have hA : ApK _ h1 190 _ 190 190 ((aGet (lnA s (abM m j)) lr).getD .nil) R.length := hf1
            have hfr190 := Fr.appL (hI.set (d := 189) rfl) hgu (hs0.imp (fun q => q.keep fun g => hset_ne (key_ne rfl)) (fun q => q.keep fun g => hset_ne (key_ne rfl))) hb0 hr1 hA (fun g o hh => hfs g o ((hset_ne (key_ne rfl)).symm.trans hh))
            refine s_store [29] (by simp) rfl rfl (e_mset (kt := 161) (et := 25) (f := kl) (g := id) (a := (lnA s (abM m j))) (b := .ref (190, _) 1 0 _) (l := lr) kl_eq kl_ok rfl rfl rfl rfl (hI.rm.keep ((hA.ne rfl rfl rfl).trans (hset_ne (key_ne rfl)))) (by kernel_rfl)) trivial ?_
            have hoB192 := (hA.ne rfl rfl rfl).trans ((hset_ne (key_ne rfl)).trans hihj183_0)
            refine s_end (ds := []) (by kernel_rfl) (by kernel_rfl) (hK189 _ ?_); clear hK189 K189
            refine block_norm (seq_norm (hK187 _ ?_)); clear hK187 K187
            refine pwp_plain rfl fun K193 hK193 => p_e rfl (e_adL rfl rfl) (p_mS rfl (p_end (hK193 _ ?_))); clear hK193 K193
            exact loop_again (j + 1) (by show _ < _; omega) ⟨rfl, rfl, rfl, rfl, rfl, rfl, trivial⟩ ⟨rfl, trivial⟩ (by exact ⟨by show _ + 1 ≤ _; omega, by exact FrI.mono hfr190 (by omega), ((hset_ne (key_ne rfl)).trans hoB192)⟩)
           ·have hb186R := hb186; try simp only [zz] at hb186
            have hj2 : j = 2 := by omega
            refine pwp_exit (exit_seq ?_)
            clear hK185 K185
            refine exit_loop (exit_here (block_norm (block_norm (seq_norm (hK18 _ ?_))))); clear hK18 K18
            refine pwp_plain rfl fun K194 hK194 => p_e rfl (e_adL rfl rfl) (p_mS rfl (p_end (hK194 _ ?_))); clear hK194 K194
            exact loop_again (k + 1) (by show _ < _; omega) ⟨rfl, rfl, rfl, trivial⟩ ⟨rfl, trivial⟩ (by exact ⟨by show _ + 1 ≤ _; simp only [List.length_map] at *; omega, by first | exact FrI.mono (FrI.skip hfr2 hm (by omega)) (by omega) | exact FrI.mono hfr2 (by omega), hihj183_0⟩)
          ·have hb178R := hb178; try simp only [zz] at hb178
           refine pwp_skip (block_norm (block_norm (seq_norm (hK18 _ ?_)))); clear hK18 K18
           refine pwp_plain rfl fun K195 hK195 => p_e rfl (e_adL rfl rfl) (p_mS rfl (p_end (hK195 _ ?_))); clear hK195 K195
           exact loop_again (k + 1) (by show _ < _; omega) ⟨rfl, rfl, rfl, trivial⟩ ⟨rfl, trivial⟩ (by exact ⟨by show _ + 1 ≤ _; simp only [List.length_map] at *; omega, by first | exact FrI.mono (FrI.skip (FrI.set rfl (FrI.set rfl hfr)) hm (by omega)) (by omega) | exact FrI.mono (FrI.set rfl (FrI.set rfl hfr)) (by omega), ((hset_ne (key_ne rfl)).trans ((hset_ne (key_ne rfl)).trans hihj14_0))⟩)
         ·have hb177R := hb177; try simp only [zz] at hb177
          refine pwp_plain rfl fun K196 hK196 => p_e rfl (e_eq rfl rfl) (p_aS rfl (p_end (hK196 _ ?_))); clear hK196 K196
          refine seq_norm (hK176 _ ?_); clear hK176 K176
          refine pwp_cond rfl (fun hb197 => ?_) (fun hb197 => ?_)
          ·have hb197R := hb197; try simp only [zz] at hb197
           refine pwp_seq_plain rfl fun K198 hK198 => p_e rfl (e_faQ pl3 rfl) (p_e rfl (e_lH (v := .sc _) rfl (hset_self _ _ _) rfl) (p_e rfl (e_faQ pl3 rfl) (p_e rfl (e_lH (v := .sc _) rfl (hset_self _ _ _) rfl) (p_e rfl (e_buildA (cs := [.int m.a, .int m.b]) (zs := [.int 0, .int 0]) (pl := pl2) (by kernel_rfl) (by kernel_rfl) (by kernel_rfl) rfl rfl (by exact ⟨by decide, rfl, Nat.le_of_ble_eq_true rfl, rfl, ⟨by decide, rfl, Nat.le_of_ble_eq_true rfl, rfl, trivial⟩⟩) rfl) (p_mS rfl (p_end (hK198 _ ?_))))))); clear hK198 K198
           refine pwp_block (pwp_loopR (α := Nat) [6, 7, 33, 34, 35, 169] (fun (j : Nat) => [(170, .int (j))]) (fun (j : Nat) (h : Heap) (_ : Nat → Nat) => ((j) ≤ 2) ∧ (FrI h s (c0 31) (c0 21) (c0 23) (c0 25) (c0 27) (c0 28) (c0 29) (2 * k + (j)) k) ∧ (h (2, 0) = some (.rows 2 [Scaffold.enc s]))) (fun (j : Nat) => 2 - (j)) (0) (by exact ⟨rfl, trivial⟩) (by exact ⟨by exact Nat.zero_le _, by exact (FrI.set rfl (FrI.set rfl hfr)), ((hset_ne (key_ne rfl)).trans ((hset_ne (key_ne rfl)).trans hihj14_0))⟩) fun j r199 h200 c201 hj202 => ?_)
           obtain ⟨hj, hfr2, hihj202_0⟩ := hj202
           try dsimp only at hj
           try dsimp only at hfr2
           try dsimp only at hihj202_0
           show pwp _ _ (loopQ _ _ _) ⟨sets (mix _ _ _) [(170, .int j)], _, _⟩
           refine pwp_seq_plain rfl fun K203 hK203 => p_e rfl (e_lt rfl rfl) (p_end (hK203 _ ?_)); clear hK203 K203
           refine pwp_seq_cond rfl fun K204 hK204 => ⟨fun hb205 => ?_, fun hb205 => ?_⟩
           ·have hb205R := hb205; try simp only [zz] at hb205
            have hj2 : j < 2 := by omega
            refine pwp_skip (seq_norm (hK204 _ ?_)); clear hK204 K204
            refine pwp_seq_block fun K206 hK206 => pwp_seq_plain rfl fun K207 hK207 => p_e rfl (e_indexA (n := 2) (e := 3) rfl rfl (by kernel_rfl) (by kernel_rfl) (by kernel_rfl) (by omega) rfl (abM_get hj2)) (p_aS rfl (p_end (hK207 _ ?_))); clear hK207 K207
            refine pwp_gopsK rfl fun hkn K208 hK208 => ?_
            have hfs := hkn.fresh 190
            have hfi := FrI.known hkn (by exact hfr2); dsimp only at hfi
            obtain ⟨ve, vb, vm, vr, lh, lr, hI⟩ := hfi
            refine s_begin ?_
            obtain ⟨hgu, R, hs0, hb0⟩ := hI.getL (lnA s (abM m j))
            refine s_e rfl (e_move (v := .ptr (31, (c0 31)) 8 0 0) rfl) (s_e rfl (e_nilc rfl) (s_e rfl (e_faQ plF rfl) (s_step [31] (by simp) rfl rfl rfl rfl (e_lH (v := .map (29, (c0 29))) rfl hI.F rfl) trivial (s_e rfl (e_move (v := .ptr (31, (c0 31)) 8 0 0) rfl) (s_e rfl (e_move (v := .sc _) rfl) (s_callM [(31, (c0 31))] [31] (by simp) rfl rfl rfl rfl (fun h' hh c' => lineM h' c' s (c0 31) (abM m j) _ ((hh _ (by simp)).trans hI.F) (abM_rng hma hmb)) (s_e rfl (e_move (v := .ptr (31, (c0 31)) 8 0 0) rfl) ?_)))))))
            refine s_e rfl (e_nilc rfl) (s_e rfl (e_faQ plF rfl) (s_step [31] (by simp) rfl rfl rfl rfl (e_lH (v := .map (29, (c0 29))) rfl hI.F rfl) trivial (s_e rfl (e_move (v := .ptr (31, (c0 31)) 8 0 0) rfl) (s_e rfl (e_move (v := .sc _) rfl) (s_callM [(31, (c0 31))] [31] (by simp) rfl rfl rfl rfl (fun h' hh c' => lineM h' c' s (c0 31) (abM m j) _ ((hh _ (by simp)).trans hI.F) (abM_rng hma hmb)) (s_step [29] (by simp) rfl rfl rfl rfl (e_look (kt := 161) (et := 25) (f := kl) (g := id) (a := (lnA s (abM m j))) (l := lr) (z := .nil) kl_eq kl_ok rfl rfl hI.rm (by kernel_rfl) (by kernel_rfl) (by first | rfl | kernel_rfl)) trivial (s_e rfl (e_move (v := .sc _) rfl) ?_)))))))
            refine s_new [] (by simp) rfl rfl rfl rfl (e_bslice (rows := [ci (k : Int)]) (zs := [.int 0]) (sz := 1) (by kernel_rfl) (by kernel_rfl) rfl (by kernel_rfl) (by decide) rfl rfl (by exact ⟨by decide, rfl, rfl, trivial⟩) rfl) trivial (s_appK2 (u := ((aGet (lnA s (abM m j)) lr).getD .nil)) (sz := 1) (d1 := 190) (d2 := 190) (rows := R) (rows2 := [ci (k : Int)]) (ds := [189]) [190, 189] [190] (by simp) (by simp) (by simp) rfl rfl rfl (hs0.imp (fun q => q.keep fun g => hset_ne (key_ne rfl)) (fun q => q.keep fun g => hset_ne (key_ne rfl))) (SrcAt.ref (hset_self _ _ _) rfl) rfl (by kernel_rfl) (by simp only [List.length_map, List.length_cons, List.length_nil]; omega) (by simp) fun h1 hr1 hf1 => ?_)
            have hA : ApK _ h1 190 _ 190 190 ((aGet (lnA s (abM m j)) lr).getD .nil) R.length := hf1
            have hfr209 := Fr.appL (hI.set (d := 189) rfl) hgu (hs0.imp (fun q => q.keep fun g => hset_ne (key_ne rfl)) (fun q => q.keep fun g => hset_ne (key_ne rfl))) hb0 hr1 hA (fun g o hh => hfs g o ((hset_ne (key_ne rfl)).symm.trans hh))
            refine s_store [29] (by simp) rfl rfl (e_mset (kt := 161) (et := 25) (f := kl) (g := id) (a := (lnA s (abM m j))) (b := .ref (190, _) 1 0 _) (l := lr) kl_eq kl_ok rfl rfl rfl rfl (hI.rm.keep ((hA.ne rfl rfl rfl).trans (hset_ne (key_ne rfl)))) (by kernel_rfl)) trivial ?_
            have hoB211 := (hA.ne rfl rfl rfl).trans ((hset_ne (key_ne rfl)).trans hihj202_0)
            refine s_end (ds := []) (by kernel_rfl) (by kernel_rfl) (hK208 _ ?_); clear hK208 K208
            refine block_norm (seq_norm (hK206 _ ?_)); clear hK206 K206
            refine pwp_plain rfl fun K212 hK212 => p_e rfl (e_adL rfl rfl) (p_mS rfl (p_end (hK212 _ ?_))); clear hK212 K212
            exact loop_again (j + 1) (by show _ < _; omega) ⟨rfl, rfl, rfl, rfl, rfl, rfl, trivial⟩ ⟨rfl, trivial⟩ (by exact ⟨by show _ + 1 ≤ _; omega, by exact FrI.mono hfr209 (by omega), ((hset_ne (key_ne rfl)).trans hoB211)⟩)
           ·have hb205R := hb205; try simp only [zz] at hb205
            have hj2 : j = 2 := by omega
            refine pwp_exit (exit_seq ?_)
            clear hK204 K204
            refine exit_loop (exit_here (block_norm (block_norm (seq_norm (hK18 _ ?_))))); clear hK18 K18
            refine pwp_plain rfl fun K213 hK213 => p_e rfl (e_adL rfl rfl) (p_mS rfl (p_end (hK213 _ ?_))); clear hK213 K213
            exact loop_again (k + 1) (by show _ < _; omega) ⟨rfl, rfl, rfl, trivial⟩ ⟨rfl, trivial⟩ (by exact ⟨by show _ + 1 ≤ _; simp only [List.length_map] at *; omega, by first | exact FrI.mono (FrI.skip hfr2 hm (by omega)) (by omega) | exact FrI.mono hfr2 (by omega), hihj202_0⟩)
          ·have hb197R := hb197; try simp only [zz] at hb197
           refine pwp_skip (block_norm (block_norm (seq_norm (hK18 _ ?_)))); clear hK18 K18
           refine pwp_plain rfl fun K214 hK214 => p_e rfl (e_adL rfl rfl) (p_mS rfl (p_end (hK214 _ ?_))); clear hK214 K214
           exact loop_again (k + 1) (by show _ < _; omega) ⟨rfl, rfl, rfl, trivial⟩ ⟨rfl, trivial⟩ (by exact ⟨by show _ + 1 ≤ _; simp only [List.length_map] at *; omega, by first | exact FrI.mono (FrI.skip (FrI.set rfl (FrI.set rfl hfr)) hm (by omega)) (by omega) | exact FrI.mono (FrI.set rfl (FrI.set rfl hfr)) (by omega), ((hset_ne (key_ne rfl)).trans ((hset_ne (key_ne rfl)).trans hihj14_0))⟩)
       ·have hb168R := hb168; try simp only [zz] at hb168
        refine pwp_plain rfl fun K215 hK215 => p_e rfl (e_eq rfl rfl) (p_aS rfl (p_end (hK215 _ ?_))); clear hK215 K215
        refine seq_norm (hK167 _ ?_); clear hK167 K167
        refine pwp_cond rfl (fun hb216 => ?_) (fun hb216 => ?_)
        ·have hb216R := hb216; try simp only [zz] at hb216
         refine pwp_gopsK rfl fun hkn K217 hK217 => ?_
         have hfs := hkn.fresh 161
         have hfi := FrI.known hkn (by exact (FrI.set rfl (FrI.set rfl hfr))); dsimp only at hfi
         obtain ⟨ve, vb, vm, vr, lh, lr, hI⟩ := hfi
         refine s_begin ?_
         have hll := hldL_len (s := s) (k := k) (a := (lnA s m.a))
         refine s_e rfl (e_move (v := .ptr (31, (c0 31)) 8 0 0) rfl) (s_e rfl (e_nilc rfl) (s_e rfl (e_faQ plF rfl) (s_step [31] (by simp) rfl rfl rfl rfl (e_lH (v := .map (28, (c0 28))) rfl hI.F rfl) trivial (s_e rfl (e_move (v := .ptr (31, (c0 31)) 8 0 0) rfl) (s_e rfl (e_faQ pl3 rfl) (s_step [8] (by simp) rfl rfl rfl rfl (e_lH (v := .sc _) rfl (hset_self _ _ _) rfl) trivial (s_callM [(31, (c0 31))] [31] (by simp) rfl rfl rfl rfl (fun h' hh c' => lineM h' c' s (c0 31) m.a _ ((hh _ (by simp)).trans hI.F) hma) ?_)))))))
         refine s_e rfl (e_move (v := .ptr (31, (c0 31)) 8 0 0) rfl) (s_e rfl (e_nilc rfl) (s_e rfl (e_faQ plF rfl) (s_step [31] (by simp) rfl rfl rfl rfl (e_lH (v := .map (28, (c0 28))) rfl hI.F rfl) trivial (s_e rfl (e_move (v := .ptr (31, (c0 31)) 8 0 0) rfl) (s_e rfl (e_faQ pl3 rfl) (s_step [8] (by simp) rfl rfl rfl rfl (e_lH (v := .sc _) rfl (hset_self _ _ _) rfl) trivial (s_callM [(31, (c0 31))] [31] (by simp) rfl rfl rfl rfl (fun h' hh c' => lineM h' c' s (c0 31) m.a _ ((hh _ (by simp)).trans hI.F) hma) ?_)))))))
         refine s_step [28] (by simp) rfl rfl rfl rfl (e_look (kt := 161) (et := 25) (f := kl) (g := id) (a := (lnA s m.a)) (l := lh) (z := .nil) kl_eq kl_ok rfl rfl hI.hm (by kernel_rfl) (by kernel_rfl) (by first | rfl | kernel_rfl)) trivial (s_e rfl (e_move (v := .sc _) rfl) (s_new [] (by simp) rfl rfl rfl rfl (e_bslice (rows := [ci (k : Int)]) (zs := [.int 0]) (sz := 1) (by kernel_rfl) (by kernel_rfl) rfl (by kernel_rfl) (by decide) rfl rfl (by exact ⟨by decide, rfl, rfl, trivial⟩) rfl) trivial (s_appK2 (u := ((aGet (lnA s m.a) lh).getD .nil)) (sz := 1) (d1 := 161) (d2 := 161) (rows := ((hldL s k (lnA s m.a)).map ci)) (rows2 := [ci (k : Int)]) (ds := [160]) [161, 160] [161] (by simp) (by simp) (by simp) rfl rfl rfl (.inl ((hI.hc _).keep fun g => hset_ne (key_ne rfl))) (SrcAt.ref (hset_self _ _ _) rfl) rfl (by kernel_rfl) (by simp only [List.length_map, List.length_cons, List.length_nil]; omega) (by simp) fun h1 hr1 hf1 => ?_)))
         have hA : ApK _ h1 161 _ 161 161 ((aGet (lnA s m.a) lh).getD .nil) ((hldL s k (lnA s m.a)).map ci).length := hf1
         have hfr218 := Fr.appH (hI.set (d := 160) rfl) hm (by omega) (by omega) hr1 hA (fun g o hh => hfs g o ((hset_ne (key_ne rfl)).symm.trans hh))
         refine s_store [28] (by simp) rfl rfl (e_mset (kt := 161) (et := 25) (f := kl) (g := id) (a := (lnA s m.a)) (b := .ref (161, _) 1 0 _) (l := lh) kl_eq kl_ok rfl rfl rfl rfl (hI.hm.keep ((hA.ne rfl rfl rfl).trans (hset_ne (key_ne rfl)))) (by kernel_rfl)) trivial ?_
         have ho219 := (hA.ne rfl rfl rfl).trans ((hset_ne (key_ne rfl)).trans (hset_self _ _ _))
         have hoB220 := (hA.ne rfl rfl rfl).trans ((hset_ne (key_ne rfl)).trans ((hset_ne (key_ne rfl)).trans ((hset_ne (key_ne rfl)).trans hihj14_0)))
         refine s_end (ds := []) (by kernel_rfl) (by kernel_rfl) (hK217 _ ?_); clear hK217 K217
         refine block_norm (block_norm (seq_norm (hK18 _ ?_))); clear hK18 K18
         refine pwp_plain rfl fun K221 hK221 => p_e rfl (e_adL rfl rfl) (p_mS rfl (p_end (hK221 _ ?_))); clear hK221 K221
         exact loop_again (k + 1) (by show _ < _; omega) ⟨rfl, rfl, rfl, trivial⟩ ⟨rfl, trivial⟩ (by exact ⟨by show _ + 1 ≤ _; simp only [List.length_map] at *; omega, by first | exact FrI.mono (FrI.skip hfr218 hm (by omega)) (by omega) | exact FrI.mono hfr218 (by omega), ((hset_ne (key_ne rfl)).trans hoB220)⟩)
        ·have hb216R := hb216; try simp only [zz] at hb216
         refine pwp_seq_seq (pwp_seq_plain rfl fun K222 hK222 => p_e rfl (e_eq rfl rfl) (p_aS rfl (p_end (hK222 _ ?_)))); clear hK222 K222
         refine pwp_seq_cond rfl fun K223 hK223 => ⟨fun hb224 => ?_, fun hb224 => ?_⟩
         ·have hb224R := hb224; try simp only [zz] at hb224
          refine pwp_skip (seq_norm (hK223 _ ?_)); clear hK223 K223
          refine pwp_cond rfl (fun hb225 => ?_) (fun hb225 => ?_)
          ·have hb225R := hb225; try simp only [zz] at hb225
           refine pwp_seq_plain rfl fun K226 hK226 => p_e rfl (e_faQ pl3 rfl) (p_e rfl (e_lH (v := .sc _) rfl (hset_self _ _ _) rfl) (p_e rfl (e_faQ pl3 rfl) (p_e rfl (e_lH (v := .sc _) rfl (hset_self _ _ _) rfl) (p_e rfl (e_buildA (cs := [.int m.a, .int m.b]) (zs := [.int 0, .int 0]) (pl := pl2) (by kernel_rfl) (by kernel_rfl) (by kernel_rfl) rfl rfl (by exact ⟨by decide, rfl, Nat.le_of_ble_eq_true rfl, rfl, ⟨by decide, rfl, Nat.le_of_ble_eq_true rfl, rfl, trivial⟩⟩) rfl) (p_mS rfl (p_end (hK226 _ ?_))))))); clear hK226 K226
           refine pwp_block (pwp_loopR (α := Nat) [6, 7, 33, 34, 35, 169] (fun (j : Nat) => [(170, .int (j))]) (fun (j : Nat) (h : Heap) (_ : Nat → Nat) => ((j) ≤ 2) ∧ (FrI h s (c0 31) (c0 21) (c0 23) (c0 25) (c0 27) (c0 28) (c0 29) (2 * k + (j)) k) ∧ (h (2, 0) = some (.rows 2 [Scaffold.enc s]))) (fun (j : Nat) => 2 - (j)) (0) (by exact ⟨rfl, trivial⟩) (by exact ⟨by exact Nat.zero_le _, by exact (FrI.set rfl (FrI.set rfl hfr)), ((hset_ne (key_ne rfl)).trans ((hset_ne (key_ne rfl)).trans hihj14_0))⟩) fun j r227 h228 c229 hj230 => ?_)
           obtain ⟨hj, hfr2, hihj230_0⟩ := hj230
           try dsimp only at hj
           try dsimp only at hfr2
           try dsimp only at hihj230_0
           show pwp _ _ (loopQ _ _ _) ⟨sets (mix _ _ _) [(170, .int j)], _, _⟩
           refine pwp_seq_plain rfl fun K231 hK231 => p_e rfl (e_lt rfl rfl) (p_end (hK231 _ ?_)); clear hK231 K231
           refine pwp_seq_cond rfl fun K232 hK232 => ⟨fun hb233 => ?_, fun hb233 => ?_⟩
           ·have hb233R := hb233; try simp only [zz] at hb233
            have hj2 : j < 2 := by omega
            refine pwp_skip (seq_norm (hK232 _ ?_)); clear hK232 K232
            refine pwp_seq_block fun K234 hK234 => pwp_seq_plain rfl fun K235 hK235 => p_e rfl (e_indexA (n := 2) (e := 3) rfl rfl (by kernel_rfl) (by kernel_rfl) (by kernel_rfl) (by omega) rfl (abM_get hj2)) (p_aS rfl (p_end (hK235 _ ?_))); clear hK235 K235
            refine pwp_gopsK rfl fun hkn K236 hK236 => ?_
            have hfs := hkn.fresh 190
            have hfi := FrI.known hkn (by exact hfr2); dsimp only at hfi
            obtain ⟨ve, vb, vm, vr, lh, lr, hI⟩ := hfi
            refine s_begin ?_
            obtain ⟨hgu, R, hs0, hb0⟩ := hI.getL (lnA s (abM m j))
            refine s_e rfl (e_move (v := .ptr (31, (c0 31)) 8 0 0) rfl) (s_e rfl (e_nilc rfl) (s_e rfl (e_faQ plF rfl) (s_step [31] (by simp) rfl rfl rfl rfl (e_lH (v := .map (29, (c0 29))) rfl hI.F rfl) trivial (s_e rfl (e_move (v := .ptr (31, (c0 31)) 8 0 0) rfl) (s_e rfl (e_move (v := .sc _) rfl) (s_callM [(31, (c0 31))] [31] (by simp) rfl rfl rfl rfl (fun h' hh c' => lineM h' c' s (c0 31) (abM m j) _ ((hh _ (by simp)).trans hI.F) (abM_rng hma hmb)) (s_e rfl (e_move (v := .ptr (31, (c0 31)) 8 0 0) rfl) ?_)))))))
            refine s_e rfl (e_nilc rfl) (s_e rfl (e_faQ plF rfl) (s_step [31] (by simp) rfl rfl rfl rfl (e_lH (v := .map (29, (c0 29))) rfl hI.F rfl) trivial (s_e rfl (e_move (v := .ptr (31, (c0 31)) 8 0 0) rfl) (s_e rfl (e_move (v := .sc _) rfl) (s_callM [(31, (c0 31))] [31] (by simp) rfl rfl rfl rfl (fun h' hh c' => lineM h' c' s (c0 31) (abM m j) _ ((hh _ (by simp)).trans hI.F) (abM_rng hma hmb)) (s_step [29] (by simp) rfl rfl rfl rfl (e_look (kt := 161) (et := 25) (f := kl) (g := id) (a := (lnA s (abM m j))) (l := lr) (z := .nil) kl_eq kl_ok rfl rfl hI.rm (by kernel_rfl) (by kernel_rfl) (by first | rfl | kernel_rfl)) trivial (s_e rfl (e_move (v := .sc _) rfl) ?_)))))))
            refine s_new [] (by simp) rfl rfl rfl rfl (e_bslice (rows := [ci (k : Int)]) (zs := [.int 0]) (sz := 1) (by kernel_rfl) (by kernel_rfl) rfl (by kernel_rfl) (by decide) rfl rfl (by exact ⟨by decide, rfl, rfl, trivial⟩) rfl) trivial (s_appK2 (u := ((aGet (lnA s (abM m j)) lr).getD .nil)) (sz := 1) (d1 := 190) (d2 := 190) (rows := R) (rows2 := [ci (k : Int)]) (ds := [189]) [190, 189] [190] (by simp) (by simp) (by simp) rfl rfl rfl (hs0.imp (fun q => q.keep fun g => hset_ne (key_ne rfl)) (fun q => q.keep fun g => hset_ne (key_ne rfl))) (SrcAt.ref (hset_self _ _ _) rfl) rfl (by kernel_rfl) (by simp only [List.length_map, List.length_cons, List.length_nil]; omega) (by simp) fun h1 hr1 hf1 => ?_)
            have hA : ApK _ h1 190 _ 190 190 ((aGet (lnA s (abM m j)) lr).getD .nil) R.length := hf1
            have hfr237 := Fr.appL (hI.set (d := 189) rfl) hgu (hs0.imp (fun q => q.keep fun g => hset_ne (key_ne rfl)) (fun q => q.keep fun g => hset_ne (key_ne rfl))) hb0 hr1 hA (fun g o hh => hfs g o ((hset_ne (key_ne rfl)).symm.trans hh))
            refine s_store [29] (by simp) rfl rfl (e_mset (kt := 161) (et := 25) (f := kl) (g := id) (a := (lnA s (abM m j))) (b := .ref (190, _) 1 0 _) (l := lr) kl_eq kl_ok rfl rfl rfl rfl (hI.rm.keep ((hA.ne rfl rfl rfl).trans (hset_ne (key_ne rfl)))) (by kernel_rfl)) trivial ?_
            have hoB239 := (hA.ne rfl rfl rfl).trans ((hset_ne (key_ne rfl)).trans hihj230_0)
            refine s_end (ds := []) (by kernel_rfl) (by kernel_rfl) (hK236 _ ?_); clear hK236 K236
            refine block_norm (seq_norm (hK234 _ ?_)); clear hK234 K234
            refine pwp_plain rfl fun K240 hK240 => p_e rfl (e_adL rfl rfl) (p_mS rfl (p_end (hK240 _ ?_))); clear hK240 K240
            exact loop_again (j + 1) (by show _ < _; omega) ⟨rfl, rfl, rfl, rfl, rfl, rfl, trivial⟩ ⟨rfl, trivial⟩ (by exact ⟨by show _ + 1 ≤ _; omega, by exact FrI.mono hfr237 (by omega), ((hset_ne (key_ne rfl)).trans hoB239)⟩)
           ·have hb233R := hb233; try simp only [zz] at hb233
            have hj2 : j = 2 := by omega
            refine pwp_exit (exit_seq ?_)
            clear hK232 K232
            refine exit_loop (exit_here (block_norm (block_norm (seq_norm (hK18 _ ?_))))); clear hK18 K18
            refine pwp_plain rfl fun K241 hK241 => p_e rfl (e_adL rfl rfl) (p_mS rfl (p_end (hK241 _ ?_))); clear hK241 K241
            exact loop_again (k + 1) (by show _ < _; omega) ⟨rfl, rfl, rfl, trivial⟩ ⟨rfl, trivial⟩ (by exact ⟨by show _ + 1 ≤ _; simp only [List.length_map] at *; omega, by first | exact FrI.mono (FrI.skip hfr2 hm (by omega)) (by omega) | exact FrI.mono hfr2 (by omega), hihj230_0⟩)
          ·have hb225R := hb225; try simp only [zz] at hb225
           refine pwp_skip (block_norm (block_norm (seq_norm (hK18 _ ?_)))); clear hK18 K18
           refine pwp_plain rfl fun K242 hK242 => p_e rfl (e_adL rfl rfl) (p_mS rfl (p_end (hK242 _ ?_))); clear hK242 K242
           exact loop_again (k + 1) (by show _ < _; omega) ⟨rfl, rfl, rfl, trivial⟩ ⟨rfl, trivial⟩ (by exact ⟨by show _ + 1 ≤ _; simp only [List.length_map] at *; omega, by first | exact FrI.mono (FrI.skip (FrI.set rfl (FrI.set rfl hfr)) hm (by omega)) (by omega) | exact FrI.mono (FrI.set rfl (FrI.set rfl hfr)) (by omega), ((hset_ne (key_ne rfl)).trans ((hset_ne (key_ne rfl)).trans hihj14_0))⟩)
         ·have hb224R := hb224; try simp only [zz] at hb224
          refine pwp_plain rfl fun K243 hK243 => p_e rfl (e_eq rfl rfl) (p_aS rfl (p_end (hK243 _ ?_))); clear hK243 K243
          refine seq_norm (hK223 _ ?_); clear hK223 K223
          refine pwp_cond rfl (fun hb244 => ?_) (fun hb244 => ?_)
          ·have hb244R := hb244; try simp only [zz] at hb244
           refine pwp_seq_plain rfl fun K245 hK245 => p_e rfl (e_faQ pl3 rfl) (p_e rfl (e_lH (v := .sc _) rfl (hset_self _ _ _) rfl) (p_e rfl (e_faQ pl3 rfl) (p_e rfl (e_lH (v := .sc _) rfl (hset_self _ _ _) rfl) (p_e rfl (e_buildA (cs := [.int m.a, .int m.b]) (zs := [.int 0, .int 0]) (pl := pl2) (by kernel_rfl) (by kernel_rfl) (by kernel_rfl) rfl rfl (by exact ⟨by decide, rfl, Nat.le_of_ble_eq_true rfl, rfl, ⟨by decide, rfl, Nat.le_of_ble_eq_true rfl, rfl, trivial⟩⟩) rfl) (p_mS rfl (p_end (hK245 _ ?_))))))); clear hK245 K245
           refine pwp_block (pwp_loopR (α := Nat) [6, 7, 33, 34, 35, 169] (fun (j : Nat) => [(170, .int (j))]) (fun (j : Nat) (h : Heap) (_ : Nat → Nat) => ((j) ≤ 2) ∧ (FrI h s (c0 31) (c0 21) (c0 23) (c0 25) (c0 27) (c0 28) (c0 29) (2 * k + (j)) k) ∧ (h (2, 0) = some (.rows 2 [Scaffold.enc s]))) (fun (j : Nat) => 2 - (j)) (0) (by exact ⟨rfl, trivial⟩) (by exact ⟨by exact Nat.zero_le _, by exact (FrI.set rfl (FrI.set rfl hfr)), ((hset_ne (key_ne rfl)).trans ((hset_ne (key_ne rfl)).trans hihj14_0))⟩) fun j r246 h247 c248 hj249 => ?_)
           obtain ⟨hj, hfr2, hihj249_0⟩ := hj249
           try dsimp only at hj
           try dsimp only at hfr2
           try dsimp only at hihj249_0
           show pwp _ _ (loopQ _ _ _) ⟨sets (mix _ _ _) [(170, .int j)], _, _⟩
           refine pwp_seq_plain rfl fun K250 hK250 => p_e rfl (e_lt rfl rfl) (p_end (hK250 _ ?_)); clear hK250 K250
           refine pwp_seq_cond rfl fun K251 hK251 => ⟨fun hb252 => ?_, fun hb252 => ?_⟩
           ·have hb252R := hb252; try simp only [zz] at hb252
            have hj2 : j < 2 := by omega
            refine pwp_skip (seq_norm (hK251 _ ?_)); clear hK251 K251
            refine pwp_seq_block fun K253 hK253 => pwp_seq_plain rfl fun K254 hK254 => p_e rfl (e_indexA (n := 2) (e := 3) rfl rfl (by kernel_rfl) (by kernel_rfl) (by kernel_rfl) (by omega) rfl (abM_get hj2)) (p_aS rfl (p_end (hK254 _ ?_))); clear hK254 K254
            refine pwp_gopsK rfl fun hkn K255 hK255 => ?_
            have hfs := hkn.fresh 190
            have hfi := FrI.known hkn (by exact hfr2); dsimp only at hfi
            obtain ⟨ve, vb, vm, vr, lh, lr, hI⟩ := hfi
            refine s_begin ?_
            obtain ⟨hgu, R, hs0, hb0⟩ := hI.getL (lnA s (abM m j))
            refine s_e rfl (e_move (v := .ptr (31, (c0 31)) 8 0 0) rfl) (s_e rfl (e_nilc rfl) (s_e rfl (e_faQ plF rfl) (s_step [31] (by simp) rfl rfl rfl rfl (e_lH (v := .map (29, (c0 29))) rfl hI.F rfl) trivial (s_e rfl (e_move (v := .ptr (31, (c0 31)) 8 0 0) rfl) (s_e rfl (e_move (v := .sc _) rfl) (s_callM [(31, (c0 31))] [31] (by simp) rfl rfl rfl rfl (fun h' hh c' => lineM h' c' s (c0 31) (abM m j) _ ((hh _ (by simp)).trans hI.F) (abM_rng hma hmb)) (s_e rfl (e_move (v := .ptr (31, (c0 31)) 8 0 0) rfl) ?_)))))))
            refine s_e rfl (e_nilc rfl) (s_e rfl (e_faQ plF rfl) (s_step [31] (by simp) rfl rfl rfl rfl (e_lH (v := .map (29, (c0 29))) rfl hI.F rfl) trivial (s_e rfl (e_move (v := .ptr (31, (c0 31)) 8 0 0) rfl) (s_e rfl (e_move (v := .sc _) rfl) (s_callM [(31, (c0 31))] [31] (by simp) rfl rfl rfl rfl (fun h' hh c' => lineM h' c' s (c0 31) (abM m j) _ ((hh _ (by simp)).trans hI.F) (abM_rng hma hmb)) (s_step [29] (by simp) rfl rfl rfl rfl (e_look (kt := 161) (et := 25) (f := kl) (g := id) (a := (lnA s (abM m j))) (l := lr) (z := .nil) kl_eq kl_ok rfl rfl hI.rm (by kernel_rfl) (by kernel_rfl) (by first | rfl | kernel_rfl)) trivial (s_e rfl (e_move (v := .sc _) rfl) ?_)))))))
            refine s_new [] (by simp) rfl rfl rfl rfl (e_bslice (rows := [ci (k : Int)]) (zs := [.int 0]) (sz := 1) (by kernel_rfl) (by kernel_rfl) rfl (by kernel_rfl) (by decide) rfl rfl (by exact ⟨by decide, rfl, rfl, trivial⟩) rfl) trivial (s_appK2 (u := ((aGet (lnA s (abM m j)) lr).getD .nil)) (sz := 1) (d1 := 190) (d2 := 190) (rows := R) (rows2 := [ci (k : Int)]) (ds := [189]) [190, 189] [190] (by simp) (by simp) (by simp) rfl rfl rfl (hs0.imp (fun q => q.keep fun g => hset_ne (key_ne rfl)) (fun q => q.keep fun g => hset_ne (key_ne rfl))) (SrcAt.ref (hset_self _ _ _) rfl) rfl (by kernel_rfl) (by simp only [List.length_map, List.length_cons, List.length_nil]; omega) (by simp) fun h1 hr1 hf1 => ?_)
            have hA : ApK _ h1 190 _ 190 190 ((aGet (lnA s (abM m j)) lr).getD .nil) R.length := hf1
            have hfr256 := Fr.appL (hI.set (d := 189) rfl) hgu (hs0.imp (fun q => q.keep fun g => hset_ne (key_ne rfl)) (fun q => q.keep fun g => hset_ne (key_ne rfl))) hb0 hr1 hA (fun g o hh => hfs g o ((hset_ne (key_ne rfl)).symm.trans hh))
            refine s_store [29] (by simp) rfl rfl (e_mset (kt := 161) (et := 25) (f := kl) (g := id) (a := (lnA s (abM m j))) (b := .ref (190, _) 1 0 _) (l := lr) kl_eq kl_ok rfl rfl rfl rfl (hI.rm.keep ((hA.ne rfl rfl rfl).trans (hset_ne (key_ne rfl)))) (by kernel_rfl)) trivial ?_
            have hoB258 := (hA.ne rfl rfl rfl).trans ((hset_ne (key_ne rfl)).trans hihj249_0)
            refine s_end (ds := []) (by kernel_rfl) (by kernel_rfl) (hK255 _ ?_); clear hK255 K255
            refine block_norm (seq_norm (hK253 _ ?_)); clear hK253 K253
            refine pwp_plain rfl fun K259 hK259 => p_e rfl (e_adL rfl rfl) (p_mS rfl (p_end (hK259 _ ?_))); clear hK259 K259
            exact loop_again (j + 1) (by show _ < _; omega) ⟨rfl, rfl, rfl, rfl, rfl, rfl, trivial⟩ ⟨rfl, trivial⟩ (by exact ⟨by show _ + 1 ≤ _; omega, by exact FrI.mono hfr256 (by omega), ((hset_ne (key_ne rfl)).trans hoB258)⟩)
           ·have hb252R := hb252; try simp only [zz] at hb252
            have hj2 : j = 2 := by omega
            refine pwp_exit (exit_seq ?_)
            clear hK251 K251
            refine exit_loop (exit_here (block_norm (block_norm (seq_norm (hK18 _ ?_))))); clear hK18 K18
            refine pwp_plain rfl fun K260 hK260 => p_e rfl (e_adL rfl rfl) (p_mS rfl (p_end (hK260 _ ?_))); clear hK260 K260
            exact loop_again (k + 1) (by show _ < _; omega) ⟨rfl, rfl, rfl, trivial⟩ ⟨rfl, trivial⟩ (by exact ⟨by show _ + 1 ≤ _; simp only [List.length_map] at *; omega, by first | exact FrI.mono (FrI.skip hfr2 hm (by omega)) (by omega) | exact FrI.mono hfr2 (by omega), hihj249_0⟩)
          ·have hb244R := hb244; try simp only [zz] at hb244
           refine pwp_skip (block_norm (block_norm (seq_norm (hK18 _ ?_)))); clear hK18 K18
           refine pwp_plain rfl fun K261 hK261 => p_e rfl (e_adL rfl rfl) (p_mS rfl (p_end (hK261 _ ?_))); clear hK261 K261
           exact loop_again (k + 1) (by show _ < _; omega) ⟨rfl, rfl, rfl, trivial⟩ ⟨rfl, trivial⟩ (by exact ⟨by show _ + 1 ≤ _; simp only [List.length_map] at *; omega, by first | exact FrI.mono (FrI.skip (FrI.set rfl (FrI.set rfl hfr)) hm (by omega)) (by omega) | exact FrI.mono (FrI.set rfl (FrI.set rfl hfr)) (by omega), ((hset_ne (key_ne rfl)).trans ((hset_ne (key_ne rfl)).trans hihj14_0))⟩)
  ·have hb17R := hb17; try simp only [zz] at hb17
   have hkk : k = s.members.length := by simp only [List.length_map] at *; omega
   refine pwp_exit (exit_seq ?_)
   clear hK16 K16
   refine exit_loop (exit_here (seq_norm (hK10 _ ?_))); clear hK10 K10
   refine pwp_seq_plain rfl fun K262 hK262 => p_e rfl (e_move (v := .ptr _ _ _ _) rfl) (p_e rfl (e_assign (v := .ptr _ _ _ _) rfl) (p_aS rfl (p_end (hK262 _ ?_)))); clear hK262 K262
   refine pwp_ret (end2 (v := .ptr _ _ _ _) (w := .sc _) rfl rfl ?_)
   first
     | exact .inl ⟨(by assumption), rfl⟩
     | exact .inr ⟨hsc, _, _, _, _, _, _, _, _, rfl, hkk ▸ hfr, hihj14_0⟩

end Go.Proofs.Ytjmjiegplnfiiaa
