import Derived.Test.YtmlhhdiomijpfaaGreatDoorEChk
import Derived.Laws.BitsAllLaws
set_option linter.unusedSimpArgs false
set_option linter.unusedVariables false
set_option maxRecDepth 100000
namespace Go.Proofs.YtmlhhdiomijpfaaGreatDoor.E7
open Go Go.Pv Go.Proofs.YtmlhhdiomijpfaaGreatDoor
def cN (n : Nat) : List PV := [.sc (.int .u64 (n : Int))]
theorem cN_pure (n : Nat) : ∀ p ∈ cN n, Pure p := fun p hp => by simp [cN] at hp; subst hp; exact .sc _
structure Sets where
 tasks : List Task
 needs : List Nat
def Sets.enc (s : Sets) : List PV := [.lit true 6 (s.tasks.map Task.enc), .lit true 1 (s.needs.map cN)]
theorem Sets.pure (s : Sets) : ∀ p ∈ s.enc, Pure p := fun p hp => by
 simp only [Sets.enc, List.mem_cons, List.not_mem_nil, or_false] at hp;rcases hp with rfl | rfl
 · exact .lit _ _ _ fun row hr => pure_map Task.pure row hr
 · exact .lit _ _ _ fun row hr => pure_map cN_pure row hr
section
variable {P : Program} {ρ : Operand → PV} {h : Heap} {key : Key} {x y : Operand} {t t' : TypeId}
theorem two_lt {k : Nat} (hk : k < 62) : 2 ^ k < 4611686018427387904 := by
 have := Nat.pow_lt_pow_right (a := 2) (by decide) hk;omega
theorem shl_wrapU {k : Nat} (hk : k < 62) : IntKind.u64.wrap (1 * 2 ^ (min ((k : Int)).toNat 64)) = ((2 ^ k : Nat) : Int) := by
 have h1 : min ((k : Int)).toNat 64 = k := by omega
 have h2 := two_lt hk;rw [h1, Int.one_mul, IntKind.wrap_u64];have h3 : ((2 : Int) ^ k) = ((2 ^ k : Nat) : Int) := by simp
 rw [h3]; generalize 2 ^ k = m at h2 ⊢; omega
theorem shl_wrapI {k : Nat} (hk : k < 62) : IntKind.i64.wrap (1 * 2 ^ (min ((k : Int)).toNat 64)) = ((2 ^ k : Nat) : Int) := by
 have h1 : min ((k : Int)).toNat 64 = k := by omega
 have h2 := two_lt hk;rw [h1, Int.one_mul];have h3 : ((2 : Int) ^ k) = ((2 ^ k : Nat) : Int) := by simp
 rw [h3]; generalize 2 ^ k = m at h2 ⊢; exact wrap64 (by omega) (by omega)
theorem e_shlU {k : Nat} (hx : ρ x = .sc (.int .u64 1)) (hy : ρ y = .int (k : Int)) (hk : k < 62) : eff P ρ h key (.binOp .shl t x y t') = ⟨True, .sc (.int .u64 ((2 ^ k : Nat) : Int)), [], [], false⟩ := by
 simp only [eff, hx, hy, binEffN, binEff, intBin];rw [show IntKind.u64.bits = 64 from rfl, shl_wrapU hk]; simp
theorem e_shlI {k : Nat} (hx : ρ x = .int 1) (hy : ρ y = .int (k : Int)) (hk : k < 62) : eff P ρ h key (.binOp .shl t x y t') = ⟨True, .int ((2 ^ k : Nat) : Int), [], [], false⟩ := by
 simp only [eff, hx, hy, binEffN, binEff, intBin];rw [show IntKind.i64.bits = 64 from rfl, shl_wrapI hk]; simp
theorem e_shrU {a k : Nat} (hx : ρ x = .sc (.int .u64 (a : Int))) (hy : ρ y = .int (k : Int)) (hk : k < 62) : eff P ρ h key (.binOp .shr t x y t') = ⟨True, .sc (.int .u64 ((a / 2 ^ k : Nat) : Int)), [], [], false⟩ := by
 simp only [eff, hx, hy, binEffN, binEff, intBin];have h1 : min ((k : Int)).toNat 64 = k := by omega
 rw [show IntKind.u64.bits = 64 from rfl, h1, Int.fdiv_eq_ediv_of_nonneg _ (by exact Int.le_of_lt (Int.pow_pos (by decide)))];simp
theorem e_orW {a b : Nat} (hx : ρ x = .sc (.int .u64 (a : Int))) (hy : ρ y = .sc (.int .u64 (b : Int))) (ha : a < 4611686018427387904) (hb : b < 4611686018427387904) : eff P ρ h key (.binOp .or t x y t') = ⟨True, .sc (.int .u64 ((a ||| b : Nat) : Int)), [], [], false⟩ := by
 simp only [eff, hx, hy, binEffN, binEff, intBin, u64_or_nat a b (by omega) (by omega)]; simp
theorem e_andW {a b : Nat} (hx : ρ x = .sc (.int .u64 (a : Int))) (hy : ρ y = .sc (.int .u64 (b : Int))) (ha : a < 4611686018427387904) (hb : b < 4611686018427387904) : eff P ρ h key (.binOp .and t x y t') = ⟨True, .sc (.int .u64 ((a &&& b : Nat) : Int)), [], [], false⟩ := by
 simp only [eff, hx, hy, binEffN, binEff, intBin, u64_and_nat a b (by omega) (by omega)]; simp
theorem e_anW {a b : Nat} (hx : ρ x = .sc (.int .u64 (a : Int))) (hy : ρ y = .sc (.int .u64 (b : Int))) (ha : a < 4611686018427387904) (hb : b < 4611686018427387904) : eff P ρ h key (.binOp .andNot t x y t') = ⟨True, .sc (.int .u64 ((a &&& (18446744073709551615 - b) : Nat) : Int)), [], [], false⟩ := by
 simp only [eff, hx, hy, binEffN, binEff, intBin, u64_andNot_nat a b (by omega) (by omega)]; simp
theorem i64_or_nat (a b : Nat) (ha : a < 4611686018427387904) (hb : b < 4611686018427387904) : bits .or .i64 (a : Int) (b : Int) = ((a ||| b : Nat) : Int) := by
 have hx : a ||| b < 2 ^ 62 := Nat.or_lt_two_pow (by omega) (by omega)
 show IntKind.i64.wrap ((BitVec.ofInt 64 (a : Int) ||| BitVec.ofInt 64 (b : Int)).toNat : Int) = _;rw [BitVec.toNat_or, ofInt_u64 a (by omega), ofInt_u64 b (by omega)];exact wrap64 (by omega) (by omega)
theorem e_orI {a b : Nat} (hx : ρ x = .int (a : Int)) (hy : ρ y = .int (b : Int)) (ha : a < 4611686018427387904) (hb : b < 4611686018427387904) : eff P ρ h key (.binOp .or t x y t') = ⟨True, .int ((a ||| b : Nat) : Int), [], [], false⟩ := by
 simp only [eff, hx, hy, binEffN, binEff, intBin, i64_or_nat a b ha hb]; simp
theorem e_decU {a : Nat} (hx : ρ x = .sc (.int .u64 (a : Int))) (hy : ρ y = .sc (.int .u64 1)) (ha : 1 ≤ a ∧ a < 4611686018427387904) : eff P ρ h key (.binOp .sub t x y t') = ⟨True, .sc (.int .u64 ((a - 1 : Nat) : Int)), [], [], false⟩ := by
 simp only [eff, hx, hy, binEffN, binEff, intBin, IntKind.wrap_u64];have : ((a : Int) - 1) % 18446744073709551616 = ((a - 1 : Nat) : Int) := by omega
 rw [this]; simp
end
def canB (nb a k : Nat) : Bool := decide ((((a / 2 ^ k) &&& 1 : Nat) : Int) = 0) && decide (((nb &&& (18446744073709551615 - a) : Nat) : Int) = 0)
def plc (xs : List Task) (z : Int) : Int := (xs.getD z.toNat default).place
def mvF (xs : List Task) (l k : Int) : Int := if 0 ≤ l ∧ plc xs l ≠ plc xs k then 1 else 0
theorem mv_1 {xs : List Task} {l k : Int} (h : 0 ≤ l) (h2 : plc xs l ≠ plc xs k) : 1 = mvF xs l k := (if_pos ⟨h, h2⟩).symm
theorem mv_0 {xs : List Task} {l k : Int} (h : ¬ (0 ≤ l ∧ plc xs l ≠ plc xs k)) : 0 = mvF xs l k := (if_neg h).symm
theorem task_get {xs : List Task} {z : Int} (h : 0 ≤ z ∧ z < xs.length) : xs[z.toNat]? = some (xs.getD z.toNat default) := by
 rw [List.getD_eq_getElem?_getD, List.getElem?_eq_getElem (by omega)]; rfl
theorem bits_get {l : List Nat} {k : Nat} (h : k < l.length) : l[k]? = some (l.getD k 0) := by
 rw [List.getD_eq_getElem?_getD, List.getElem?_eq_getElem h]; rfl
def bitsP (l : List Int) (j : Nat) : Nat := (l.take j).foldl (fun b z => b ||| 2 ^ z.toNat) 0
theorem bitsP_succ {l : List Int} {j : Nat} (hj : j < l.length) : bitsP l (j + 1) = bitsP l j ||| 2 ^ (at0 l j).toNat := by
 rw [bitsP, ← List.take_append_getElem hj, List.foldl_append, at0_elem hj]; rfl
theorem foldl_or_lt {n : Nat} : ∀ {l : List Int} {b : Nat}, b < 2 ^ n → (∀ z ∈ l, 0 ≤ z ∧ z < n) → l.foldl (fun b z => b ||| 2 ^ z.toNat) b < 2 ^ n
 | [], b, hb, _ => hb
 | z :: l, b, hb, h => by
   rw [List.foldl_cons];refine foldl_or_lt (Nat.or_lt_two_pow hb ?_) fun z hz => h z (List.mem_cons_of_mem _ hz);have := h z (by simp);exact Nat.pow_lt_pow_right (by decide) (by omega)
theorem bitsP_lt {l : List Int} {j n : Nat} (h : ∀ z ∈ l, 0 ≤ z ∧ z < n) : bitsP l j < 2 ^ n := foldl_or_lt (Nat.pow_pos (by decide)) fun z hz => h z (List.mem_of_mem_take hz)
def bitsL (xs : List Task) : List Nat := xs.map fun t => bitsP t.needs t.needs.length
def smallE (xs : List Task) : Int := if planE xs ≠ 0 then planE xs else if 14 < xs.length then 8 else 0
def SmallR (xs : List Task) (v : PV) (h' : Heap) : Prop := ∃ T w, v = .tup [.agg [T, w], .int (smallE xs)] ∧ (T.cell = true ∧ w.cell = true) ∧ (smallE xs = 0 → T = .lit true 6 (xs.map Task.enc) ∧ SliceAt h' 45 w 1 ((bitsL xs).map cN))
theorem small_p {xs : List Task} {h' : Heap} (h : planE xs ≠ 0) : SmallR xs (.tup [.agg [.nil, .nil], .int (planE xs)]) h' :=
 ⟨_, _, by rw [smallE, if_pos h], ⟨rfl, rfl⟩, fun h2 => by rw [smallE, if_pos h] at h2; exact absurd h2 h⟩
theorem small_8 {xs : List Task} {h' : Heap} (h : planE xs = 0) (h2 : 14 < xs.length) : SmallR xs (.tup [.agg [.nil, .nil], .int 8]) h' :=
 ⟨_, _, by rw [smallE, if_neg (fun q => q h), if_pos h2], ⟨rfl, rfl⟩, fun h3 => by rw [smallE, if_neg (fun q => q h), if_pos h2] at h3; cases h3⟩
theorem SliceAt.cell {h : Heap} {d sz : Nat} {v : PV} {rows : Pv.Rows} (hs : SliceAt h d v sz rows) : v.cell = true := by
 rcases hs with ⟨_, rfl⟩ | ⟨g, rfl, _⟩ <;> rfl
theorem small_0 {xs : List Task} {h' : Heap} {w : PV} (h : planE xs = 0) (h2 : ¬ 14 < xs.length) (hw : SliceAt h' 45 w 1 ((bitsL xs).map cN)) : SmallR xs (.tup [.agg [.lit true 6 (xs.map Task.enc), w], .int 0]) h' :=
 ⟨_, _, by rw [smallE, if_neg (fun q => q h), if_neg h2], ⟨rfl, SliceAt.cell hw⟩, fun _ => ⟨rfl, hw⟩⟩
theorem planE_ok {xs : List Task} (h : planE xs = 0) : tasksF xs 0 xs = 0 := by
 unfold planE at h;split at h
 · cases h
 · split at h
   · rename_i h1; exact absurd h h1
   · rename_i h1; exact Decidable.not_not.1 h1
theorem endCT {P : Program} {R : PV → Heap → (Nat → Nat) → Prop} {r : Nat → PV} {h : Heap} {cnt : Nat → Nat} {a b : Nat} {t : TypeId} {k : Key} {n : Nat} {cs : List PV} {v : PV} (hx : r a = .ptr k n 0 0) (hk : h k = some (.rows n [cs])) (hg : tyAgg P t = true) (hs : tySize P t = n) (ht : tyOk P t = true) (hl : cs.length = n) (hb : r b = v) (hR : R (.tup [.agg cs, v]) h cnt) : endQ P [.cell a t, .tmp b] R .ret ⟨r, h, cnt⟩ := by
 have h1 : aggAt [cs] 0 0 n = cs := by subst hl; simp [aggAt]
 have h2 : loadEff P h t (r a) = ⟨True, .agg cs, [], [k], false⟩ := by
   rw [hx]; simp only [loadEff, hk, hg, hs, ht, h1]; simp
 have e1 : resOf P ⟨r, h, cnt⟩ (.cell a t) = ((loadEff P h t (r a)).ob, (loadEff P h t (r a)).v) := rfl;have e2 : resOf P ⟨r, h, cnt⟩ (.tmp b) = (True, r b) := rfl;refine ⟨fun x hx => ?_, ?_⟩
 · simp only [List.mem_cons, List.not_mem_nil, or_false] at hx;rcases hx with rfl | rfl
   · rw [e1, h2]; trivial
   · trivial
 · show R (.tup [(resOf P ⟨r, h, cnt⟩ (.cell a t)).2, (resOf P ⟨r, h, cnt⟩ (.tmp b)).2]) h cnt;rw [e1, e2, h2, hb]; exact hR
theorem fr67 : (inFrame Tryz.f67.ntmps (Tryz.f67.body.getD .skip) && Tryz.f67.results.toList.all (resScope Tryz.f67.ntmps)) = true := by kernel_rfl
theorem fullC (s : Sets) (hs : s.tasks.length < 62) : PCalls Tryz.prog 67 [.agg s.enc] (.sc (.int .u64 ((2 ^ s.tasks.length - 1 : Nat) : Int))) := by
 refine PCalls.of_code Tryz.func67 rfl rfl (by kernel_rfl) mixed fr67 (by show _ ≤ 8; simp) (.sc _) ?_;have h2 := two_lt hs;have h3 := Nat.pow_pos (n := s.tasks.length) (show 0 < 2 by decide);refine pwp_seq_plain rfl fun K1 hK1 => p_new rfl (e_box (n := 2) rfl rfl) ⟨rfl, by decide⟩ (p_aS rfl (p_end (hK1 _ ?_))); clear hK1 K1;refine pwp_seq_plain rfl fun K2 hK2 => p_e rfl (e_faQ pl2 rfl) (p_e rfl (e_lH (v := .lit _ _ _) rfl (hset_self _ _ _) rfl) (p_e rfl (e_len rfl (by kernel_rfl)) (p_e rfl (e_shlU (k := s.tasks.length) rfl (congrArg PV.int (by simp only [lM])) hs) (p_e rfl (e_decU rfl rfl ⟨h3, h2⟩) (p_aS rfl (p_end (hK2 _ ?_))))))); clear hK2 K2;refine pwp_ret (end1 (v := .sc _) rfl ?_);exact out_i rfl
theorem fr68 : (inFrame Tryz.f68.ntmps (Tryz.f68.body.getD .skip) && Tryz.f68.results.toList.all (resScope Tryz.f68.ntmps)) = true := by kernel_rfl
theorem canC (s : Sets) (a k : Nat) (hk : k < s.needs.length) (hk6 : k < 62) (ha : a < 4611686018427387904) (hn : s.needs.getD k 0 < 4611686018427387904) : PCalls Tryz.prog 68 [.agg s.enc, .sc (.int .u64 (a : Int)), .int (k : Int)] (.bool (canB (s.needs.getD k 0) a k)) := by
 refine PCalls.of_code Tryz.func68 rfl rfl (by kernel_rfl) mixed fr68 (by show _ ≤ 22; simp) (.sc _) ?_;have hak : a / 2 ^ k < 4611686018427387904 := Nat.lt_of_le_of_lt (Nat.div_le_self _ _) ha;refine pwp_seq_plain rfl fun K1 hK1 => p_new rfl (e_box (n := 2) rfl rfl) ⟨rfl, by decide⟩ (p_aS rfl (p_end (hK1 _ ?_))); clear hK1 K1;refine pwp_seq_gops rfl fun K2 hK2 => g_begin (g_mS rfl rfl (g_mS rfl rfl (g_e rfl (e_shrU rfl rfl hk6) (g_e rfl (e_andW (b := 1) rfl rfl hak (by decide)) (g_e rfl (e_eq rfl rfl) (g_mS rfl rfl ?_))))));refine g_cases (fun hb3 => ?_) (fun hb3 => ?_)
 ·have hb3R := hb3; try simp only [zz] at hb3
  refine g_e rfl (e_faQ pl2 rfl) (g_e rfl (e_lH (v := .lit _ _ _) rfl (hset_self _ _ _) rfl) (g_mS rfl rfl (g_e rfl (e_ixL rfl rfl) (g_e rfl (e_lL (v := .sc _) rfl ((cell_map (bits_get hk) _).trans rfl)) (g_mS rfl rfl (g_e rfl (e_anW rfl rfl hn ha) (g_e rfl (e_eq rfl rfl) ?_)))))));refine g_pT rfl rfl rfl (g_aS rfl rfl (g_end (ds := [13, 14, 15, 16, 17, 18, 19, 20]) rfl rfl (hK2 _ ?_))); clear hK2 K2;refine pwp_ret (end1 (v := .sc _) rfl ?_);exact out_b (by unfold canB; simp_all)
 have hb3R := hb3; try simp only [zz] at hb3
 iterate 8 refine g_skip rfl rfl rfl ?_
 refine g_pF rfl rfl rfl (g_aS rfl rfl (g_end (ds := [13, 14, 15, 16, 17, 18, 19, 20]) rfl rfl (hK2 _ ?_))); clear hK2 K2;refine pwp_ret (end1 (v := .sc _) rfl ?_);exact out_b (by unfold canB; simp_all)
theorem fr69 : (inFrame Tryz.f69.ntmps (Tryz.f69.body.getD .skip) && Tryz.f69.results.toList.all (resScope Tryz.f69.ntmps)) = true := by kernel_rfl
theorem movesC (s : Sets) (l k : Int) (hl : -1 ≤ l ∧ l < s.tasks.length) (hk : 0 ≤ k ∧ k < s.tasks.length) : PCalls Tryz.prog 69 [.agg s.enc, .int l, .int k] (.int (mvF s.tasks l k)) := by
 refine PCalls.of_code Tryz.func69 rfl rfl (by kernel_rfl) mixed fr69 (by show _ ≤ 24; simp) (.sc _) (pwp_seq_plain rfl fun K1 hK1 => p_new rfl (e_box (n := 2) rfl rfl) ⟨rfl, by decide⟩ (p_aS rfl (p_end (hK1 _ ?_)))); clear hK1 K1;refine pwp_seq_seq (pwp_seq_gops rfl fun K2 hK2 => g_begin (g_mS rfl rfl (g_e rfl (e_ge rfl rfl) (g_mS rfl rfl ?_))));refine g_cases (fun hb3 => ?_) (fun hb3 => ?_)
 ·have hb3R := hb3; try simp only [zz] at hb3
  refine g_e rfl (e_faQ pl2 rfl) (g_e rfl (e_lH (v := .lit _ _ _) rfl (hset_self _ _ _) rfl) (g_mS rfl rfl (g_e rfl (e_ixL rfl rfl) (g_e rfl (e_fb pl6 rfl) (g_e rfl (e_lL (v := .sc _) rfl ((cell_map (task_get (by omega)) _).trans rfl)) (g_e rfl (e_faQ pl2 rfl) (g_e rfl (e_lH (v := .lit _ _ _) rfl (hset_self _ _ _) rfl) ?_)))))));refine g_mS rfl rfl (g_e rfl (e_ixL rfl rfl) (g_e rfl (e_fb pl6 rfl) (g_e rfl (e_lL (v := .sc _) rfl ((cell_map (task_get (by omega)) _).trans rfl)) (g_e rfl (e_ne rfl rfl) (g_pT rfl rfl rfl (g_end (ds := [10, 11, 12, 13, 14, 15, 16, 17, 18, 19, 20, 21, 22]) (by kernel_rfl) rfl (hK2 _ ?_))))))); clear hK2 K2;refine pwp_seq_cond rfl fun K4 hK4 => ⟨fun hb5 => ?_, fun hb5 => ?_⟩
  ·have hb5R := hb5; try simp only [zz] at hb5
   refine pwp_seq_plain rfl fun K6 hK6 => p_aS rfl (p_end (hK6 _ ?_)); clear hK6 K6;refine pwp_ret (ret_seq (end1 (v := .sc _) rfl ?_));exact out_i (mv_1 (by assumption) (by unfold plc; assumption))
  have hb5R := hb5; try simp only [zz] at hb5
  refine pwp_skip (seq_norm (hK4 _ ?_)); clear hK4 K4;refine pwp_seq_plain rfl fun K7 hK7 => p_aS rfl (p_end (hK7 _ ?_)); clear hK7 K7;refine pwp_ret (end1 (v := .sc _) rfl ?_);exact out_i (mv_0 (by unfold plc; omega))
 have hb3R := hb3; try simp only [zz] at hb3
 iterate 13 refine g_skip rfl rfl rfl ?_
 refine g_pF rfl rfl rfl (g_end (ds := [10, 11, 12, 13, 14, 15, 16, 17, 18, 19, 20, 21, 22]) (by kernel_rfl) rfl (hK2 _ ?_)); clear hK2 K2;refine pwp_seq_cond (t := false) rfl fun K8 hK8 => ⟨nofun, fun _ => ?_⟩
 refine pwp_skip (seq_norm (hK8 _ ?_)); clear hK8 K8;refine pwp_seq_plain rfl fun K9 hK9 => p_aS rfl (p_end (hK9 _ ?_)); clear hK9 K9;refine pwp_ret (end1 (v := .sc _) rfl ?_);exact out_i (mv_0 (by unfold plc; omega))
theorem frH66 : (inFrame Tryz.f66.ntmps (Tryz.f66.body.getD .skip) && Tryz.f66.results.toList.all (resScope Tryz.f66.ntmps)) = true := by kernel_rfl
theorem smallC (xs : List Task) (hl : xs.length ≤ 10000) (hq : Fair xs) : HCallsR Tryz.prog 66 [.lit true 6 (xs.map Task.enc)] (fun _ => none) (fun _ => 0) (fun v h _ => SmallR xs v h) := by
 refine HCallsR.of_code Tryz.func66 rfl rfl (by kernel_rfl) mixed frH66 (by show _ ≤ 49; simp) (pwp_seq_plain rfl fun K1 hK1 => p_new rfl (e_alloc (cs := [.nil, .nil]) (n := 2) (by kernel_rfl) rfl (by decide)) (ob_alloc (by decide)) (p_aS rfl (p_end (hK1 _ ?_)))); clear hK1 K1;refine pwp_seq_seq (pwp_seq_plain rfl fun K2 hK2 => p_e rfl (e_move (v := .lit _ _ _) rfl) (p_call rfl (.cons inn_lit .nil) (CheckC _ hl hq) (p_aS rfl (p_end (hK2 _ ?_))))); clear hK2 K2;refine pwp_seq_seq (pwp_seq_plain rfl fun K3 hK3 => p_mS rfl (p_e rfl (e_ne rfl rfl) (p_end (hK3 _ ?_)))); clear hK3 K3;refine pwp_seq_cond rfl fun K4 hK4 => ⟨fun hb5 => ?_, fun hb5 => ?_⟩
 ·have hb5R := hb5; try simp only [zz] at hb5
  refine pwp_seq_plain rfl fun K6 hK6 => p_e rfl (e_build (zs := [.nil, .nil]) (pl := [(0, 1, false), (1, 1, false)]) (by kernel_rfl) (by kernel_rfl) (by kernel_rfl) rfl rfl (by exact trivial) rfl) (p_mS rfl (p_store rfl (e_storeA rfl (hset_self _ _ _) rfl rfl rfl (by kernel_rfl) rfl (by kernel_rfl)) trivial (p_aS rfl (p_end (hK6 _ ?_))))); clear hK6 K6;refine pwp_ret (ret_seq (endCT rfl (hset_self _ _ _) (by kernel_rfl) (by kernel_rfl) (by kernel_rfl) rfl rfl ?_));exact small_p (by assumption)
 have hb5R := hb5; try simp only [zz] at hb5
 refine pwp_skip (seq_norm (hK4 _ ?_)); clear hK4 K4;refine pwp_seq_seq ?_;have hpl : planE xs = 0 := (by assumption)
 refine pwp_seq_plain rfl fun K7 hK7 => p_e rfl (e_move (v := .lit _ _ _) rfl) (p_e rfl (e_len rfl (by kernel_rfl)) (p_e rfl (e_gt rfl rfl) (p_end (hK7 _ ?_)))); clear hK7 K7;refine pwp_seq_cond rfl fun K8 hK8 => ⟨fun hb9 => ?_, fun hb9 => ?_⟩
 ·have hb9R := hb9; try simp only [zz] at hb9
  refine pwp_seq_plain rfl fun K10 hK10 => p_e rfl (e_build (zs := [.nil, .nil]) (pl := [(0, 1, false), (1, 1, false)]) (by kernel_rfl) (by kernel_rfl) (by kernel_rfl) rfl rfl (by exact trivial) rfl) (p_store rfl (e_storeA rfl (hset_self _ _ _) rfl rfl rfl (by kernel_rfl) rfl (by kernel_rfl)) trivial (p_aS rfl (p_end (hK10 _ ?_)))); clear hK10 K10;refine pwp_ret (ret_seq (endCT rfl (hset_self _ _ _) (by kernel_rfl) (by kernel_rfl) (by kernel_rfl) rfl rfl ?_));exact small_8 (by omega) (by simp only [lM] at *; omega)
 have hb9R := hb9; try simp only [zz] at hb9
 refine pwp_skip (seq_norm (hK8 _ ?_)); clear hK8 K8;refine pwp_seq_plain rfl fun K11 hK11 => p_e rfl (e_move (v := .lit _ _ _) rfl) (p_e rfl (e_build (zs := [.nil, .nil]) (pl := [(0, 1, false), (1, 1, false)]) (by kernel_rfl) (by kernel_rfl) (by kernel_rfl) rfl rfl (by exact ⟨by decide, rfl, Nat.le_of_ble_eq_true rfl, rfl, trivial⟩) rfl) (p_new rfl (e_alloc (cs := [.nil, .nil]) (n := 2) (by kernel_rfl) rfl (by decide)) (ob_alloc (by decide)) (p_store rfl (e_storeA rfl (hset_self _ _ _) rfl rfl rfl (by kernel_rfl) rfl (by kernel_rfl)) trivial (p_end (hK11 _ ?_))))); clear hK11 K11;refine pwp_seq_seq (pwp_seq_plain rfl fun K12 hK12 => p_e rfl (e_move (v := .lit _ _ _) rfl) (p_e rfl (e_len rfl (by kernel_rfl)) (p_mS rfl (p_end (hK12 _ ?_))))); clear hK12 K12;refine pwp_seq_block fun K13 hK13 => pwp_loopR (α := Nat × PV) [2, 5, 23, 24] (fun (a14 : Nat × PV) => [(25, .int (a14.1))]) (fun (a14 : Nat × PV) (h : Heap) (_ : Nat → Nat) => ((a14.1) ≤ xs.length) ∧ (SliceAt h 45 (a14.2) 1 ((bitsL (xs.take (a14.1))).map cN)) ∧ (h (2, 0) = some (.rows 2 [[.nil, .nil]])) ∧ (h (5, 0) = some (.rows 2 [[.lit true 6 (xs.map Task.enc), (a14.2)]]))) (fun (a14 : Nat × PV) => xs.length - (a14.1)) (0, .nil) (by exact ⟨rfl, trivial⟩) (by exact ⟨by exact Nat.zero_le _, by exact .nil, (hzM rfl (hzM rfl (hset_self _ _ _))), (hset_self _ _ _)⟩) fun a14 r15 h16 c17 hj18 => ?_;obtain ⟨k, w⟩ := a14;obtain ⟨hk, hws, hihj18_0, hihj18_1⟩ := hj18;try dsimp only at hk
 try dsimp only at hws
 try dsimp only at hihj18_0
 try dsimp only at hihj18_1
 show pwp _ _ (loopQ _ _ _) ⟨sets (mix _ _ _) [(25, .int k)], _, _⟩;refine pwp_seq_plain rfl fun K19 hK19 => p_e rfl (e_lt rfl rfl) (p_end (hK19 _ ?_)); clear hK19 K19;refine pwp_seq_cond rfl fun K20 hK20 => ⟨fun hb21 => ?_, fun hb21 => ?_⟩
 ·have hb21R := hb21; try simp only [zz] at hb21
  obtain ⟨x, hx, hd, ht⟩ := get_lt (xs := xs) (i := k) (by omega);have hqx := hq x (List.mem_of_getElem? hx);have hzx := (task_needs (by have := tasks_ok (planE_ok hpl) k x hx; rw [Nat.zero_add] at this; exact this)).2.2.2.1;have hbl : (bitsL (xs.take k)).length ≤ 14 := by simp only [bitsL, lM, List.length_take]; omega
  refine pwp_skip (seq_norm (hK20 _ ?_)); clear hK20 K20;refine pwp_seq_block fun K22 hK22 => pwp_seq_plain rfl fun K23 hK23 => p_e rfl (e_ixL rfl rfl) (p_e rfl (e_loadA (n := 6) rfl (by kernel_rfl) (by kernel_rfl) (by kernel_rfl) (by first | omega | (simp only [lM]; omega)) (by decide) (by first | exact agg_map hx rfl)) (p_new rfl (e_alloc (cs := [.str ByteArray.empty, .str ByteArray.empty, .int 0, .int 0, .int 0, .nil]) (n := 6) (by kernel_rfl) rfl (by decide)) (ob_alloc (by decide)) (p_store rfl (e_storeA rfl (hset_self _ _ _) rfl rfl rfl (by kernel_rfl) rfl (by kernel_rfl)) trivial (p_end (hK23 _ ?_))))); clear hK23 K23;refine pwp_seq_plain rfl fun K24 hK24 => p_aS rfl (p_end (hK24 _ ?_)); clear hK24 K24;refine pwp_seq_seq (pwp_seq_plain rfl fun K25 hK25 => p_e rfl (e_faQ pl6 rfl) (p_e rfl (e_lH (v := .lit _ _ _) rfl (hset_self _ _ _) rfl) (p_e rfl (e_len rfl (by kernel_rfl)) (p_mS rfl (p_end (hK25 _ ?_)))))); clear hK25 K25;refine pwp_seq_block fun K26 hK26 => pwp_loopR (α := Nat × Nat) [2, 5, 23, 24, 25, 30, 31] (fun (a27 : Nat × Nat) => [(8, .sc (.int .u64 ((a27.2) : Int))), (32, .int (a27.1))]) (fun (a27 : Nat × Nat) (h : Heap) (_ : Nat → Nat) => ((a27.1) ≤ x.needs.length) ∧ ((a27.2) = bitsP x.needs (a27.1)) ∧ (SliceAt h 45 w 1 ((bitsL (xs.take k)).map cN)) ∧ (h (2, 0) = some (.rows 2 [[.nil, .nil]])) ∧ (h (5, 0) = some (.rows 2 [[.lit true 6 (xs.map Task.enc), w]]))) (fun (a27 : Nat × Nat) => x.needs.length - (a27.1)) (0, 0) (by exact ⟨rfl, rfl, trivial⟩) (by exact ⟨by exact Nat.zero_le _, by exact rfl, by exact hws.keep fun g => hzM rfl (hzM rfl (rfl)), (hzM rfl (hzM rfl hihj18_0)), (hzM rfl (hzM rfl hihj18_1))⟩) fun a27 r28 h29 c30 hj31 => ?_;obtain ⟨j, b⟩ := a27;obtain ⟨hj, hbj, hws, hihj31_0, hihj31_1⟩ := hj31;try dsimp only at hj
  try dsimp only at hbj
  try dsimp only at hws
  try dsimp only at hihj31_0
  try dsimp only at hihj31_1
  show pwp _ _ (loopQ _ _ _) ⟨sets (mix _ _ _) [(8, .sc (.int .u64 (b : Int))), (32, .int j)], _, _⟩;refine pwp_seq_plain rfl fun K32 hK32 => p_e rfl (e_lt rfl rfl) (p_end (hK32 _ ?_)); clear hK32 K32;refine pwp_seq_cond rfl fun K33 hK33 => ⟨fun hb34 => ?_, fun hb34 => ?_⟩
  ·have hb34R := hb34; try simp only [zz] at hb34
   obtain ⟨hz0, hz1⟩ := hzx _ (at0_mem (l := x.needs) (i := j) (by simp only [lM] at *; omega));have hzj : x.needs[j]? = some ((at0 x.needs j).toNat : Int) := by rw [at0_get (by simp only [lM] at *; omega), Int.toNat_of_nonneg hz0]
   have hzt := two_lt (k := (at0 x.needs j).toNat) (by omega);have hbt := bitsP_lt (j := j) (n := 14) fun z hz => ⟨(hzx z hz).1, by have := (hzx z hz).2; omega⟩
   refine pwp_skip (seq_norm (hK33 _ ?_)); clear hK33 K33;refine pwp_seq_block fun K35 hK35 => pwp_seq_plain rfl fun K36 hK36 => p_e rfl (e_ixL rfl rfl) (p_e rfl (e_lL (v := .sc _) rfl ((cell_map hzj _).trans rfl)) (p_aS rfl (p_end (hK36 _ ?_)))); clear hK36 K36;refine pwp_plain rfl fun K37 hK37 => p_mS rfl (p_mS rfl (p_e rfl (e_shlU (k := (at0 x.needs j).toNat) rfl rfl (by omega)) (p_e rfl (e_orW rfl rfl (by rw [hbj]; omega) hzt) (p_aS rfl (p_end (hK37 _ ?_)))))); clear hK37 K37;refine block_norm (seq_norm (hK35 _ ?_)); clear hK35 K35;refine pwp_plain rfl fun K38 hK38 => p_e rfl (e_add rfl rfl (by omega)) (p_mS rfl (p_end (hK38 _ ?_))); clear hK38 K38;exact loop_again ((j + 1, b ||| 2 ^ (at0 x.needs j).toNat)) (by show _ < _; simp only; omega) ⟨rfl, rfl, rfl, rfl, rfl, rfl, rfl, trivial⟩ ⟨rfl, rfl, trivial⟩ (by exact ⟨by show _ + 1 ≤ _; simp only [lM] at *; omega, by (rw [bitsP_succ (by simp only [lM] at *; omega), ← hbj]), by exact hws, hihj31_0, hihj31_1⟩)
  have hb34R := hb34; try simp only [zz] at hb34
  have hjl : j = x.needs.length := by simp only [lM] at *; omega
  refine pwp_exit (exit_seq ?_);clear hK33 K33;refine exit_loop (exit_here (seq_norm (hK26 _ ?_))); clear hK26 K26;refine pwp_plain rfl fun K39 hK39 => p_e rfl (e_faQ pl2 rfl) (p_e rfl (e_loadH (v := w) rfl hihj31_1 (by kernel_rfl) (by kernel_rfl) (by kernel_rfl) (by exact Nat.zero_lt_one) (by decide) rfl) (p_mS rfl (p_new rfl (e_bslice (rows := [cN b]) (zs := [.sc (.int .u64 0)]) (sz := 1) (by kernel_rfl) (by kernel_rfl) rfl (by kernel_rfl) (by decide) rfl rfl (by exact ⟨by decide, rfl, rfl, trivial⟩) rfl) trivial (p_app rfl rfl rfl ((hws.keep fun g => rfl).keep fun _ => hzM rfl (rfl)) (src_ref (hset_self _ _ _) rfl) (by kernel_rfl) (by simp only [List.length_append, lM, List.length_nil, List.length_cons]; omega) fun v40 h41 c42 hs43 hf44 => ?_))));have ho45 := (hf44 (2, _) (key_ne rfl) (fun _ _ => key_ne rfl)).trans (hzM rfl hihj31_0);have ho46 := (hf44 (5, _) (key_ne rfl) (fun _ _ => key_ne rfl)).trans (hzM rfl hihj31_1);have ho47 := (hf44 (44, _) (key_ne rfl) (fun _ _ => key_ne rfl)).trans (hset_self _ _ _);refine p_e rfl (e_faQ pl2 rfl) ?_;obtain ⟨g48, ev50, hg49⟩ := SliceAt.isRef hs43 (by simp);subst ev50;refine p_store rfl (e_store1 rfl ho46 rfl rfl rfl (by decide) (by kernel_rfl) rfl (by kernel_rfl)) trivial (p_end (hK39 _ ?_)); clear hK39 K39;refine block_norm (seq_norm (hK22 _ ?_)); clear hK22 K22;refine pwp_plain rfl fun K51 hK51 => p_e rfl (e_add rfl rfl (by omega)) (p_mS rfl (p_end (hK51 _ ?_))); clear hK51 K51;exact loop_again ((k + 1, _)) (by show _ < _; simp only; omega) ⟨rfl, rfl, rfl, rfl, trivial⟩ ⟨rfl, trivial⟩ (by exact ⟨by show _ + 1 ≤ _; omega, by (show SliceAt _ 45 _ 1 ((bitsL (xs.take (k + 1))).map cN); rw [ht, show bitsL (xs.take k ++ [x]) = bitsL (xs.take k) ++ [b] by (simp only [bitsL, List.map_append, List.map_cons, List.map_nil]; rw [hbj, hjl])]; exact SliceAt.to (.ofRef (hzM rfl hg49) (by simp)) (by simp only [List.map_append, List.map_cons, List.map_nil])), (hzM rfl ho45), (hset_self _ _ _)⟩)
 have hb21R := hb21; try simp only [zz] at hb21
 obtain rfl : k = xs.length := by simp only [lM] at *; omega
 rw [List.take_length] at hws;refine pwp_exit (exit_seq ?_);clear hK20 K20;refine exit_loop (exit_here (seq_norm (hK13 _ ?_))); clear hK13 K13;refine pwp_seq_plain rfl fun K52 hK52 => p_e rfl (e_lA (n := 2) (cs := [.lit true 6 (xs.map Task.enc), w]) rfl hihj18_1) (p_store rfl (e_storeA rfl hihj18_0 rfl rfl rfl (by kernel_rfl) (by simp only [List.all_cons, List.all_nil, Bool.and_true, SliceAt.cell hws]; rfl) (by kernel_rfl)) trivial (p_aS rfl (p_end (hK52 _ ?_)))); clear hK52 K52;refine pwp_ret (endCT rfl (hset_self _ _ _) (by kernel_rfl) (by kernel_rfl) (by kernel_rfl) rfl rfl ?_);exact small_0 (by omega) (by simp only [lM] at *; omega) (hws.keep fun g => hzM rfl (rfl))
end Go.Proofs.YtmlhhdiomijpfaaGreatDoor.E7
