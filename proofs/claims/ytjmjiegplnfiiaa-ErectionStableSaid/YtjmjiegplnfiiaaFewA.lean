import Derived.Test.YtjmjiegplnfiiaaChk
import Derived.Laws.BitsAllLaws
/- Sets of tasks as bits. No conditions. -/
set_option linter.unusedSimpArgs false
set_option linter.unusedVariables false
set_option maxRecDepth 100000
namespace Go.Proofs.Ytjmjiegplnfiiaa
open Go Go.Pv
/-! ### Sets of tasks as bits -/
def cN (n : Nat) : List PV := [.sc (.int .u64 (n : Int))]
theorem cN_pure (n : Nat) : ∀ p ∈ cN n, Pure p := fun p hp => by simp [cN] at hp; subst hp; exact .sc _
structure Sets where
 tasks : List Task
 needs : List Nat
def Sets.enc (s : Sets) : List PV := [.lit true 6 (s.tasks.map Task.enc), .lit true 1 (s.needs.map cN)]
theorem Sets.pure (s : Sets) : ∀ p ∈ s.enc, Pure p := fun p hp => by
 simp only [Sets.enc, List.mem_cons, List.not_mem_nil, or_false] at hp
 rcases hp with rfl | rfl
 · exact .lit _ _ _ fun row hr => pure_map Task.pure row hr
 · exact .lit _ _ _ fun row hr => pure_map cN_pure row hr
section
variable {P : Program} {ρ : Operand → PV} {h : Heap} {key : Key} {x y : Operand} {t t' : TypeId}
theorem two_lt {k : Nat} (hk : k < 62) : 2 ^ k < 4611686018427387904 := by
 have := Nat.pow_lt_pow_right (a := 2) (by decide) hk
 omega
theorem shl_wrapU {k : Nat} (hk : k < 62) : IntKind.u64.wrap (1 * 2 ^ (min ((k : Int)).toNat 64)) = ((2 ^ k : Nat) : Int) := by
 have h1 : min ((k : Int)).toNat 64 = k := by omega
 have h2 := two_lt hk
 rw [h1, Int.one_mul, IntKind.wrap_u64]
 have h3 : ((2 : Int) ^ k) = ((2 ^ k : Nat) : Int) := by simp
 rw [h3]; generalize 2 ^ k = m at h2 ⊢; omega
theorem shl_wrapI {k : Nat} (hk : k < 62) : IntKind.i64.wrap (1 * 2 ^ (min ((k : Int)).toNat 64)) = ((2 ^ k : Nat) : Int) := by
 have h1 : min ((k : Int)).toNat 64 = k := by omega
 have h2 := two_lt hk
 rw [h1, Int.one_mul]
 have h3 : ((2 : Int) ^ k) = ((2 ^ k : Nat) : Int) := by simp
 rw [h3]; generalize 2 ^ k = m at h2 ⊢; exact wrap64 (by omega) (by omega)
theorem e_shlU {k : Nat} (hx : ρ x = .sc (.int .u64 1)) (hy : ρ y = .int (k : Int)) (hk : k < 62) : eff P ρ h key (.binOp .shl t x y t') = ⟨True, .sc (.int .u64 ((2 ^ k : Nat) : Int)), [], [], false⟩ := by
 simp only [eff, hx, hy, binEffN, binEff, intBin]
 rw [show IntKind.u64.bits = 64 from rfl, shl_wrapU hk]; simp
theorem e_shlI {k : Nat} (hx : ρ x = .int 1) (hy : ρ y = .int (k : Int)) (hk : k < 62) : eff P ρ h key (.binOp .shl t x y t') = ⟨True, .int ((2 ^ k : Nat) : Int), [], [], false⟩ := by
 simp only [eff, hx, hy, binEffN, binEff, intBin]
 rw [show IntKind.i64.bits = 64 from rfl, shl_wrapI hk]; simp
theorem e_shrU {a k : Nat} (hx : ρ x = .sc (.int .u64 (a : Int))) (hy : ρ y = .int (k : Int)) (hk : k < 62) : eff P ρ h key (.binOp .shr t x y t') = ⟨True, .sc (.int .u64 ((a / 2 ^ k : Nat) : Int)), [], [], false⟩ := by
 simp only [eff, hx, hy, binEffN, binEff, intBin]
 have h1 : min ((k : Int)).toNat 64 = k := by omega
 rw [show IntKind.u64.bits = 64 from rfl, h1, Int.fdiv_eq_ediv_of_nonneg _ (by exact Int.le_of_lt (Int.pow_pos (by decide)))]
 simp
theorem e_orW {a b : Nat} (hx : ρ x = .sc (.int .u64 (a : Int))) (hy : ρ y = .sc (.int .u64 (b : Int))) (ha : a < 4611686018427387904) (hb : b < 4611686018427387904) : eff P ρ h key (.binOp .or t x y t') = ⟨True, .sc (.int .u64 ((a ||| b : Nat) : Int)), [], [], false⟩ := by
 simp only [eff, hx, hy, binEffN, binEff, intBin, u64_or_nat a b (by omega) (by omega)]; simp
theorem e_andW {a b : Nat} (hx : ρ x = .sc (.int .u64 (a : Int))) (hy : ρ y = .sc (.int .u64 (b : Int))) (ha : a < 4611686018427387904) (hb : b < 4611686018427387904) : eff P ρ h key (.binOp .and t x y t') = ⟨True, .sc (.int .u64 ((a &&& b : Nat) : Int)), [], [], false⟩ := by
 simp only [eff, hx, hy, binEffN, binEff, intBin, u64_and_nat a b (by omega) (by omega)]; simp
theorem e_anW {a b : Nat} (hx : ρ x = .sc (.int .u64 (a : Int))) (hy : ρ y = .sc (.int .u64 (b : Int))) (ha : a < 4611686018427387904) (hb : b < 4611686018427387904) : eff P ρ h key (.binOp .andNot t x y t') = ⟨True, .sc (.int .u64 ((a &&& (18446744073709551615 - b) : Nat) : Int)), [], [], false⟩ := by
 simp only [eff, hx, hy, binEffN, binEff, intBin, u64_andNot_nat a b (by omega) (by omega)]; simp
theorem i64_or_nat (a b : Nat) (ha : a < 4611686018427387904) (hb : b < 4611686018427387904) : bits .or .i64 (a : Int) (b : Int) = ((a ||| b : Nat) : Int) := by
 have hx : a ||| b < 2 ^ 62 := Nat.or_lt_two_pow (by omega) (by omega)
 show IntKind.i64.wrap ((BitVec.ofInt 64 (a : Int) ||| BitVec.ofInt 64 (b : Int)).toNat : Int) = _
 rw [BitVec.toNat_or, ofInt_u64 a (by omega), ofInt_u64 b (by omega)]
 exact wrap64 (by omega) (by omega)
theorem e_orI {a b : Nat} (hx : ρ x = .int (a : Int)) (hy : ρ y = .int (b : Int)) (ha : a < 4611686018427387904) (hb : b < 4611686018427387904) : eff P ρ h key (.binOp .or t x y t') = ⟨True, .int ((a ||| b : Nat) : Int), [], [], false⟩ := by
 simp only [eff, hx, hy, binEffN, binEff, intBin, i64_or_nat a b ha hb]; simp
theorem e_decU {a : Nat} (hx : ρ x = .sc (.int .u64 (a : Int))) (hy : ρ y = .sc (.int .u64 1)) (ha : 1 ≤ a ∧ a < 4611686018427387904) : eff P ρ h key (.binOp .sub t x y t') = ⟨True, .sc (.int .u64 ((a - 1 : Nat) : Int)), [], [], false⟩ := by
 simp only [eff, hx, hy, binEffN, binEff, intBin, IntKind.wrap_u64]
 have : ((a : Int) - 1) % 18446744073709551616 = ((a - 1 : Nat) : Int) := by omega
 rw [this]; simp
end
/-- A task is ready in a stage (as bits). -/
def canB (nb a k : Nat) : Bool := decide ((((a / 2 ^ k) &&& 1 : Nat) : Int) = 0) && decide (((nb &&& (18446744073709551615 - a) : Nat) : Int) = 0)
def plc (xs : List Task) (z : Int) : Int := (xs.getD z.toNat default).place
/-- 1 if a task is handled at another place than the last one. -/
def mvF (xs : List Task) (l k : Int) : Int := if 0 ≤ l ∧ plc xs l ≠ plc xs k then 1 else 0
theorem mv_1 {xs : List Task} {l k : Int} (h : 0 ≤ l) (h2 : plc xs l ≠ plc xs k) : 1 = mvF xs l k := (if_pos ⟨h, h2⟩).symm
theorem mv_0 {xs : List Task} {l k : Int} (h : ¬ (0 ≤ l ∧ plc xs l ≠ plc xs k)) : 0 = mvF xs l k := (if_neg h).symm
theorem task_get {xs : List Task} {z : Int} (h : 0 ≤ z ∧ z < xs.length) : xs[z.toNat]? = some (xs.getD z.toNat default) := by
 rw [List.getD_eq_getElem?_getD, List.getElem?_eq_getElem (by omega)]; rfl
theorem bits_get {l : List Nat} {k : Nat} (h : k < l.length) : l[k]? = some (l.getD k 0) := by
 rw [List.getD_eq_getElem?_getD, List.getElem?_eq_getElem h]; rfl
def bitsP (l : List Int) (j : Nat) : Nat := (l.take j).foldl (fun b z => b ||| 2 ^ z.toNat) 0
theorem bitsP_succ {l : List Int} {j : Nat} (hj : j < l.length) : bitsP l (j + 1) = bitsP l j ||| 2 ^ (at0 l j).toNat := by
 rw [bitsP, ← List.take_append_getElem hj, List.foldl_append, at0_elem hj]; rfl
theorem foldl_or_lt {n : Nat} : ∀ {l : List Int} {b : Nat}, b < 2 ^ n → (∀ z ∈ l, 0 ≤ z ∧ z < n) → l.foldl (fun b z => b ||| 2 ^ z.toNat) b < 2 ^ n
 | [], b, hb, _ => hb
 | z :: l, b, hb, h => by
   rw [List.foldl_cons]
   refine foldl_or_lt (Nat.or_lt_two_pow hb ?_) fun z hz => h z (List.mem_cons_of_mem _ hz)
   have := h z (by simp)
   exact Nat.pow_lt_pow_right (by decide) (by omega)
theorem bitsP_lt {l : List Int} {j n : Nat} (h : ∀ z ∈ l, 0 ≤ z ∧ z < n) : bitsP l j < 2 ^ n := foldl_or_lt (Nat.pow_pos (by decide)) fun z hz => h z (List.mem_of_mem_take hz)
def bitsL (xs : List Task) : List Nat := xs.map fun t => bitsP t.needs t.needs.length
def smallE (xs : List Task) : Int := if planE xs ≠ 0 then planE xs else if 14 < xs.length then 8 else 0
def SmallR (xs : List Task) (v : PV) (h' : Heap) : Prop := ∃ T w, v = .tup [.agg [T, w], .int (smallE xs)] ∧ (T.cell = true ∧ w.cell = true) ∧ (smallE xs = 0 → T = .lit true 6 (xs.map Task.enc) ∧ SliceAt h' 45 w 1 ((bitsL xs).map cN))
theorem small_p {xs : List Task} {h' : Heap} (h : planE xs ≠ 0) : SmallR xs (.tup [.agg [.nil, .nil], .int (planE xs)]) h' :=
 ⟨_, _, by rw [smallE, if_pos h], ⟨rfl, rfl⟩, fun h2 => by rw [smallE, if_pos h] at h2; exact absurd h2 h⟩
theorem small_8 {xs : List Task} {h' : Heap} (h : planE xs = 0) (h2 : 14 < xs.length) : SmallR xs (.tup [.agg [.nil, .nil], .int 8]) h' :=
 ⟨_, _, by rw [smallE, if_neg (fun q => q h), if_pos h2], ⟨rfl, rfl⟩, fun h3 => by rw [smallE, if_neg (fun q => q h), if_pos h2] at h3; cases h3⟩
theorem SliceAt.cell {h : Heap} {d sz : Nat} {v : PV} {rows : Pv.Rows} (hs : SliceAt h d v sz rows) : v.cell = true := by
 rcases hs with ⟨_, rfl⟩ | ⟨g, rfl, _⟩ <;> rfl
theorem small_0 {xs : List Task} {h' : Heap} {w : PV} (h : planE xs = 0) (h2 : ¬ 14 < xs.length) (hw : SliceAt h' 45 w 1 ((bitsL xs).map cN)) : SmallR xs (.tup [.agg [.lit true 6 (xs.map Task.enc), w], .int 0]) h' :=
 ⟨_, _, by rw [smallE, if_neg (fun q => q h), if_neg h2], ⟨rfl, SliceAt.cell hw⟩, fun _ => ⟨rfl, hw⟩⟩
theorem planE_ok {xs : List Task} (h : planE xs = 0) : tasksF xs 0 xs = 0 := by
 unfold planE at h
 split at h
 · cases h
 · split at h
   · rename_i h1; exact absurd h h1
   · rename_i h1; exact Decidable.not_not.1 h1
theorem endCT {P : Program} {R : PV → Heap → (Nat → Nat) → Prop} {r : Nat → PV} {h : Heap} {cnt : Nat → Nat} {a b : Nat} {t : TypeId} {k : Key} {n : Nat} {cs : List PV} {v : PV} (hx : r a = .ptr k n 0 0) (hk : h k = some (.rows n [cs])) (hg : tyAgg P t = true) (hs : tySize P t = n) (ht : tyOk P t = true) (hl : cs.length = n) (hb : r b = v) (hR : R (.tup [.agg cs, v]) h cnt) : endQ P [.cell a t, .tmp b] R .ret ⟨r, h, cnt⟩ := by
 have h1 : aggAt [cs] 0 0 n = cs := by subst hl; simp [aggAt]
 have h2 : loadEff P h t (r a) = ⟨True, .agg cs, [], [k], false⟩ := by
   rw [hx]; simp only [loadEff, hk, hg, hs, ht, h1]; simp
 have e1 : resOf P ⟨r, h, cnt⟩ (.cell a t) = ((loadEff P h t (r a)).ob, (loadEff P h t (r a)).v) := rfl
 have e2 : resOf P ⟨r, h, cnt⟩ (.tmp b) = (True, r b) := rfl
 refine ⟨fun x hx => ?_, ?_⟩
 · simp only [List.mem_cons, List.not_mem_nil, or_false] at hx
   rcases hx with rfl | rfl
   · rw [e1, h2]; trivial
   · trivial
 · show R (.tup [(resOf P ⟨r, h, cnt⟩ (.cell a t)).2, (resOf P ⟨r, h, cnt⟩ (.tmp b)).2]) h cnt
   rw [e1, e2, h2, hb]; exact hR

theorem fr63 : (inFrame Try.f63.ntmps (Try.f63.body.getD .skip) && Try.f63.results.toList.all (resScope Try.f63.ntmps)) = true := by kernel_rfl
theorem fullC (s : Sets) (hs : s.tasks.length < 62) : PCalls Try.prog 63 [.agg s.enc] (.sc (.int .u64 ((2 ^ s.tasks.length - 1 : Nat) : Int))) := by
 refine PCalls.of_code Try.func63 rfl rfl (by kernel_rfl) mixed fr63 (by show _ ≤ 8; simp) (.sc _) ?_
 have h2 := two_lt hs
 have h3 := Nat.pow_pos (n := s.tasks.length) (show 0 < 2 by decide)
 refine pwp_seq_plain rfl fun K1 hK1 => p_new rfl (e_box (n := 2) rfl rfl) ⟨rfl, by decide⟩ (p_aS rfl (p_end (hK1 _ ?_))); clear hK1 K1
 refine pwp_seq_plain rfl fun K2 hK2 => p_e rfl (e_faQ pl2 rfl) (p_e rfl (e_lH (v := .lit _ _ _) rfl (hset_self _ _ _) rfl) (p_e rfl (e_len rfl (by kernel_rfl)) (p_e rfl (e_shlU (k := s.tasks.length) rfl (congrArg PV.int (by simp only [List.length_map])) hs) (p_e rfl (e_decU rfl rfl ⟨h3, h2⟩) (p_aS rfl (p_end (hK2 _ ?_))))))); clear hK2 K2
 refine pwp_ret (end1 (v := .sc _) rfl ?_)
 exact out_i rfl

theorem fr64 : (inFrame Try.f64.ntmps (Try.f64.body.getD .skip) && Try.f64.results.toList.all (resScope Try.f64.ntmps)) = true := by kernel_rfl
theorem canC (s : Sets) (a k : Nat) (hk : k < s.needs.length) (hk6 : k < 62) (ha : a < 4611686018427387904) (hn : s.needs.getD k 0 < 4611686018427387904) : PCalls Try.prog 64 [.agg s.enc, .sc (.int .u64 (a : Int)), .int (k : Int)] (.bool (canB (s.needs.getD k 0) a k)) := by
 refine PCalls.of_code Try.func64 rfl rfl (by kernel_rfl) mixed fr64 (by show _ ≤ 22; simp) (.sc _) ?_
 have hak : a / 2 ^ k < 4611686018427387904 := Nat.lt_of_le_of_lt (Nat.div_le_self _ _) ha
 refine pwp_seq_plain rfl fun K1 hK1 => p_new rfl (e_box (n := 2) rfl rfl) ⟨rfl, by decide⟩ (p_aS rfl (p_end (hK1 _ ?_))); clear hK1 K1
 refine pwp_seq_gops rfl fun K2 hK2 => g_begin (g_mS rfl rfl (g_mS rfl rfl (g_e rfl (e_shrU rfl rfl hk6) (g_e rfl (e_andW (b := 1) rfl rfl hak (by decide)) (g_e rfl (e_eq rfl rfl) (g_mS rfl rfl ?_))))))
 refine g_cases (fun hb3 => ?_) (fun hb3 => ?_)
 ·have hb3R := hb3; try simp only [zz] at hb3
  refine g_e rfl (e_faQ pl2 rfl) (g_e rfl (e_lH (v := .lit _ _ _) rfl (hset_self _ _ _) rfl) (g_mS rfl rfl (g_e rfl (e_ixL rfl rfl) (g_e rfl (e_load (v := .sc _) rfl (by kernel_rfl) (by kernel_rfl) (by kernel_rfl) (by first | omega | (simp only [List.length_map]; omega)) (by decide) ((cell_map (bits_get hk) _).trans rfl)) (g_mS rfl rfl (g_e rfl (e_anW rfl rfl hn ha) (g_e rfl (e_eq rfl rfl) ?_)))))))
  refine g_pT rfl rfl rfl (g_aS rfl rfl (g_end (ds := [13, 14, 15, 16, 17, 18, 19, 20]) rfl rfl (hK2 _ ?_))); clear hK2 K2
  refine pwp_ret (end1 (v := .sc _) rfl ?_)
  exact out_b (by unfold canB; simp_all)
 have hb3R := hb3; try simp only [zz] at hb3
 iterate 8 refine g_skip rfl rfl rfl ?_
 refine g_pF rfl rfl rfl (g_aS rfl rfl (g_end (ds := [13, 14, 15, 16, 17, 18, 19, 20]) rfl rfl (hK2 _ ?_))); clear hK2 K2
 refine pwp_ret (end1 (v := .sc _) rfl ?_)
 exact out_b (by unfold canB; simp_all)

theorem fr65 : (inFrame Try.f65.ntmps (Try.f65.body.getD .skip) && Try.f65.results.toList.all (resScope Try.f65.ntmps)) = true := by kernel_rfl
theorem movesC (s : Sets) (l k : Int) (hl : -1 ≤ l ∧ l < s.tasks.length) (hk : 0 ≤ k ∧ k < s.tasks.length) : PCalls Try.prog 65 [.agg s.enc, .int l, .int k] (.int (mvF s.tasks l k)) := by
 refine PCalls.of_code Try.func65 rfl rfl (by kernel_rfl) mixed fr65 (by show _ ≤ 24; simp) (.sc _) (pwp_seq_plain rfl fun K1 hK1 => p_new rfl (e_box (n := 2) rfl rfl) ⟨rfl, by decide⟩ (p_aS rfl (p_end (hK1 _ ?_)))); clear hK1 K1
 refine pwp_seq_seq (pwp_seq_gops rfl fun K2 hK2 => g_begin (g_mS rfl rfl (g_e rfl (e_ge rfl rfl) (g_mS rfl rfl ?_))))
 refine g_cases (fun hb3 => ?_) (fun hb3 => ?_)
 ·have hb3R := hb3; try simp only [zz] at hb3
  refine g_e rfl (e_faQ pl2 rfl) (g_e rfl (e_lH (v := .lit _ _ _) rfl (hset_self _ _ _) rfl) (g_mS rfl rfl (g_e rfl (e_ixL rfl rfl) (g_e rfl (e_fb pl6 rfl) (g_e rfl (e_load (v := .sc _) rfl (by kernel_rfl) (by kernel_rfl) (by kernel_rfl) (by first | omega | (simp only [List.length_map]; omega)) (by decide) ((cell_map (task_get (by omega)) _).trans rfl)) (g_e rfl (e_faQ pl2 rfl) (g_e rfl (e_lH (v := .lit _ _ _) rfl (hset_self _ _ _) rfl) ?_)))))))
  refine g_mS rfl rfl (g_e rfl (e_ixL rfl rfl) (g_e rfl (e_fb pl6 rfl) (g_e rfl (e_load (v := .sc _) rfl (by kernel_rfl) (by kernel_rfl) (by kernel_rfl) (by first | omega | (simp only [List.length_map]; omega)) (by decide) ((cell_map (task_get (by omega)) _).trans rfl)) (g_e rfl (e_ne rfl rfl) (g_pT rfl rfl rfl (g_end (ds := [10, 11, 12, 13, 14, 15, 16, 17, 18, 19, 20, 21, 22]) (by kernel_rfl) rfl (hK2 _ ?_))))))); clear hK2 K2
  refine pwp_seq_cond rfl fun K4 hK4 => ⟨fun hb5 => ?_, fun hb5 => ?_⟩
  ·have hb5R := hb5; try simp only [zz] at hb5
   refine pwp_seq_plain rfl fun K6 hK6 => p_aS rfl (p_end (hK6 _ ?_)); clear hK6 K6
   refine pwp_ret (ret_seq (end1 (v := .sc _) rfl ?_))
   exact out_i (mv_1 (by assumption) (by unfold plc; assumption))
  have hb5R := hb5; try simp only [zz] at hb5
  refine pwp_skip (seq_norm (hK4 _ ?_)); clear hK4 K4
  refine pwp_seq_plain rfl fun K7 hK7 => p_aS rfl (p_end (hK7 _ ?_)); clear hK7 K7
  refine pwp_ret (end1 (v := .sc _) rfl ?_)
  exact out_i (mv_0 (by unfold plc; omega))
 have hb3R := hb3; try simp only [zz] at hb3
 iterate 13 refine g_skip rfl rfl rfl ?_
 refine g_pF rfl rfl rfl (g_end (ds := [10, 11, 12, 13, 14, 15, 16, 17, 18, 19, 20, 21, 22]) (by kernel_rfl) rfl (hK2 _ ?_)); clear hK2 K2
 refine pwp_seq_cond (t := false) rfl fun K8 hK8 => ⟨nofun, fun _ => ?_⟩
 refine pwp_skip (seq_norm (hK8 _ ?_)); clear hK8 K8
 refine pwp_seq_plain rfl fun K9 hK9 => p_aS rfl (p_end (hK9 _ ?_)); clear hK9 K9
 refine pwp_ret (end1 (v := .sc _) rfl ?_)
 exact out_i (mv_0 (by unfold plc; omega))

theorem frH62 : (inFrame Try.f62.ntmps (Try.f62.body.getD .skip) && Try.f62.results.toList.all (resScope Try.f62.ntmps)) = true := by kernel_rfl
theorem smallC (xs : List Task) (hl : xs.length ≤ 10000) (hq : Fair xs) : HCallsR Try.prog 62 [.lit true 6 (xs.map Task.enc)] (fun _ => none) (fun _ => 0) (fun v h _ => SmallR xs v h) := by
 refine HCallsR.of_code Try.func62 rfl rfl (by kernel_rfl) mixed frH62 (by show _ ≤ 49; simp) (pwp_seq_plain rfl fun K1 hK1 => p_new rfl (e_alloc (cs := [.nil, .nil]) (n := 2) (by kernel_rfl) rfl (by decide)) (ob_alloc (by decide)) (p_aS rfl (p_end (hK1 _ ?_)))); clear hK1 K1
 refine pwp_seq_seq (pwp_seq_plain rfl fun K2 hK2 => p_e rfl (e_move (v := .lit _ _ _) rfl) (p_call rfl (.cons inn_lit .nil) (CheckC _ hl hq) (p_aS rfl (p_end (hK2 _ ?_))))); clear hK2 K2
 refine pwp_seq_seq (pwp_seq_plain rfl fun K3 hK3 => p_mS rfl (p_e rfl (e_ne rfl rfl) (p_end (hK3 _ ?_)))); clear hK3 K3
 refine pwp_seq_cond rfl fun K4 hK4 => ⟨fun hb5 => ?_, fun hb5 => ?_⟩
 ·have hb5R := hb5; try simp only [zz] at hb5
  refine pwp_seq_plain rfl fun K6 hK6 => p_e rfl (e_build (zs := [.nil, .nil]) (pl := [(0, 1, false), (1, 1, false)]) (by kernel_rfl) (by kernel_rfl) (by kernel_rfl) rfl rfl (by exact trivial) rfl) (p_mS rfl (p_store rfl (e_storeA rfl (hset_self _ _ _) rfl rfl rfl (by kernel_rfl) rfl (by kernel_rfl)) trivial (p_aS rfl (p_end (hK6 _ ?_))))); clear hK6 K6
  refine pwp_ret (ret_seq (endCT rfl (hset_self _ _ _) (by kernel_rfl) (by kernel_rfl) (by kernel_rfl) rfl rfl ?_))
  exact small_p (by assumption)
 have hb5R := hb5; try simp only [zz] at hb5
 refine pwp_skip (seq_norm (hK4 _ ?_)); clear hK4 K4
 refine pwp_seq_seq ?_
 have hpl : planE xs = 0 := (by assumption)
 refine pwp_seq_plain rfl fun K7 hK7 => p_e rfl (e_move (v := .lit _ _ _) rfl) (p_e rfl (e_len rfl (by kernel_rfl)) (p_e rfl (e_gt rfl rfl) (p_end (hK7 _ ?_)))); clear hK7 K7
 refine pwp_seq_cond rfl fun K8 hK8 => ⟨fun hb9 => ?_, fun hb9 => ?_⟩
 ·have hb9R := hb9; try simp only [zz] at hb9
  refine pwp_seq_plain rfl fun K10 hK10 => p_e rfl (e_build (zs := [.nil, .nil]) (pl := [(0, 1, false), (1, 1, false)]) (by kernel_rfl) (by kernel_rfl) (by kernel_rfl) rfl rfl (by exact trivial) rfl) (p_store rfl (e_storeA rfl (hset_self _ _ _) rfl rfl rfl (by kernel_rfl) rfl (by kernel_rfl)) trivial (p_aS rfl (p_end (hK10 _ ?_)))); clear hK10 K10
  refine pwp_ret (ret_seq (endCT rfl (hset_self _ _ _) (by kernel_rfl) (by kernel_rfl) (by kernel_rfl) rfl rfl ?_))
  exact small_8 (by omega) (by simp only [List.length_map] at *; omega)
 have hb9R := hb9; try simp only [zz] at hb9
 refine pwp_skip (seq_norm (hK8 _ ?_)); clear hK8 K8
 refine pwp_seq_plain rfl fun K11 hK11 => p_e rfl (e_move (v := .lit _ _ _) rfl) (p_e rfl (e_build (zs := [.nil, .nil]) (pl := [(0, 1, false), (1, 1, false)]) (by kernel_rfl) (by kernel_rfl) (by kernel_rfl) rfl rfl (by exact ⟨by decide, rfl, Nat.le_of_ble_eq_true rfl, rfl, trivial⟩) rfl) (p_new rfl (e_alloc (cs := [.nil, .nil]) (n := 2) (by kernel_rfl) rfl (by decide)) (ob_alloc (by decide)) (p_store rfl (e_storeA rfl (hset_self _ _ _) rfl rfl rfl (by kernel_rfl) rfl (by kernel_rfl)) trivial (p_end (hK11 _ ?_))))); clear hK11 K11
 refine pwp_seq_seq (pwp_seq_plain rfl fun K12 hK12 => p_e rfl (e_move (v := .lit _ _ _) rfl) (p_e rfl (e_len rfl (by kernel_rfl)) (p_mS rfl (p_end (hK12 _ ?_))))); clear hK12 K12
 refine pwp_seq_block fun K13 hK13 => pwp_loopR (α := Nat × PV) [2, 5, 23, 24] (fun (a14 : Nat × PV) => [(25, .int (a14.1))]) (fun (a14 : Nat × PV) (h : Heap) (_ : Nat → Nat) => ((a14.1) ≤ xs.length) ∧ (SliceAt h 45 (a14.2) 1 ((bitsL (xs.take (a14.1))).map cN)) ∧ (h (2, 0) = some (.rows 2 [[.nil, .nil]])) ∧ (h (5, 0) = some (.rows 2 [[.lit true 6 (xs.map Task.enc), (a14.2)]]))) (fun (a14 : Nat × PV) => xs.length - (a14.1)) (0, .nil) (by exact ⟨rfl, trivial⟩) (by exact ⟨by exact Nat.zero_le _, by exact .nil, ((hset_ne (key_ne rfl)).trans ((hset_ne (key_ne rfl)).trans (hset_self _ _ _))), (hset_self _ _ _)⟩) fun a14 r15 h16 c17 hj18 => ?_
 obtain ⟨k, w⟩ := a14
 obtain ⟨hk, hws, hihj18_0, hihj18_1⟩ := hj18
 try dsimp only at hk
 try dsimp only at hws
 try dsimp only at hihj18_0
 try dsimp only at hihj18_1
 show pwp _ _ (loopQ _ _ _) ⟨sets (mix _ _ _) [(25, .int k)], _, _⟩
 refine pwp_seq_plain rfl fun K19 hK19 => p_e rfl (e_lt rfl rfl) (p_end (hK19 _ ?_)); clear hK19 K19
 refine pwp_seq_cond rfl fun K20 hK20 => ⟨fun hb21 => ?_, fun hb21 => ?_⟩
 ·have hb21R := hb21; try simp only [zz] at hb21
  obtain ⟨x, hx, hd, ht⟩ := get_lt (xs := xs) (i := k) (by omega)
  have hqx := hq x (List.mem_of_getElem? hx)
  have hzx := (task_needs (by have := tasks_ok (planE_ok hpl) k x hx; rw [Nat.zero_add] at this; exact this)).2.2.2.1
  have hbl : (bitsL (xs.take k)).length ≤ 14 := by simp only [bitsL, List.length_map, List.length_take]; omega
  refine pwp_skip (seq_norm (hK20 _ ?_)); clear hK20 K20
  refine pwp_seq_block fun K22 hK22 => pwp_seq_plain rfl fun K23 hK23 => p_e rfl (e_ixL rfl rfl) (p_e rfl (e_loadA (n := 6) rfl (by kernel_rfl) (by kernel_rfl) (by kernel_rfl) (by first | omega | (simp only [List.length_map]; omega)) (by decide) (by first | exact agg_map hx rfl)) (p_new rfl (e_alloc (cs := [.str ByteArray.empty, .str ByteArray.empty, .int 0, .int 0, .int 0, .nil]) (n := 6) (by kernel_rfl) rfl (by decide)) (ob_alloc (by decide)) (p_store rfl (e_storeA rfl (hset_self _ _ _) rfl rfl rfl (by kernel_rfl) rfl (by kernel_rfl)) trivial (p_end (hK23 _ ?_))))); clear hK23 K23
  refine pwp_seq_plain rfl fun K24 hK24 => p_aS rfl (p_end (hK24 _ ?_)); clear hK24 K24
  refine pwp_seq_seq (pwp_seq_plain rfl fun K25 hK25 => p_e rfl (e_faQ pl6 rfl) (p_e rfl (e_lH (v := .lit _ _ _) rfl (hset_self _ _ _) rfl) (p_e rfl (e_len rfl (by kernel_rfl)) (p_mS rfl (p_end (hK25 _ ?_)))))); clear hK25 K25
  refine pwp_seq_block fun K26 hK26 => pwp_loopR (α := Nat × Nat) [2, 5, 23, 24, 25, 30, 31] (fun (a27 : Nat × Nat) => [(8, .sc (.int .u64 ((a27.2) : Int))), (32, .int (a27.1))]) (fun (a27 : Nat × Nat) (h : Heap) (_ : Nat → Nat) => ((a27.1) ≤ x.needs.length) ∧ ((a27.2) = bitsP x.needs (a27.1)) ∧ (SliceAt h 45 w 1 ((bitsL (xs.take k)).map cN)) ∧ (h (2, 0) = some (.rows 2 [[.nil, .nil]])) ∧ (h (5, 0) = some (.rows 2 [[.lit true 6 (xs.map Task.enc), w]]))) (fun (a27 : Nat × Nat) => x.needs.length - (a27.1)) (0, 0) (by exact ⟨rfl, rfl, trivial⟩) (by exact ⟨by exact Nat.zero_le _, by exact rfl, by exact hws.keep fun g => (hset_ne (key_ne rfl)).trans ((hset_ne (key_ne rfl)).trans (rfl)), ((hset_ne (key_ne rfl)).trans ((hset_ne (key_ne rfl)).trans hihj18_0)), ((hset_ne (key_ne rfl)).trans ((hset_ne (key_ne rfl)).trans hihj18_1))⟩) fun a27 r28 h29 c30 hj31 => ?_
  obtain ⟨j, b⟩ := a27
  obtain ⟨hj, hbj, hws, hihj31_0, hihj31_1⟩ := hj31
  try dsimp only at hj
  try dsimp only at hbj
  try dsimp only at hws
  try dsimp only at hihj31_0
  try dsimp only at hihj31_1
  show pwp _ _ (loopQ _ _ _) ⟨sets (mix _ _ _) [(8, .sc (.int .u64 (b : Int))), (32, .int j)], _, _⟩
  refine pwp_seq_plain rfl fun K32 hK32 => p_e rfl (e_lt rfl rfl) (p_end (hK32 _ ?_)); clear hK32 K32
  refine pwp_seq_cond rfl fun K33 hK33 => ⟨fun hb34 => ?_, fun hb34 => ?_⟩
  ·have hb34R := hb34; try simp only [zz] at hb34
   obtain ⟨hz0, hz1⟩ := hzx _ (at0_mem (l := x.needs) (i := j) (by simp only [List.length_map] at *; omega))
   have hzj : x.needs[j]? = some ((at0 x.needs j).toNat : Int) := by rw [at0_get (by simp only [List.length_map] at *; omega), Int.toNat_of_nonneg hz0]
   have hzt := two_lt (k := (at0 x.needs j).toNat) (by omega)
   have hbt := bitsP_lt (j := j) (n := 14) fun z hz => ⟨(hzx z hz).1, by have := (hzx z hz).2; omega⟩
   refine pwp_skip (seq_norm (hK33 _ ?_)); clear hK33 K33
   refine pwp_seq_block fun K35 hK35 => pwp_seq_plain rfl fun K36 hK36 => p_e rfl (e_ixL rfl rfl) (p_e rfl (e_load (v := .sc _) rfl (by kernel_rfl) (by kernel_rfl) (by kernel_rfl) (by first | omega | (simp only [List.length_map]; omega)) (by decide) ((cell_map hzj _).trans rfl)) (p_aS rfl (p_end (hK36 _ ?_)))); clear hK36 K36
   refine pwp_plain rfl fun K37 hK37 => p_mS rfl (p_mS rfl (p_e rfl (e_shlU (k := (at0 x.needs j).toNat) rfl rfl (by omega)) (p_e rfl (e_orW rfl rfl (by rw [hbj]; omega) hzt) (p_aS rfl (p_end (hK37 _ ?_)))))); clear hK37 K37
   refine block_norm (seq_norm (hK35 _ ?_)); clear hK35 K35
   refine pwp_plain rfl fun K38 hK38 => p_e rfl (e_add rfl rfl (by omega)) (p_mS rfl (p_end (hK38 _ ?_))); clear hK38 K38
   exact loop_again ((j + 1, b ||| 2 ^ (at0 x.needs j).toNat)) (by show _ < _; simp only; omega) ⟨rfl, rfl, rfl, rfl, rfl, rfl, rfl, trivial⟩ ⟨rfl, rfl, trivial⟩ (by exact ⟨by show _ + 1 ≤ _; simp only [List.length_map] at *; omega, by (rw [bitsP_succ (by simp only [List.length_map] at *; omega), ← hbj]), by exact hws, hihj31_0, hihj31_1⟩)
  have hb34R := hb34; try simp only [zz] at hb34
  have hjl : j = x.needs.length := by simp only [List.length_map] at *; omega
  refine pwp_exit (exit_seq ?_)
  clear hK33 K33
  refine exit_loop (exit_here (seq_norm (hK26 _ ?_))); clear hK26 K26
  refine pwp_plain rfl fun K39 hK39 => p_e rfl (e_faQ pl2 rfl) (p_e rfl (e_loadH (v := w) rfl hihj31_1 (by kernel_rfl) (by kernel_rfl) (by kernel_rfl) (by exact Nat.zero_lt_one) (by decide) rfl) (p_mS rfl (p_new rfl (e_bslice (rows := [cN b]) (zs := [.sc (.int .u64 0)]) (sz := 1) (by kernel_rfl) (by kernel_rfl) rfl (by kernel_rfl) (by decide) rfl rfl (by exact ⟨by decide, rfl, rfl, trivial⟩) rfl) trivial (p_app rfl rfl rfl ((hws.keep fun g => rfl).keep fun _ => (hset_ne (key_ne rfl)).trans (rfl)) (src_ref (hset_self _ _ _) rfl) (by kernel_rfl) (by simp only [List.length_append, List.length_map, List.length_nil, List.length_cons]; omega) fun v40 h41 c42 hs43 hf44 => ?_))))
  have ho45 := (hf44 (2, _) (key_ne rfl) (fun _ _ => key_ne rfl)).trans ((hset_ne (key_ne rfl)).trans hihj31_0)
  have ho46 := (hf44 (5, _) (key_ne rfl) (fun _ _ => key_ne rfl)).trans ((hset_ne (key_ne rfl)).trans hihj31_1)
  have ho47 := (hf44 (44, _) (key_ne rfl) (fun _ _ => key_ne rfl)).trans (hset_self _ _ _)
  refine p_e rfl (e_faQ pl2 rfl) ?_
  obtain ⟨g48, ev50, hg49⟩ := SliceAt.isRef hs43 (by simp)
  subst ev50
  refine p_store rfl (e_store1 rfl ho46 rfl rfl rfl (by decide) (by kernel_rfl) rfl (by kernel_rfl)) trivial (p_end (hK39 _ ?_)); clear hK39 K39
  refine block_norm (seq_norm (hK22 _ ?_)); clear hK22 K22
  refine pwp_plain rfl fun K51 hK51 => p_e rfl (e_add rfl rfl (by omega)) (p_mS rfl (p_end (hK51 _ ?_))); clear hK51 K51
  exact loop_again ((k + 1, _)) (by show _ < _; simp only; omega) ⟨rfl, rfl, rfl, rfl, trivial⟩ ⟨rfl, trivial⟩ (by exact ⟨by show _ + 1 ≤ _; omega, by (show SliceAt _ 45 _ 1 ((bitsL (xs.take (k + 1))).map cN); rw [ht, show bitsL (xs.take k ++ [x]) = bitsL (xs.take k) ++ [b] by (simp only [bitsL, List.map_append, List.map_cons, List.map_nil]; rw [hbj, hjl])]; exact SliceAt.to (.ofRef ((hset_ne (key_ne rfl)).trans hg49) (by simp)) (by simp only [List.map_append, List.map_cons, List.map_nil])), ((hset_ne (key_ne rfl)).trans ho45), (hset_self _ _ _)⟩)
 have hb21R := hb21; try simp only [zz] at hb21
 obtain rfl : k = xs.length := by simp only [List.length_map] at *; omega
 rw [List.take_length] at hws
 refine pwp_exit (exit_seq ?_)
 clear hK20 K20
 refine exit_loop (exit_here (seq_norm (hK13 _ ?_))); clear hK13 K13
 refine pwp_seq_plain rfl fun K52 hK52 => p_e rfl (e_loadHA (n := 2) (cs := [.lit true 6 (xs.map Task.enc), w]) rfl hihj18_1 (by kernel_rfl) (by kernel_rfl) (by kernel_rfl) (by exact Nat.zero_lt_one) (by decide) rfl) (p_store rfl (e_storeA rfl hihj18_0 rfl rfl rfl (by kernel_rfl) (by simp only [List.all_cons, List.all_nil, Bool.and_true, SliceAt.cell hws]; rfl) (by kernel_rfl)) trivial (p_aS rfl (p_end (hK52 _ ?_)))); clear hK52 K52
 refine pwp_ret (endCT rfl (hset_self _ _ _) (by kernel_rfl) (by kernel_rfl) (by kernel_rfl) rfl rfl ?_)
 exact small_0 (by omega) (by simp only [List.length_map] at *; omega) (hws.keep fun g => (hset_ne (key_ne rfl)).trans (rfl))

end Go.Proofs.Ytjmjiegplnfiiaa

/- The fewest handlings behind each stage of a small plan, and the way that is taken by them: plain laws. No conditions. -/
set_option linter.unusedSimpArgs false
set_option linter.unusedVariables false
namespace Go.Proofs.Ytjmjiegplnfiiaa
open Go Go.Pv

/-! ### Bits -/
theorem can_iff {l : List Int} {a k : Nat} (ha : a < 4611686018427387904) (hl : ∀ z ∈ l, 0 ≤ z ∧ z < 14) : canB (bitsP l l.length) a k = true ↔ a.testBit k = false ∧ ∀ z ∈ l, a.testBit z.toNat = true := by
 have h0 : ∀ (m : List Int) (b i : Nat), (m.foldl (fun b z => b ||| 2 ^ z.toNat) b).testBit i = (b.testBit i || m.any fun z => decide (z.toNat = i)) := by
   intro m
   induction m with
   | nil => intro b i; simp
   | cons z m ih =>
     intro b i
     rw [List.foldl_cons, ih, Nat.testBit_or, Nat.testBit_two_pow, List.any_cons, Bool.or_assoc]
 have h1 : ∀ i, (bitsP l l.length).testBit i = l.any fun z => decide (z.toNat = i) := fun i => by
   rw [bitsP, List.take_length, h0]; simp
 have h2 : ∀ i, (18446744073709551615 - a).testBit i = (decide (i < 64) && !a.testBit i) := fun i => by
   have := Nat.testBit_two_pow_sub_succ (x := a) (n := 64) (by omega) i
   rw [show 2 ^ 64 - (a + 1) = 18446744073709551615 - a by omega] at this
   exact this
 have h3 : ((a / 2 ^ k) &&& 1 = 0) ↔ a.testBit k = false := by
   rw [Nat.testBit, Nat.shiftRight_eq_div_pow, Nat.and_comm]
   cases h : (1 &&& a / 2 ^ k) with
   | zero => simp
   | succ n => simp
 have h4 : (bitsP l l.length &&& (18446744073709551615 - a) = 0) ↔ ∀ z ∈ l, a.testBit z.toNat = true := by
   constructor
   · intro h z hz
     have h5 : (bitsP l l.length &&& (18446744073709551615 - a)).testBit z.toNat = false := by rw [h]; exact Nat.zero_testBit _
     rw [Nat.testBit_and, h1, h2] at h5
     have h6 : (l.any fun y => decide (y.toNat = z.toNat)) = true := List.any_eq_true.2 ⟨z, hz, by simp⟩
     have h7 := hl z hz
     rw [h6, show decide (z.toNat < 64) = true from decide_eq_true (by omega)] at h5
     simpa using h5
   · intro h
     apply Nat.eq_of_testBit_eq
     intro i
     rw [Nat.testBit_and, h1, h2, Nat.zero_testBit]
     cases e : (l.any fun z => decide (z.toNat = i)) with
     | false => rfl
     | true =>
       obtain ⟨z, hz, h5⟩ := List.any_eq_true.1 e
       have h5 := of_decide_eq_true h5
       rw [← h5, h z hz]; simp
 unfold canB
 rw [Bool.and_eq_true, decide_eq_true_eq, decide_eq_true_eq, ← h3, ← h4]
 exact ⟨fun ⟨p, q⟩ => ⟨by exact_mod_cast p, by exact_mod_cast q⟩, fun ⟨p, q⟩ => ⟨by exact_mod_cast p, by exact_mod_cast q⟩⟩
theorem or_gt {a k : Nat} (h : a.testBit k = false) : a < a ||| 2 ^ k := by
 have h1 : a ≤ a ||| 2 ^ k := Nat.left_le_or
 rcases Nat.lt_or_eq_of_le h1 with h2 | h2
 · exact h2
 · have h3 : (a ||| 2 ^ k).testBit k = a.testBit k := by rw [← h2]
   rw [Nat.testBit_or, Nat.testBit_two_pow_self, h] at h3
   simp at h3
theorem or_lt {a k n : Nat} (ha : a < 2 ^ n) (hk : k < n) : a ||| 2 ^ k < 2 ^ n := Nat.or_lt_two_pow ha (Nat.pow_lt_pow_right (by decide) hk)

/-! ### The fewest handlings behind a stage -/
abbrev nbD (xs : List Task) (k : Nat) : Nat := (bitsL xs).getD k 0
def bstG (xs : List Task) (V : Nat → Nat → Int) (a l : Nat) : Nat → Int
 | 0 => 1048576
 | k + 1 => if canB (nbD xs k) a k = true then min (bstG xs V a l k) (mvF xs l k + V (a ||| 2 ^ k) k) else bstG xs V a l k
def DV (xs : List Task) : Nat → Nat → Nat → Int
 | 0, _, _ => 0
 | f + 1, a, l => if 2 ^ xs.length - 1 ≤ a then 0 else bstG xs (DV xs f) a l xs.length
def DX (xs : List Task) (a l : Nat) : Int := DV xs (2 ^ xs.length) a l
theorem mvF_b {xs : List Task} {l k : Int} : 0 ≤ mvF xs l k ∧ mvF xs l k ≤ 1 := by unfold mvF; split <;> omega
theorem bstG_b {xs : List Task} {V : Nat → Nat → Int} (hV : ∀ a l, 0 ≤ V a l) {a l : Nat} : ∀ k, 0 ≤ bstG xs V a l k ∧ bstG xs V a l k ≤ 1048576
 | 0 => by unfold bstG; omega
 | k + 1 => by
   have h1 := bstG_b (xs := xs) hV (a := a) (l := l) k
   have h2 := hV (a ||| 2 ^ k) k
   have h3 := mvF_b (xs := xs) (l := l) (k := k)
   unfold bstG
   split
   · rw [Int.min_def]; split <;> omega
   · exact h1
theorem DV_b {xs : List Task} : ∀ (f a l : Nat), 0 ≤ DV xs f a l ∧ DV xs f a l ≤ 1048576
 | 0, _, _ => by unfold DV; omega
 | f + 1, a, l => by
   unfold DV
   split
   · omega
   · exact bstG_b (fun a l => (DV_b f a l).1) _
theorem DX_b {xs : List Task} {a l : Nat} : 0 ≤ DX xs a l ∧ DX xs a l ≤ 1048576 := DV_b _ _ _
theorem bstG_congr {xs : List Task} {V W : Nat → Nat → Int} {a l : Nat} : ∀ (k : Nat), (∀ j, j < k → canB (nbD xs j) a j = true → V (a ||| 2 ^ j) j = W (a ||| 2 ^ j) j) → bstG xs V a l k = bstG xs W a l k
 | 0, _ => rfl
 | k + 1, h => by
   have h1 := bstG_congr (l := l) k fun j hj => h j (by omega)
   unfold bstG
   rw [h1]
   split
   · rename_i h2; rw [h k (by omega) h2]
   · rfl
/-- A bit that can be set is not set. -/
theorem can_bit {nb a k : Nat} (h : canB nb a k = true) : a.testBit k = false := by
 unfold canB at h
 rw [Bool.and_eq_true, decide_eq_true_eq] at h
 have h1 : (a / 2 ^ k) &&& 1 = 0 := by exact_mod_cast h.1
 rw [Nat.testBit, Nat.shiftRight_eq_div_pow, Nat.and_comm, h1]; rfl
theorem DV_fuel {xs : List Task} : ∀ (g a l f f' : Nat), a < 2 ^ xs.length → 2 ^ xs.length - 1 - a ≤ g → g ≤ f → g ≤ f' → DV xs f a l = DV xs f' a l := by
 intro g
 induction g with
 | zero =>
   intro a l f f' ha hg _ _
   have h0 : ∀ f, DV xs f a l = 0 := fun f => by
     cases f with
     | zero => rfl
     | succ f => unfold DV; rw [if_pos (by omega)]
   rw [h0, h0]
 | succ g ih =>
   intro a l f f' ha hg hf hf'
   obtain ⟨f, rfl⟩ : ∃ f0, f = f0 + 1 := ⟨f - 1, by omega⟩
   obtain ⟨f', rfl⟩ : ∃ f0, f' = f0 + 1 := ⟨f' - 1, by omega⟩
   unfold DV
   split
   · rfl
   · refine bstG_congr _ fun j hj hc => ih _ _ _ _ (or_lt ha hj) ?_ (by omega) (by omega)
     have := or_gt (can_bit hc)
     omega
theorem DX_eq {xs : List Task} {a l : Nat} (ha : a < 2 ^ xs.length) : DX xs a l = if 2 ^ xs.length - 1 ≤ a then 0 else bstG xs (DX xs) a l xs.length := by
 have h0 : 2 ^ xs.length = (2 ^ xs.length - 1) + 1 := by omega
 have h1 : DX xs a l = DV xs ((2 ^ xs.length - 1) + 1) a l := by rw [← h0]; rfl
 rw [h1]
 show (if 2 ^ xs.length - 1 ≤ a then 0 else bstG xs (DV xs (2 ^ xs.length - 1)) a l xs.length) = _
 split
 · rfl
 · refine bstG_congr _ fun j hj hc => ?_
   have := or_gt (can_bit hc)
   exact DV_fuel (2 ^ xs.length - 1 - (a ||| 2 ^ j)) _ _ _ _ (or_lt ha hj) (Nat.le_refl _) (by omega) (by omega)

/-! ### The table -/
theorem idx_lt {a l n m : Nat} (ha : a < m) (hl : l < n) : a * n + l < m * max n 1 := by
 have h1 : (a + 1) * n ≤ m * n := Nat.mul_le_mul_right _ ha
 rw [Nat.add_mul, Nat.one_mul] at h1
 rw [show max n 1 = n by omega]; omega
theorem idx_inj {a b l k n : Nat} (hl : l < n) (hk : k < n) (h : a * n + l = b * n + k) : a = b ∧ l = k := by
 have h1 : (a * n + l) / n = a := by rw [Nat.mul_comm, Nat.mul_add_div (by omega), Nat.div_eq_of_lt hl, Nat.add_zero]
 have h2 : (b * n + k) / n = b := by rw [Nat.mul_comm, Nat.mul_add_div (by omega), Nat.div_eq_of_lt hk, Nat.add_zero]
 have h3 : a = b := by rw [← h1, h, h2]
 subst h3
 exact ⟨rfl, by omega⟩
structure RI (xs : List Task) (r : List Int) (z : Int) : Prop where
 len : r.length = 2 ^ xs.length * max xs.length 1
 val : ∀ a l : Nat, z < (a : Int) → a < 2 ^ xs.length → l < xs.length → at0 r (a * xs.length + l) = DX xs a l
structure RM (xs : List Task) (r : List Int) (z : Int) (k : Nat) : Prop where
 ri : RI xs r z
 row : ∀ l : Nat, l < k → at0 r (z.toNat * xs.length + l) = DX xs z.toNat l
theorem RI.start {xs : List Task} : RI xs (List.replicate (2 ^ xs.length * max xs.length 1) 0) (((2 ^ xs.length - 1 : Nat) : Int) - 1) := by
 refine ⟨List.length_replicate, fun a l h1 h2 h3 => ?_⟩
 rw [DX_eq h2, if_pos (by omega)]
 simp only [at0, List.getD_eq_getElem?_getD, List.getElem?_replicate]
 split <;> rfl
theorem RI.mid {xs : List Task} {r : List Int} {z : Int} (h : RI xs r z) : RM xs r z 0 := ⟨h, fun l hl => absurd hl (Nat.not_lt_zero _)⟩
theorem RM.step {xs : List Task} {r : List Int} {z v : Int} {k : Nat} (h : RM xs r z k) (hz : 0 ≤ z ∧ z < ((2 ^ xs.length - 1 : Nat) : Int)) (hk : k < xs.length) (hv : v = bstG xs (DX xs) z.toNat k xs.length) : RM xs (r.set (z.toNat * xs.length + k) v) z (k + 1) := by
 have hl : z.toNat * xs.length + k < r.length := by rw [h.ri.len]; exact idx_lt (by omega) hk
 refine ⟨⟨by rw [List.length_set]; exact h.ri.len, fun a l h1 h2 h3 => ?_⟩, fun l h1 => ?_⟩
 · rw [at0_set hl, if_neg fun e => by have := (idx_inj hk h3 e).1; omega]
   exact h.ri.val a l h1 h2 h3
 · rw [at0_set hl]
   split
   · rename_i e
     have := (idx_inj hk (by omega) e).2
     subst this
     rw [hv, DX_eq (by omega), if_neg (by omega)]
   · rename_i e
     exact h.row l (by
       have : l ≠ k := fun q => e (by rw [q])
       omega)
theorem RM.stop {xs : List Task} {r : List Int} {z : Int} {k : Nat} (h : RM xs r z k) (hz : 0 ≤ z) (hk : xs.length ≤ k) : RI xs r (z - 1) := by
 refine ⟨h.ri.len, fun a l h1 h2 h3 => ?_⟩
 by_cases e : z.toNat = a
 · subst e; exact h.row l (by omega)
 · exact h.ri.val a l (by omega) h2 h3

/-! ### A ready task, always -/
theorem ordF_at {nd : List (List Int)} : ∀ (f : Nat) {D : List Int}, OrdAt nd D → OrdAt nd (ordF nd f D)
 | 0, D, h => h
 | f + 1, D, h => by
   unfold ordF
   cases e : leastR nd D with
   | none => exact h
   | some i =>
     rw [leastR, List.find?_range_eq_some] at e
     obtain ⟨h1, h2, h3⟩ := e
     refine ordF_at f (h.step (List.mem_range.1 h2) h1 fun j hj hr => ?_)
     rcases Nat.lt_or_ge j i with h4 | h4
     · have h5 := h3 j h4; rw [hr] at h5; cases h5
     · exact h4
theorem ordF_in {nd : List (List Int)} {A : Int → Prop} (hA : ∀ i : Nat, i < nd.length → ¬ A i → ∃ z ∈ nd_ nd i, ¬ A z) : ∀ (f : Nat) {D : List Int}, (∀ x ∈ D, A x) → ∀ x ∈ ordF nd f D, A x
 | 0, D, h => h
 | f + 1, D, h => by
   unfold ordF
   cases e : leastR nd D with
   | none => exact h
   | some i =>
     refine ordF_in hA f fun x hx => ?_
     rcases List.mem_append.1 hx with h1 | h1
     · exact h x h1
     · have h1 := List.mem_singleton.1 h1
       subst h1
       rw [leastR, List.find?_range_eq_some] at e
       obtain ⟨h2, h3, _⟩ := e
       have h4 := rdyB_iff.1 h2
       refine Classical.byContradiction fun hn => ?_
       obtain ⟨z, hz, hz2⟩ := hA i (List.mem_range.1 h3) hn
       exact hz2 (h z (h4.2 z hz))
theorem ord_all {nd : List (List Int)} (h : ¬ (ordR nd).length < nd.length) {i : Nat} (hi : i < nd.length) : (i : Int) ∈ ordR nd := by
 have h1 := (ordF_at (nd := nd) nd.length .nil).len
 have h2 : leftR nd (ordR nd) = 0 := by
   have : (ordR nd).length + leftR nd (ordR nd) = nd.length := h1
   omega
 have h3 := List.eq_nil_of_length_eq_zero h2
 rw [List.filter_eq_nil_iff] at h3
 have := h3 i (List.mem_range.2 hi)
 simpa using this
theorem planE_len {xs : List Task} (h : planE xs = 0) : ¬ (ordR (ndX xs)).length < (ndX xs).length := by
 rw [ndX_len]
 unfold planE at h
 split at h
 · cases h
 · split at h
   · rename_i h1; exact absurd h h1
   · split at h
     · cases h
     · assumption
theorem task_ok {xs : List Task} (h : planE xs = 0) {k : Nat} {t : Task} (ht : xs[k]? = some t) : rngT t ∧ isNm t.name = true ∧ isNm t.trade = true ∧ (∀ z ∈ t.needs, 0 ≤ z ∧ z < xs.length) ∧ ascB t.needs = true :=
 task_needs (by have := tasks_ok (planE_ok h) k t ht; rw [Nat.zero_add] at this; exact this)
theorem nbD_eq {xs : List Task} {k : Nat} {t : Task} (ht : xs[k]? = some t) : nbD xs k = bitsP t.needs t.needs.length := by
 simp [nbD, bitsL, List.getD_eq_getElem?_getD, List.getElem?_map, ht]
theorem nbD_can {xs : List Task} (h : planE xs = 0) (hn : xs.length ≤ 14) {a k : Nat} (ha : a < 4611686018427387904) {t : Task} (ht : xs[k]? = some t) : canB (nbD xs k) a k = true ↔ a.testBit k = false ∧ ∀ z ∈ t.needs, a.testBit z.toNat = true := by
 rw [nbD_eq ht]
 exact can_iff ha fun z hz => by have := (task_ok h ht).2.2.2.1 z hz; omega
theorem nbD_lt {xs : List Task} (h : planE xs = 0) (hn : xs.length ≤ 14) (k : Nat) : nbD xs k < 4611686018427387904 := by
 cases hx : xs[k]? with
 | none =>
   have : nbD xs k = 0 := by simp [nbD, bitsL, List.getD_eq_getElem?_getD, List.getElem?_map, hx]
   omega
 | some t =>
   rw [nbD_eq hx]
   exact Nat.lt_of_lt_of_le (bitsP_lt (n := 14) fun z hz => by have := (task_ok h hx).2.2.2.1 z hz; omega) (by decide)
theorem can_some {xs : List Task} (h : planE xs = 0) (hn : xs.length ≤ 14) {a i : Nat} (ha : a < 4611686018427387904) (hi : i < xs.length) (hb : a.testBit i = false) : ∃ k, k < xs.length ∧ canB (nbD xs k) a k = true := by
 refine Classical.byContradiction fun hno => ?_
 have h1 := ordF_in (nd := ndX xs) (A := fun x => a.testBit x.toNat = true) (fun j hj hnj => by
   rw [ndX_len] at hj
   obtain ⟨t, ht⟩ : ∃ t, xs[j]? = some t := ⟨_, List.getElem?_eq_getElem hj⟩
   refine Classical.byContradiction fun hq => hno ⟨j, hj, (nbD_can h hn ha ht).2 ⟨by simpa using hnj, fun z hz => ?_⟩⟩
   refine Classical.byContradiction fun hz2 => hq ⟨z, by rw [ndX_at ht]; exact hz, hz2⟩) (ndX xs).length (D := []) (fun x hx => by cases hx)
 have h2 := h1 _ (ord_all (planE_len h) (by rw [ndX_len]; exact hi))
 rw [Int.toNat_natCast, hb] at h2
 cases h2

/-! ### The way -/
def nxtG (xs : List Task) (a : Nat) (l : Int) : Nat → Int × Int
 | 0 => (-1, 1048576)
 | k + 1 => if canB (nbD xs k) a k = true then (if (nxtG xs a l k).1 < 0 ∨ mvF xs l k + DX xs (a ||| 2 ^ k) k < (nxtG xs a l k).2 then ((k : Int), mvF xs l k + DX xs (a ||| 2 ^ k) k) else nxtG xs a l k) else nxtG xs a l k
def nxtX (xs : List Task) (a : Nat) (l : Int) : Int := (nxtG xs a l xs.length).1
structure Way where
 a : Nat
 l : Int
 out : List Int
 sum : Int
def grdF (xs : List Task) : Nat → Way
 | 0 => ⟨0, -1, [], 0⟩
 | i + 1 => ⟨(grdF xs i).a ||| 2 ^ (nxtX xs (grdF xs i).a (grdF xs i).l).toNat, nxtX xs (grdF xs i).a (grdF xs i).l, (grdF xs i).out ++ [nxtX xs (grdF xs i).a (grdF xs i).l], (grdF xs i).sum + mvF xs (grdF xs i).l (nxtX xs (grdF xs i).a (grdF xs i).l)⟩
theorem nxtG_rng {xs : List Task} {a : Nat} {l : Int} : ∀ k : Nat, (nxtG xs a l k).1 = -1 ∧ (∀ j, j < k → canB (nbD xs j) a j = false) ∨ ∃ j : Nat, (nxtG xs a l k).1 = (j : Int) ∧ j < k ∧ canB (nbD xs j) a j = true
 | 0 => .inl ⟨rfl, fun j hj => absurd hj (Nat.not_lt_zero _)⟩
 | k + 1 => by
   have ih := nxtG_rng (xs := xs) (a := a) (l := l) k
   unfold nxtG
   split
   · rename_i hc
     split
     · exact .inr ⟨k, rfl, Nat.lt_succ_self _, hc⟩
     · rename_i hn
       rcases ih with ⟨h1, _⟩ | ⟨j, h1, h2, h3⟩
       · exact absurd (.inl (by omega)) hn
       · exact .inr ⟨j, h1, by omega, h3⟩
   · rename_i hc
     rcases ih with ⟨h1, h2⟩ | ⟨j, h1, h2, h3⟩
     · refine .inl ⟨h1, fun j hj => ?_⟩
       rcases Nat.lt_succ_iff_lt_or_eq.1 hj with h4 | rfl
       · exact h2 j h4
       · simpa using hc
     · exact .inr ⟨j, h1, by omega, h3⟩
theorem nxtG_b {xs : List Task} {a : Nat} {l : Int} : ∀ k : Nat, 0 ≤ (nxtG xs a l k).2 ∧ (nxtG xs a l k).2 ≤ 1048577
 | 0 => by unfold nxtG; omega
 | k + 1 => by
   have ih := nxtG_b (xs := xs) (a := a) (l := l) k
   have h1 := mvF_b (xs := xs) (l := l) (k := k)
   have h2 := DX_b (xs := xs) (a := a ||| 2 ^ k) (l := k)
   unfold nxtG
   split
   · split
     · simp only; omega
     · exact ih
   · exact ih
def popN (n a : Nat) : Nat := ((List.range n).filter fun k => a.testBit k).length
theorem popN_step {n a k : Nat} (hk : k < n) (hb : a.testBit k = false) : popN n (a ||| 2 ^ k) = popN n a + 1 := by
 rw [popN, filter_less (i := k) List.nodup_range (List.mem_range.2 hk) (by rw [Nat.testBit_or, Nat.testBit_two_pow_self, Bool.or_true]), popN]
 congr 2
 refine List.filter_congr fun j _ => ?_
 rw [Nat.testBit_or, Nat.testBit_two_pow]
 by_cases e : k = j
 · subst e; simp [hb]
 · have : j ≠ k := fun q => e q.symm
   simp [e, this]
theorem popN_bit {n a : Nat} (h : popN n a < n) : ∃ i, i < n ∧ a.testBit i = false := by
 refine Classical.byContradiction fun hno => ?_
 have : (List.range n).filter (fun k => a.testBit k) = List.range n := List.filter_eq_self.2 fun k hk => by
   cases e : a.testBit k with
   | true => rfl
   | false => exact absurd ⟨k, List.mem_range.1 hk, e⟩ hno
 rw [popN, this, List.length_range] at h
 omega
/-- Each round of the way finds a next task. -/
theorem grd_step {xs : List Task} (h : planE xs = 0) (hn : xs.length ≤ 14) : ∀ (i : Nat), i ≤ xs.length → (grdF xs i).a < 2 ^ xs.length ∧ popN xs.length (grdF xs i).a = i ∧ (-1 ≤ (grdF xs i).l ∧ (grdF xs i).l < xs.length) ∧ (0 ≤ (grdF xs i).sum ∧ (grdF xs i).sum ≤ i) ∧ (grdF xs i).out.length = i ∧
   (i < xs.length → ∃ j : Nat, nxtX xs (grdF xs i).a (grdF xs i).l = (j : Int) ∧ j < xs.length ∧ canB (nbD xs j) (grdF xs i).a j = true) := by
 have hnx : ∀ i, i ≤ xs.length → (grdF xs i).a < 2 ^ xs.length → popN xs.length (grdF xs i).a = i → i < xs.length → ∃ j : Nat, nxtX xs (grdF xs i).a (grdF xs i).l = (j : Int) ∧ j < xs.length ∧ canB (nbD xs j) (grdF xs i).a j = true := fun i hi h1 h2 h3 => by
   have h62 : (2 : Nat) ^ xs.length < 4611686018427387904 := two_lt (by omega)
   obtain ⟨b, hb, hb2⟩ := popN_bit (n := xs.length) (a := (grdF xs i).a) (by omega)
   obtain ⟨k, hk, hk2⟩ := can_some h hn (Nat.lt_trans h1 h62) hb hb2
   rcases nxtG_rng (xs := xs) (a := (grdF xs i).a) (l := (grdF xs i).l) xs.length with ⟨_, h4⟩ | h4
   · rw [h4 k hk] at hk2; cases hk2
   · exact h4
 intro i
 induction i with
 | zero =>
   intro _
   have h0 : popN xs.length 0 = 0 := by
     rw [popN, List.filter_eq_nil_iff.2 (fun k _ => by simp)]; rfl
   refine ⟨Nat.pow_pos (by decide), h0, by simp only [grdF]; omega, by simp [grdF], rfl, ?_⟩
   exact hnx 0 (by omega) (Nat.pow_pos (by decide)) h0
 | succ i ih =>
   intro hi
   obtain ⟨h1, h2, h3, h4, h5, h6⟩ := ih (by omega)
   obtain ⟨j, h7, h8, h9⟩ := h6 (by omega)
   have hm := mvF_b (xs := xs) (l := (grdF xs i).l) (k := nxtX xs (grdF xs i).a (grdF xs i).l)
   have e1 : (grdF xs (i + 1)).a < 2 ^ xs.length := by
     simp only [grdF]; rw [h7, Int.toNat_natCast]; exact or_lt h1 h8
   have e2 : popN xs.length (grdF xs (i + 1)).a = i + 1 := by
     simp only [grdF]; rw [h7, Int.toNat_natCast, popN_step h8 (can_bit h9), h2]
   refine ⟨e1, e2, by simp only [grdF]; rw [h7]; omega, ?_, by simp only [grdF, List.length_append, h5]; rfl, hnx (i + 1) hi e1 e2⟩
   simp only [grdF]; omega
/-- What Fewest hands back. -/
def fewR (xs : List Task) : List Int × Int × Int := if smallE xs ≠ 0 then ([], 0, smallE xs) else ((grdF xs xs.length).out, (grdF xs xs.length).sum, 0)
end Go.Proofs.Ytjmjiegplnfiiaa

/- Fewest: the first order with the fewest handlings. No conditions. -/
set_option linter.unusedSimpArgs false
set_option linter.unusedVariables false
set_option maxRecDepth 100000
namespace Go.Proofs.Ytjmjiegplnfiiaa
open Go Go.Pv
theorem inn_sets {h : Heap} {d : Nat} {w : PV} {xs : List Task} {nb : List Nat} (hs : SliceAt h d w 1 (nb.map cN)) : Inn h (.agg [.lit true 6 (xs.map Task.enc), w]) (.agg (Sets.enc ⟨xs, nb⟩)) := by
 refine .agg rfl fun i p q h1 h2 => ?_
 match i with
 | 0 => cases h1; cases h2; exact .pure (.lit _ _ _ fun row hr => pure_map Task.pure row hr)
 | 1 =>
   cases h1; cases h2
   rcases hs with ⟨h1, rfl⟩ | ⟨g, rfl, hg⟩
   · rw [h1]; exact .nil _ _
   · exact .ref hg (by omega) (by rw [List.drop_zero, List.take_length]) fun row hr => pure_map cN_pure row hr
 | i + 2 => simp [Sets.enc] at h2
theorem bitsL_len {xs : List Task} : (bitsL xs).length = xs.length := List.length_map _
theorem fullD {xs : List Task} (hn : xs.length ≤ 14) : PCalls Try.prog 63 [.agg (Sets.enc ⟨xs, bitsL xs⟩)] (.sc (.int .u64 ((2 ^ xs.length - 1 : Nat) : Int))) := fullC ⟨xs, bitsL xs⟩ (by show xs.length < 62; omega)
theorem canD {xs : List Task} {a k : Nat} (hp : planE xs = 0) (hn : xs.length ≤ 14) (hk : k < xs.length) (ha : a < 2 ^ xs.length) : PCalls Try.prog 64 [.agg (Sets.enc ⟨xs, bitsL xs⟩), .sc (.int .u64 (a : Int)), .int (k : Int)] (.bool (canB (nbD xs k) a k)) :=
 canC ⟨xs, bitsL xs⟩ a k (by show k < (bitsL xs).length; rw [bitsL_len]; exact hk) (by omega) (Nat.lt_trans ha (two_lt (by omega))) (nbD_lt hp hn k)
theorem movesD {xs : List Task} {l k : Int} (hl : -1 ≤ l ∧ l < xs.length) (hk : 0 ≤ k ∧ k < xs.length) : PCalls Try.prog 65 [.agg (Sets.enc ⟨xs, bitsL xs⟩), .int l, .int k] (.int (mvF xs l k)) := movesC ⟨xs, bitsL xs⟩ l k hl hk
theorem small0 {xs : List Task} (h : smallE xs = 0) : planE xs = 0 ∧ ¬ 14 < xs.length := by
 unfold smallE at h
 split at h
 · rename_i h1; exact absurd h h1
 · rename_i h1
   split at h
   · cases h
   · exact ⟨Decidable.not_not.1 h1, by assumption⟩
theorem pow_le6 {n : Nat} (h : n ≤ 8) : 1 ≤ 2 ^ n ∧ 2 ^ n ≤ 256 := ⟨Nat.pow_pos (by decide), Nat.pow_le_pow_right (n := 2) (by decide) h⟩
section
variable {P : Program} {ρ : Operand → PV} {h : Heap} {key : Key} {x y : Operand} {t t' : TypeId}
theorem e_cvU {z : Int} {a : Nat} (hx : ρ x = .int z) (hk : intKind P t' = some .u64) (hs : (P.underlying t).isSome = true) (hz : z = (a : Int)) (ha : a < 4611686018427387904) : eff P ρ h key (.convert t t' x) = ⟨True, .sc (.int .u64 (a : Int)), [], [], false⟩ := by
 subst hz
 exact e_conv hx hk hs (by rw [IntKind.wrap_u64]; omega)
end
theorem rest_ix {A n j : Nat} {N : Int} (hN : N = (n : Int)) : ((A : Int) * N + (j : Int)).toNat = A * n + j ∧ (A : Int) * N + (j : Int) = ((A * n + j : Nat) : Int) := by
 subst hN
 have : (A : Int) * (n : Int) + (j : Int) = ((A * n + j : Nat) : Int) := by simp
 exact ⟨by rw [this]; rfl, this⟩
theorem rest_el {r : List Int} {A n j : Nat} {v N : Int} (hN : N = (n : Int)) (hlt : A * n + j < r.length) (hv : at0 r (A * n + j) = v) : r[((A : Int) * N + (j : Int)).toNat]? = some v := by
 rw [(rest_ix hN).1, at0_get hlt, hv]
theorem bst_t {xs : List Task} {a l j : Nat} {b : Int} (hb : b = bstG xs (DX xs) a l j) (hc : canB (nbD xs j) a j = true) : min b (mvF xs l j + DX xs (a ||| 2 ^ j) j) = bstG xs (DX xs) a l (j + 1) := by
 rw [bstG, if_pos hc, hb]
theorem bst_f {xs : List Task} {a l j : Nat} {b : Int} (hb : b = bstG xs (DX xs) a l j) (hc : canB (nbD xs j) a j = false) : b = bstG xs (DX xs) a l (j + 1) := by
 rw [bstG, if_neg (by rw [hc]; decide), hb]
theorem nxt_t {xs : List Task} {a j : Nat} {l nx b : Int} (hb : nx = (nxtG xs a l j).1 ∧ b = (nxtG xs a l j).2) (hc : canB (nbD xs j) a j = true) (h : nx < 0 ∨ mvF xs l j + DX xs (a ||| 2 ^ j) j < b) : (j : Int) = (nxtG xs a l (j + 1)).1 ∧ mvF xs l j + DX xs (a ||| 2 ^ j) j = (nxtG xs a l (j + 1)).2 := by
 rw [hb.1, hb.2] at h
 rw [nxtG, if_pos hc, if_pos h]; exact ⟨rfl, rfl⟩
theorem nxt_n {xs : List Task} {a j : Nat} {l nx b : Int} (hb : nx = (nxtG xs a l j).1 ∧ b = (nxtG xs a l j).2) (hc : canB (nbD xs j) a j = true) (h : ¬ (nx < 0 ∨ mvF xs l j + DX xs (a ||| 2 ^ j) j < b)) : nx = (nxtG xs a l (j + 1)).1 ∧ b = (nxtG xs a l (j + 1)).2 := by
 rw [hb.1, hb.2] at h
 rw [nxtG, if_pos hc, if_neg h]; exact hb
theorem nxt_f {xs : List Task} {a j : Nat} {l nx b : Int} (hb : nx = (nxtG xs a l j).1 ∧ b = (nxtG xs a l j).2) (hc : canB (nbD xs j) a j = false) : nx = (nxtG xs a l (j + 1)).1 ∧ b = (nxtG xs a l (j + 1)).2 := by
 rw [nxtG, if_neg (by rw [hc]; decide)]; exact hb
theorem few_out0 {h : Heap} {xs : List Task} (hs : smallE xs ≠ 0) : Out h (.tup [.nil, .int 0, .int (smallE xs)]) (.tup [.lit false 1 ((fewR xs).1.map ci), .int (fewR xs).2.1, .int (fewR xs).2.2]) := by
 rw [fewR, if_pos hs]; exact out_3 (.nil 1) (out_i rfl) (out_i rfl)
theorem few_out {h : Heap} {xs : List Task} {d : Nat} {v : PV} {i : Nat} (hs : smallE xs = 0) (hi : i = xs.length) (hv : SliceAt h d v 1 ((grdF xs i).out.map ci)) : Out h (.tup [v, .int (grdF xs i).sum, .int 0]) (.tup [.lit false 1 ((fewR xs).1.map ci), .int (fewR xs).2.1, .int (fewR xs).2.2]) := by
 subst hi
 rw [fewR, if_neg (fun q => q hs)]
 exact out_3 (out_slice hv rfl (fun _ => rfl) fun a p hp => by simp [ci] at hp; subst hp; exact ⟨.sc _, rfl⟩) (out_i rfl) (out_i rfl)
theorem mk_eq {xs : List Task} (h : 1 ≤ 2 ^ xs.length ∧ 2 ^ xs.length ≤ 256) : (((2 ^ xs.length - 1 : Nat) : Int) + 1) * max ((((xs.map Task.enc).length : Nat)) : Int) 1 = ((2 ^ xs.length * max xs.length 1 : Nat) : Int) := by
 have h1 : ((2 ^ xs.length - 1 : Nat) : Int) + 1 = ((2 ^ xs.length : Nat) : Int) := by omega
 have h2 : max ((((xs.map Task.enc).length : Nat)) : Int) 1 = ((max xs.length 1 : Nat) : Int) := by simp only [List.length_map]; omega
 rw [h1, h2]; simp
theorem mk_le {n : Nat} (h : n ≤ 8) : 2 ^ n * max n 1 ≤ 256 * 8 := Nat.mul_le_mul (pow_le6 h).2 (by omega)
theorem zN {z : Int} {n : Nat} {N : Int} (hz : 0 ≤ z) (hN : N = (n : Int)) : z * N = ((z.toNat * n : Nat) : Int) := by
 subst hN
 rw [Int.natCast_mul, Int.toNat_of_nonneg hz]
theorem st_ix {z : Int} {n k : Nat} {N : Int} (hz : 0 ≤ z) (hN : N = (n : Int)) : (z * N + (k : Int)).toNat = z.toNat * n + k ∧ z * N + (k : Int) = ((z.toNat * n + k : Nat) : Int) := by
 have h1 := zN hz hN
 rw [h1]; exact ⟨by omega, by omega⟩

theorem fr16 : (inFrame Try.f16.ntmps (Try.f16.body.getD .skip) && Try.f16.results.toList.all (resScope Try.f16.ntmps)) = true := by kernel_rfl
theorem FewestC (xs : List Task) (hl : xs.length ≤ 10000) (hq : Fair xs) (h6 : xs.length ≤ 8 ∨ 14 < xs.length) : PCalls Try.prog 16 [.lit true 6 (xs.map Task.enc)] (.tup [.lit false 1 ((fewR xs).1.map ci), .int (fewR xs).2.1, .int (fewR xs).2.2]) := by
 refine PCalls.of_code Try.func16 rfl rfl (by kernel_rfl) mixed fr16 (by show _ ≤ 145; simp) (pure_3 (.lit _ _ _ fun row hr => pure_map ci_pure row hr) (.sc _) (.sc _)) (pwp_seq_plain rfl fun K1 hK1 => p_e rfl (e_assign (v := .nil) rfl) (p_aS rfl (p_aS rfl (p_end (hK1 _ ?_))))); clear hK1 K1
 refine pwp_seq_plain rfl fun K2 hK2 => p_e rfl (e_move (v := .lit _ _ _) rfl) (p_hcall rfl (smallC xs hl hq) fun v1 h1 c1 hR1 => ?_)
 obtain ⟨T, w, rfl, ⟨hTc, hwc⟩, hTw⟩ := hR1
 refine p_e rfl (e_move (v := .tup _) rfl) (p_e rfl (e_ext (v := .agg _) rfl (by simp) rfl) (p_e rfl (e_ext (v := .sc _) rfl (by simp) rfl) (p_new rfl (e_alloc (cs := [.nil, .nil]) (n := 2) (by kernel_rfl) rfl (by decide)) (ob_alloc (by decide)) (p_store rfl (e_storeA rfl (hset_self _ _ _) rfl rfl rfl (by kernel_rfl) (by simp only [List.all_cons, List.all_nil, Bool.and_true, hTc, hwc]) (by kernel_rfl)) trivial (p_aS rfl (p_end (hK2 _ ?_))))))); clear hK2 K2
 refine pwp_seq_seq (pwp_seq_plain rfl fun K3 hK3 => p_mS rfl (p_e rfl (e_ne rfl rfl) (p_end (hK3 _ ?_)))); clear hK3 K3
 refine pwp_seq_cond rfl fun K4 hK4 => ⟨fun hb5 => ?_, fun hb5 => ?_⟩
 ·have hb5R := hb5; try simp only [zz] at hb5
  refine pwp_seq_plain rfl fun K6 hK6 => p_mS rfl (p_e rfl (e_assign (v := .nil) rfl) (p_aS rfl (p_aS rfl (p_end (hK6 _ ?_))))); clear hK6 K6
  refine pwp_ret (ret_seq (end3 (v := .nil) (w := .sc _) (x := .sc _) rfl rfl rfl ?_))
  exact few_out0 (by assumption)
 have hb5R := hb5; try simp only [zz] at hb5
 refine pwp_skip (seq_norm (hK4 _ ?_)); clear hK4 K4
 have hs0 : smallE xs = 0 := by assumption
 obtain ⟨rfl, hw⟩ := hTw hs0
 obtain ⟨hpl, hn14⟩ := small0 hs0
 have hn6 : xs.length ≤ 8 := by omega
 have hp2 := pow_le6 hn6
 refine pwp_seq_plain rfl fun K7 hK7 => p_e rfl (e_move (v := .lit _ _ _) rfl) (p_e rfl (e_len rfl (by kernel_rfl)) (p_aS rfl (p_end (hK7 _ ?_)))); clear hK7 K7
 refine pwp_seq_plain rfl fun K8 hK8 => p_e rfl (e_loadHA (n := 2) (cs := [.lit true 6 (xs.map Task.enc), w]) rfl (hset_self _ _ _) (by kernel_rfl) (by kernel_rfl) (by kernel_rfl) (by exact Nat.zero_lt_one) (by decide) rfl) (p_call rfl (.cons (inn_sets (hw.keep fun _ => (hset_ne (key_ne rfl)).trans ((hset_ne (key_ne rfl)).trans (rfl)))) .nil) (fullD (by omega)) (p_e rfl (e_conv rfl (by kernel_rfl) (by kernel_rfl) (by exact wrap64 (by omega) (by omega))) (p_e rfl (e_adL rfl rfl) (p_mS rfl (p_e rfl (e_max rfl rfl) (p_e rfl (e_mul rfl rfl (by rw [mk_eq hp2]; have := mk_le hn6; omega)) ?_))))))
 refine p_new rfl (e_mkI (n := 2 ^ xs.length * max xs.length 1) rfl rfl (mk_eq hp2) (by kernel_rfl) (by kernel_rfl) (by kernel_rfl) (by decide +kernel) (by have := mk_le hn6; omega)) trivial (p_e rfl (e_assign (v := .ref _ _ _ _) rfl) (p_end (hK8 _ ?_))); clear hK8 K8
 refine pwp_seq_seq (pwp_seq_plain rfl fun K9 hK9 => p_e rfl (e_loadHA (n := 2) (cs := [.lit true 6 (xs.map Task.enc), w]) rfl ((hset_ne (key_ne rfl)).trans (hset_self _ _ _)) (by kernel_rfl) (by kernel_rfl) (by kernel_rfl) (by exact Nat.zero_lt_one) (by decide) rfl) (p_call rfl (.cons (inn_sets (hw.keep fun _ => (hset_ne (key_ne rfl)).trans ((hset_ne (key_ne rfl)).trans ((hset_ne (key_ne rfl)).trans (rfl))))) .nil) (fullD (by omega)) (p_e rfl (e_conv rfl (by kernel_rfl) (by kernel_rfl) (by exact wrap64 (by omega) (by omega))) (p_e rfl (e_sub rfl rfl (by first | omega | (simp only [List.length_map] at *; omega))) (p_aS rfl (p_end (hK9 _ ?_))))))); clear hK9 K9
 refine pwp_seq_block fun K10 hK10 => pwp_loopR (α := Int × (List Int)) [5, 7, 8] (fun (a11 : Int × (List Int)) => [(9, .int (a11.1))]) (fun (a11 : Int × (List Int)) (h : Heap) (_ : Nat → Nat) => (-1 ≤ (a11.1) ∧ (a11.1) < ((2 ^ xs.length - 1 : Nat) : Int)) ∧ (RI xs (a11.2) (a11.1)) ∧ (SliceAt h 45 w 1 ((bitsL xs).map cN)) ∧ (h (5, c1 5) = some (.rows 2 [[.lit true 6 (xs.map Task.enc), w]])) ∧ (h (38, c1 38) = some (.rows 1 ((a11.2).map ci)))) (fun (a11 : Int × (List Int)) => ((a11.1) + 1).toNat) (((2 ^ xs.length - 1 : Nat) : Int) - 1, _) (by exact ⟨rfl, trivial⟩) (by exact ⟨by omega, by exact RI.start, (SliceAt.to (hw.keep fun _ => (hset_ne (key_ne rfl)).trans ((hset_ne (key_ne rfl)).trans ((hset_ne (key_ne rfl)).trans (rfl)))) (by first | rfl | (simp only [List.map_append, List.map_cons, List.map_nil] <;> rfl))), ((hset_ne (key_ne rfl)).trans (hset_self _ _ _)), (hset_self _ _ _)⟩) fun a11 r12 h13 c14 hj15 => ?_
 obtain ⟨z, r⟩ := a11
 obtain ⟨hz, hri, hihj15_0, hihj15_1, hihj15_2⟩ := hj15
 try dsimp only at hz
 try dsimp only at hri
 try dsimp only at hihj15_0
 try dsimp only at hihj15_1
 try dsimp only at hihj15_2
 show pwp _ _ (loopQ _ _ _) ⟨sets (mix _ _ _) [(9, .int z)], _, _⟩
 refine pwp_seq_seq (pwp_seq_plain rfl fun K16 hK16 => p_mS rfl (p_e rfl (e_ge rfl rfl) (p_end (hK16 _ ?_)))); clear hK16 K16
 refine pwp_seq_cond rfl fun K17 hK17 => ⟨fun hb18 => ?_, fun hb18 => ?_⟩
 ·have hb18R := hb18; try simp only [zz] at hb18
  refine pwp_skip (seq_norm (hK17 _ ?_)); clear hK17 K17
  refine pwp_seq_block fun K19 hK19 => pwp_seq_plain rfl fun K20 hK20 => p_mS rfl (p_mS rfl (p_end (hK20 _ ?_))); clear hK20 K20
  refine pwp_block (pwp_loopR (α := Nat × (List Int)) [5, 7, 8, 9, 47] (fun (a21 : Nat × (List Int)) => [(48, .int (a21.1))]) (fun (a21 : Nat × (List Int)) (h : Heap) (_ : Nat → Nat) => ((a21.1) ≤ xs.length) ∧ (RM xs (a21.2) z (a21.1)) ∧ (SliceAt h 45 w 1 ((bitsL xs).map cN)) ∧ (h (5, c1 5) = some (.rows 2 [[.lit true 6 (xs.map Task.enc), w]])) ∧ (h (38, c1 38) = some (.rows 1 ((a21.2).map ci)))) (fun (a21 : Nat × (List Int)) => xs.length - (a21.1)) (0, _) (by exact ⟨rfl, trivial⟩) (by exact ⟨by exact Nat.zero_le _, by exact hri.mid, (SliceAt.to hihj15_0 (by first | rfl | (simp only [List.map_append, List.map_cons, List.map_nil] <;> rfl))), hihj15_1, hihj15_2⟩) fun a21 r22 h23 c24 hj25 => ?_)
  obtain ⟨k, r⟩ := a21
  obtain ⟨hk, hrm, hihj25_0, hihj25_1, hihj25_2⟩ := hj25
  try dsimp only at hk
  try dsimp only at hrm
  try dsimp only at hihj25_0
  try dsimp only at hihj25_1
  try dsimp only at hihj25_2
  show pwp _ _ (loopQ _ _ _) ⟨sets (mix _ _ _) [(48, .int k)], _, _⟩
  refine pwp_seq_plain rfl fun K26 hK26 => p_e rfl (e_lt rfl rfl) (p_end (hK26 _ ?_)); clear hK26 K26
  refine pwp_seq_cond rfl fun K27 hK27 => ⟨fun hb28 => ?_, fun hb28 => ?_⟩
  ·have hb28R := hb28; try simp only [zz] at hb28
   have hri := hrm.ri
   refine pwp_skip (seq_norm (hK27 _ ?_)); clear hK27 K27
   refine pwp_seq_block fun K29 hK29 => pwp_seq_plain rfl fun K30 hK30 => p_mS rfl (p_aS rfl (p_end (hK30 _ ?_))); clear hK30 K30
   refine pwp_seq_plain rfl fun K31 hK31 => p_aS rfl (p_end (hK31 _ ?_)); clear hK31 K31
   refine pwp_seq_seq (pwp_seq_plain rfl fun K32 hK32 => p_mS rfl (p_mS rfl (p_end (hK32 _ ?_)))); clear hK32 K32
   refine pwp_seq_block fun K33 hK33 => pwp_loopR (α := Nat × Int) [5, 7, 8, 9, 10, 47, 48, 51] (fun (a34 : Nat × Int) => [(11, .int (a34.2)), (52, .int (a34.1))]) (fun (a34 : Nat × Int) (h : Heap) (_ : Nat → Nat) => ((a34.1) ≤ xs.length) ∧ ((a34.2) = bstG xs (DX xs) z.toNat k (a34.1)) ∧ (SliceAt h 45 w 1 ((bitsL xs).map cN)) ∧ (h (5, c1 5) = some (.rows 2 [[.lit true 6 (xs.map Task.enc), w]])) ∧ (h (38, c1 38) = some (.rows 1 (r.map ci)))) (fun (a34 : Nat × Int) => xs.length - (a34.1)) (0, 1048576) (by exact ⟨rfl, rfl, trivial⟩) (by exact ⟨by exact Nat.zero_le _, by exact rfl, (SliceAt.to hihj25_0 (by first | rfl | (simp only [List.map_append, List.map_cons, List.map_nil] <;> rfl))), hihj25_1, hihj25_2⟩) fun a34 r35 h36 c37 hj38 => ?_
   obtain ⟨j, b⟩ := a34
   obtain ⟨hj, hb, hihj38_0, hihj38_1, hihj38_2⟩ := hj38
   try dsimp only at hj
   try dsimp only at hb
   try dsimp only at hihj38_0
   try dsimp only at hihj38_1
   try dsimp only at hihj38_2
   show pwp _ _ (loopQ _ _ _) ⟨sets (mix _ _ _) [(11, .int b), (52, .int j)], _, _⟩
   refine pwp_seq_plain rfl fun K39 hK39 => p_e rfl (e_lt rfl rfl) (p_end (hK39 _ ?_)); clear hK39 K39
   refine pwp_seq_cond rfl fun K40 hK40 => ⟨fun hb41 => ?_, fun hb41 => ?_⟩
   ·have hb41R := hb41; try simp only [zz] at hb41
    have hjn : j < xs.length := by simp only [List.length_map] at *; omega
    have hkn : k < xs.length := by simp only [List.length_map] at *; omega
    have hbb := bstG_b (xs := xs) (fun a l => (DX_b (xs := xs) (a := a) (l := l)).1) (a := z.toNat) (l := k) j
    have h2j := two_lt (k := j) (by omega)
    refine pwp_skip (seq_norm (hK40 _ ?_)); clear hK40 K40
    refine pwp_seq_block fun K42 hK42 => pwp_seq_plain rfl fun K43 hK43 => p_mS rfl (p_aS rfl (p_end (hK43 _ ?_))); clear hK43 K43
    refine pwp_seq_plain rfl fun K44 hK44 => p_e rfl (e_loadHA (n := 2) (cs := [.lit true 6 (xs.map Task.enc), w]) rfl hihj38_1 (by kernel_rfl) (by kernel_rfl) (by kernel_rfl) (by exact Nat.zero_lt_one) (by decide) rfl) (p_mS rfl (p_e rfl (e_cvU (a := z.toNat) rfl (by kernel_rfl) (by kernel_rfl) (by omega) (by omega)) (p_mS rfl (p_call rfl (.cons (inn_sets hihj38_0) (.cons inn_sc (.cons inn_sc .nil))) (canD hpl (by omega) (by omega) (by first | assumption | omega)) (p_end (hK44 _ ?_)))))); clear hK44 K44
    refine pwp_cond rfl (fun hb45 => ?_) (fun hb45 => ?_)
    ·have hb45R := hb45; try simp only [zz] at hb45
     have hc : canB (nbD xs j) z.toNat j = true := (by assumption)
     have hog := or_gt (can_bit hc)
     have hol := or_lt (n := xs.length) (show z.toNat < 2 ^ xs.length by omega) (show j < xs.length by omega)
     have hix := idx_lt (n := xs.length) hol (show j < xs.length by omega)
     have hrl := hri.len
     have hrv := hri.val (z.toNat ||| 2 ^ j) j (by omega) hol (by omega)
     have hrb := DX_b (xs := xs) (a := z.toNat ||| 2 ^ j) (l := j)
     have hmb := mvF_b (xs := xs) (l := (k : Int)) (k := (j : Int))
     have hml : (z.toNat ||| 2 ^ j) * xs.length ≤ 256 * 8 := Nat.mul_le_mul (by omega) (by omega)
     obtain ⟨hi1, hi2⟩ := rest_ix (A := z.toNat ||| 2 ^ j) (n := xs.length) (j := j) (N := ((((xs).map Task.enc).length : Nat) : Int)) (by simp only [List.length_map])
     have hel := rest_el (r := r) (A := z.toNat ||| 2 ^ j) (n := xs.length) (j := j) (N := ((((xs).map Task.enc).length : Nat) : Int)) (by simp only [List.length_map]) (by rw [hrl]; exact hix) hrv
     have hmi : ((z.toNat ||| 2 ^ j : Nat) : Int) * ((((xs).map Task.enc).length : Nat) : Int) = (((z.toNat ||| 2 ^ j) * xs.length : Nat) : Int) := by simp
     refine pwp_gops rfl fun K46 hK46 => g_begin (g_mS rfl rfl (g_e rfl (e_loadHA (n := 2) (cs := [.lit true 6 (xs.map Task.enc), w]) rfl hihj38_1 (by kernel_rfl) (by kernel_rfl) (by kernel_rfl) (by exact Nat.zero_lt_one) (by decide) rfl) (g_mS rfl rfl (g_mS rfl rfl (g_call rfl rfl rfl rfl (.cons (inn_sets hihj38_0) (.cons inn_sc (.cons inn_sc .nil))) (movesD (by omega) (by omega)) (g_e rfl (e_move (v := .ref _ _ _ _) rfl) ?_))))))
     refine g_mS rfl rfl (g_mS rfl rfl (g_e rfl (e_shlI (k := j) rfl rfl (by omega)) (g_e rfl (e_orI (a := z.toNat) (congrArg PV.int (by omega)) rfl (by omega) (two_lt (by omega))) (g_mS rfl rfl (g_e rfl (e_mul rfl rfl (by first | omega | (simp only [List.length_map] at *; omega))) (g_mS rfl rfl (g_e rfl (e_adL rfl rfl) ?_)))))))
     refine g_e rfl (e_ixaR0 rfl rfl (by kernel_rfl) (by kernel_rfl) (by omega)) (g_e rfl (e_loadI (a := (DX xs (z.toNat ||| 2 ^ j) j)) rfl hihj38_2 (by kernel_rfl) (by kernel_rfl) (by kernel_rfl) hel) (g_e rfl (e_adL rfl rfl) (g_e rfl (e_min rfl rfl) (g_aS rfl rfl (g_end (ds := []) (by kernel_rfl) rfl (hK46 _ ?_)))))); clear hK46 K46
     refine block_norm (seq_norm (hK42 _ ?_)); clear hK42 K42
     refine pwp_plain rfl fun K47 hK47 => p_e rfl (e_adL rfl rfl) (p_mS rfl (p_end (hK47 _ ?_))); clear hK47 K47
     exact loop_again ((j + 1, (min b ((mvF xs (k : Int) (j : Int)) + (DX xs (z.toNat ||| 2 ^ j) j))))) (by show _ < _; simp only; omega) ⟨rfl, rfl, rfl, rfl, rfl, rfl, rfl, rfl, trivial⟩ ⟨rfl, rfl, trivial⟩ (by exact ⟨by show _ + 1 ≤ _; omega, by first | exact bst_t hb (by assumption) | exact bst_f hb (by assumption), hihj38_0, hihj38_1, hihj38_2⟩)
    have hb45R := hb45; try simp only [zz] at hb45
    refine pwp_skip (block_norm (seq_norm (hK42 _ ?_))); clear hK42 K42
    refine pwp_plain rfl fun K48 hK48 => p_e rfl (e_adL rfl rfl) (p_mS rfl (p_end (hK48 _ ?_))); clear hK48 K48
    exact loop_again ((j + 1, b)) (by show _ < _; simp only; omega) ⟨rfl, rfl, rfl, rfl, rfl, rfl, rfl, rfl, trivial⟩ ⟨rfl, rfl, trivial⟩ (by exact ⟨by show _ + 1 ≤ _; omega, by first | exact bst_t hb (by assumption) | exact bst_f hb (by assumption), hihj38_0, hihj38_1, hihj38_2⟩)
   have hb41R := hb41; try simp only [zz] at hb41
   refine pwp_exit (exit_seq ?_)
   clear hK40 K40
   refine exit_loop (exit_here (seq_norm (hK33 _ ?_))); clear hK33 K33
   obtain ⟨hst1, hst2⟩ := st_ix (z := z) (n := xs.length) (k := k) (N := ((((xs).map Task.enc).length : Nat) : Int)) (by omega) (by simp only [List.length_map])
   have hst3 := idx_lt (a := z.toNat) (n := xs.length) (m := 2 ^ xs.length) (l := k) (by omega) (by simp only [List.length_map] at *; omega)
   have hst4 : z.toNat * xs.length ≤ 256 * 8 := Nat.mul_le_mul (by omega) (by omega)
   have hst5 := zN (z := z) (n := xs.length) (N := ((((xs).map Task.enc).length : Nat) : Int)) (by omega) (by simp only [List.length_map])
   have hrl := hri.len
   refine pwp_plain rfl fun K49 hK49 => p_e rfl (e_move (v := .ref _ _ _ _) rfl) (p_mS rfl (p_mS rfl (p_e rfl (e_mul rfl rfl (by first | omega | (simp only [List.length_map] at *; omega))) (p_mS rfl (p_e rfl (e_adL rfl rfl) (p_mS rfl ?_))))))
   refine p_e rfl (e_ixaR0 rfl rfl (by kernel_rfl) (by kernel_rfl) (by omega)) (p_store rfl (e_storeI (zs := r) (a := b) rfl hihj38_2 rfl (by omega) (by kernel_rfl) (by kernel_rfl)) trivial (p_end (hK49 _ ?_))); clear hK49 K49
   refine block_norm (seq_norm (hK29 _ ?_)); clear hK29 K29
   refine pwp_plain rfl fun K50 hK50 => p_e rfl (e_adL rfl rfl) (p_mS rfl (p_end (hK50 _ ?_))); clear hK50 K50
   exact loop_again ((k + 1, r.set (z.toNat * xs.length + k) b)) (by show _ < _; simp only; omega) ⟨rfl, rfl, rfl, rfl, rfl, trivial⟩ ⟨rfl, trivial⟩ (by exact ⟨by show _ + 1 ≤ _; simp only [List.length_map] at *; omega, by exact hrm.step (by omega) (by simp only [List.length_map] at *; omega) (by rw [hb, show j = xs.length by (simp only [List.length_map] at *; omega)]), (hihj38_0.keep fun _ => (hset_ne (key_ne rfl)).trans (rfl)), ((hset_ne (key_ne rfl)).trans hihj38_1), ((hset_self _ _ _).trans (by (rw [hst1])))⟩)
  have hb28R := hb28; try simp only [zz] at hb28
  refine pwp_exit (exit_seq ?_)
  clear hK27 K27
  refine exit_loop (exit_here (block_norm (seq_norm (hK19 _ ?_)))); clear hK19 K19
  refine pwp_plain rfl fun K51 hK51 => p_mS rfl (p_e rfl (e_sub rfl rfl (by first | omega | (simp only [List.length_map] at *; omega))) (p_aS rfl (p_end (hK51 _ ?_)))); clear hK51 K51
  exact loop_again ((z - 1, _)) (by show _ < _; simp only; omega) ⟨rfl, rfl, rfl, trivial⟩ ⟨rfl, trivial⟩ (by exact ⟨by (show -1 ≤ z - 1 ∧ z - 1 < _; omega), by exact hrm.stop (by omega) (by omega), hihj25_0, hihj25_1, (hihj25_2.trans (by rfl))⟩)
 have hb18R := hb18; try simp only [zz] at hb18
 refine pwp_exit (exit_seq ?_)
 clear hK17 K17
 refine exit_loop (exit_here (seq_norm (hK10 _ ?_))); clear hK10 K10
 refine pwp_seq_plain rfl fun K52 hK52 => p_e rfl (e_assign (v := .nil) rfl) (p_end (hK52 _ ?_)); clear hK52 K52
 refine pwp_seq_plain rfl fun K53 hK53 => p_aS rfl (p_end (hK53 _ ?_)); clear hK53 K53
 refine pwp_seq_plain rfl fun K54 hK54 => p_aS rfl (p_aS rfl (p_end (hK54 _ ?_))); clear hK54 K54
 refine pwp_seq_seq (pwp_seq_plain rfl fun K55 hK55 => p_mS rfl (p_mS rfl (p_end (hK55 _ ?_)))); clear hK55 K55
 refine pwp_seq_block fun K56 hK56 => pwp_loopR (α := Nat × PV) [5, 7, 8, 88] (fun (a57 : Nat × PV) => [(13, (a57.2)), (14, .int (grdF xs (a57.1)).sum), (15, .sc (.int .u64 (((grdF xs (a57.1)).a : Nat) : Int))), (16, .int (grdF xs (a57.1)).l), (89, .int (a57.1))]) (fun (a57 : Nat × PV) (h : Heap) (_ : Nat → Nat) => ((a57.1) ≤ xs.length) ∧ (SliceAt h 141 (a57.2) 1 ((grdF xs (a57.1)).out.map ci)) ∧ (SliceAt h 45 w 1 ((bitsL xs).map cN)) ∧ (h (5, c1 5) = some (.rows 2 [[.lit true 6 (xs.map Task.enc), w]])) ∧ (h (38, c1 38) = some (.rows 1 (r.map ci)))) (fun (a57 : Nat × PV) => xs.length - (a57.1)) (0, .nil) (by exact ⟨rfl, rfl, rfl, rfl, rfl, trivial⟩) (by exact ⟨by exact Nat.zero_le _, .nil, (SliceAt.to hihj15_0 (by first | rfl | (simp only [List.map_append, List.map_cons, List.map_nil] <;> rfl))), hihj15_1, hihj15_2⟩) fun a57 r58 h59 c60 hj61 => ?_
 obtain ⟨i, w2⟩ := a57
 obtain ⟨hi, hihj61_0, hihj61_1, hihj61_2, hihj61_3⟩ := hj61
 try dsimp only at hi
 try dsimp only at hihj61_0
 try dsimp only at hihj61_1
 try dsimp only at hihj61_2
 try dsimp only at hihj61_3
 show pwp _ _ (loopQ _ _ _) ⟨sets (mix _ _ _) [(13, w2), (14, .int (grdF xs i).sum), (15, .sc (.int .u64 (((grdF xs i).a : Nat) : Int))), (16, .int (grdF xs i).l), (89, .int i)], _, _⟩
 refine pwp_seq_plain rfl fun K62 hK62 => p_e rfl (e_lt rfl rfl) (p_end (hK62 _ ?_)); clear hK62 K62
 refine pwp_seq_cond rfl fun K63 hK63 => ⟨fun hb64 => ?_, fun hb64 => ?_⟩
 ·have hb64R := hb64; try simp only [zz] at hb64
  have hin : i < xs.length := by simp only [List.length_map] at *; omega
  obtain ⟨hga, hgp, hgl, hgs, hgo, hgn⟩ := grd_step hpl (by omega) i (by omega)
  refine pwp_skip (seq_norm (hK63 _ ?_)); clear hK63 K63
  refine pwp_seq_block fun K65 hK65 => pwp_seq_plain rfl fun K66 hK66 => p_aS rfl (p_aS rfl (p_end (hK66 _ ?_))); clear hK66 K66
  refine pwp_seq_seq (pwp_seq_plain rfl fun K67 hK67 => p_mS rfl (p_mS rfl (p_end (hK67 _ ?_)))); clear hK67 K67
  refine pwp_seq_block fun K68 hK68 => pwp_loopR (α := Nat × Int × Int) [5, 7, 8, 13, 14, 15, 16, 88, 89, 91] (fun (a69 : Nat × Int × Int) => [(17, .int (a69.2.1)), (18, .int (a69.2.2)), (92, .int (a69.1))]) (fun (a69 : Nat × Int × Int) (h : Heap) (_ : Nat → Nat) => ((a69.1) ≤ xs.length) ∧ ((a69.2.1) = (nxtG xs (grdF xs i).a (grdF xs i).l (a69.1)).1 ∧ (a69.2.2) = (nxtG xs (grdF xs i).a (grdF xs i).l (a69.1)).2) ∧ (SliceAt h 141 w2 1 ((grdF xs i).out.map ci)) ∧ (SliceAt h 45 w 1 ((bitsL xs).map cN)) ∧ (h (5, c1 5) = some (.rows 2 [[.lit true 6 (xs.map Task.enc), w]])) ∧ (h (38, c1 38) = some (.rows 1 (r.map ci)))) (fun (a69 : Nat × Int × Int) => xs.length - (a69.1)) (0, -1, 1048576) (by exact ⟨rfl, rfl, rfl, trivial⟩) (by exact ⟨by exact Nat.zero_le _, by exact ⟨rfl, rfl⟩, (SliceAt.to hihj61_0 (by first | rfl | (simp only [List.map_append, List.map_cons, List.map_nil] <;> rfl))), (SliceAt.to hihj61_1 (by first | rfl | (simp only [List.map_append, List.map_cons, List.map_nil] <;> rfl))), hihj61_2, hihj61_3⟩) fun a69 r70 h71 c72 hj73 => ?_
  obtain ⟨j, nx, b⟩ := a69
  obtain ⟨hj, hnx, hihj73_0, hihj73_1, hihj73_2, hihj73_3⟩ := hj73
  try dsimp only at hj
  try dsimp only at hnx
  try dsimp only at hihj73_0
  try dsimp only at hihj73_1
  try dsimp only at hihj73_2
  try dsimp only at hihj73_3
  show pwp _ _ (loopQ _ _ _) ⟨sets (mix _ _ _) [(17, .int nx), (18, .int b), (92, .int j)], _, _⟩
  refine pwp_seq_plain rfl fun K74 hK74 => p_e rfl (e_lt rfl rfl) (p_end (hK74 _ ?_)); clear hK74 K74
  refine pwp_seq_cond rfl fun K75 hK75 => ⟨fun hb76 => ?_, fun hb76 => ?_⟩
  ·have hb76R := hb76; try simp only [zz] at hb76
   have hjn : j < xs.length := by simp only [List.length_map] at *; omega
   have hnb := nxtG_b (xs := xs) (a := (grdF xs i).a) (l := (grdF xs i).l) j
   have h2j := two_lt (k := j) (by omega)
   refine pwp_skip (seq_norm (hK75 _ ?_)); clear hK75 K75
   refine pwp_seq_block fun K77 hK77 => pwp_seq_plain rfl fun K78 hK78 => p_mS rfl (p_aS rfl (p_end (hK78 _ ?_))); clear hK78 K78
   refine pwp_seq_seq (pwp_seq_plain rfl fun K79 hK79 => p_e rfl (e_loadHA (n := 2) (cs := [.lit true 6 (xs.map Task.enc), w]) rfl hihj73_2 (by kernel_rfl) (by kernel_rfl) (by kernel_rfl) (by exact Nat.zero_lt_one) (by decide) rfl) (p_mS rfl (p_mS rfl (p_call rfl (.cons (inn_sets hihj73_1) (.cons inn_sc (.cons inn_sc .nil))) (canD hpl (by omega) (by omega) (by first | assumption | omega)) (p_e rfl (e_not rfl) (p_end (hK79 _ ?_))))))); clear hK79 K79
   refine pwp_seq_cond rfl fun K80 hK80 => ⟨fun hb81 => ?_, fun hb81 => ?_⟩
   ·have hb81R := hb81; try simp only [zz] at hb81
    refine pwp_exit (exit_seq ?_)
    clear hK80 K80
    refine exit_here (seq_norm (hK77 _ ?_)); clear hK77 K77
    refine pwp_plain rfl fun K82 hK82 => p_e rfl (e_adL rfl rfl) (p_mS rfl (p_end (hK82 _ ?_))); clear hK82 K82
    exact loop_again ((j + 1, nx, b)) (by show _ < _; simp only; omega) ⟨rfl, rfl, rfl, rfl, rfl, rfl, rfl, rfl, rfl, rfl, trivial⟩ ⟨rfl, rfl, rfl, trivial⟩ (by exact ⟨by show _ + 1 ≤ _; omega, by first | exact nxt_t (nx := nx) (b := b) hnx (by assumption) (by omega) | exact nxt_n (nx := nx) (b := b) hnx (by assumption) (by omega) | exact nxt_f hnx (by assumption), hihj73_0, hihj73_1, hihj73_2, hihj73_3⟩)
   have hb81R := hb81; try simp only [zz] at hb81
   refine pwp_skip (seq_norm (hK80 _ ?_)); clear hK80 K80
   have hc : canB (nbD xs j) (grdF xs i).a j = true := (by assumption)
   have hog := or_gt (can_bit hc)
   have hol := or_lt (n := xs.length) (show (grdF xs i).a < 2 ^ xs.length by omega) (show j < xs.length by omega)
   have hix := idx_lt (n := xs.length) hol (show j < xs.length by omega)
   have hrl := hri.len
   have hrv := hri.val ((grdF xs i).a ||| 2 ^ j) j (by omega) hol (by omega)
   have hrb := DX_b (xs := xs) (a := (grdF xs i).a ||| 2 ^ j) (l := j)
   have hmb := mvF_b (xs := xs) (l := (grdF xs i).l) (k := (j : Int))
   have hml : ((grdF xs i).a ||| 2 ^ j) * xs.length ≤ 256 * 8 := Nat.mul_le_mul (by omega) (by omega)
   obtain ⟨hi1, hi2⟩ := rest_ix (A := (grdF xs i).a ||| 2 ^ j) (n := xs.length) (j := j) (N := ((((xs).map Task.enc).length : Nat) : Int)) (by simp only [List.length_map])
   have hel := rest_el (r := r) (A := (grdF xs i).a ||| 2 ^ j) (n := xs.length) (j := j) (N := ((((xs).map Task.enc).length : Nat) : Int)) (by simp only [List.length_map]) (by rw [hrl]; exact hix) hrv
   have hmi : (((grdF xs i).a ||| 2 ^ j : Nat) : Int) * ((((xs).map Task.enc).length : Nat) : Int) = ((((grdF xs i).a ||| 2 ^ j) * xs.length : Nat) : Int) := by simp
   refine pwp_seq_gops rfl fun K83 hK83 => g_begin (g_e rfl (e_loadHA (n := 2) (cs := [.lit true 6 (xs.map Task.enc), w]) rfl hihj73_2 (by kernel_rfl) (by kernel_rfl) (by kernel_rfl) (by exact Nat.zero_lt_one) (by decide) rfl) (g_mS rfl rfl (g_mS rfl rfl (g_call rfl rfl rfl rfl (.cons (inn_sets hihj73_1) (.cons inn_sc (.cons inn_sc .nil))) (movesD (by omega) (by omega)) (g_e rfl (e_move (v := .ref _ _ _ _) rfl) (g_mS rfl rfl ?_))))))
   refine g_mS rfl rfl (g_e rfl (e_shlU (k := j) rfl rfl (by omega)) (g_e rfl (e_orW rfl rfl (by omega) (two_lt (by omega))) (g_e rfl (e_conv rfl (by kernel_rfl) (by kernel_rfl) (by exact wrap64 (by omega) (by omega))) (g_mS rfl rfl (g_e rfl (e_mul rfl rfl (by first | omega | (simp only [List.length_map] at *; omega))) (g_mS rfl rfl (g_e rfl (e_adL rfl rfl) ?_)))))))
   refine g_e rfl (e_ixaR0 rfl rfl (by kernel_rfl) (by kernel_rfl) (by omega)) (g_e rfl (e_loadI (a := (DX xs ((grdF xs i).a ||| 2 ^ j) j)) rfl hihj73_3 (by kernel_rfl) (by kernel_rfl) (by kernel_rfl) hel) (g_e rfl (e_adL rfl rfl) (g_aS rfl rfl (g_end (ds := []) (by kernel_rfl) rfl (hK83 _ ?_))))); clear hK83 K83
   refine pwp_seq_gops rfl fun K84 hK84 => g_begin (g_mS rfl rfl (g_e rfl (e_lt rfl rfl) (g_mS rfl rfl ?_)))
   refine g_cases (fun hb85 => ?_) (fun hb85 => ?_)
   ·have hb85R := hb85; try simp only [zz] at hb85
    iterate 3 refine g_skip rfl rfl rfl ?_
    refine g_pT rfl rfl rfl (g_end (ds := [120, 121, 122]) rfl rfl (hK84 _ ?_)); clear hK84 K84
    refine pwp_cond (t := true) rfl (fun _ => ?_) nofun
    refine pwp_plain rfl fun K86 hK86 => p_mS rfl (p_mS rfl (p_aS rfl (p_aS rfl (p_end (hK86 _ ?_))))); clear hK86 K86
    refine block_norm (seq_norm (hK77 _ ?_)); clear hK77 K77
    refine pwp_plain rfl fun K87 hK87 => p_e rfl (e_adL rfl rfl) (p_mS rfl (p_end (hK87 _ ?_))); clear hK87 K87
    exact loop_again ((j + 1, (j : Int), ((mvF xs (grdF xs i).l (j : Int)) + (DX xs ((grdF xs i).a ||| 2 ^ j) j)))) (by show _ < _; simp only; omega) ⟨rfl, rfl, rfl, rfl, rfl, rfl, rfl, rfl, rfl, rfl, trivial⟩ ⟨rfl, rfl, rfl, trivial⟩ (by exact ⟨by show _ + 1 ≤ _; omega, by first | exact nxt_t (nx := nx) (b := b) hnx (by assumption) (by omega) | exact nxt_n (nx := nx) (b := b) hnx (by assumption) (by omega) | exact nxt_f hnx (by assumption), hihj73_0, hihj73_1, hihj73_2, hihj73_3⟩)
   have hb85R := hb85; try simp only [zz] at hb85
   refine g_mS rfl rfl (g_mS rfl rfl (g_e rfl (e_lt rfl rfl) (g_pF rfl rfl rfl (g_end (ds := [120, 121, 122]) rfl rfl (hK84 _ ?_))))); clear hK84 K84
   refine pwp_cond rfl (fun hb88 => ?_) (fun hb88 => ?_)
   ·have hb88R := hb88; try simp only [zz] at hb88
    refine pwp_plain rfl fun K89 hK89 => p_mS rfl (p_mS rfl (p_aS rfl (p_aS rfl (p_end (hK89 _ ?_))))); clear hK89 K89
    refine block_norm (seq_norm (hK77 _ ?_)); clear hK77 K77
    refine pwp_plain rfl fun K90 hK90 => p_e rfl (e_adL rfl rfl) (p_mS rfl (p_end (hK90 _ ?_))); clear hK90 K90
    exact loop_again ((j + 1, (j : Int), ((mvF xs (grdF xs i).l (j : Int)) + (DX xs ((grdF xs i).a ||| 2 ^ j) j)))) (by show _ < _; simp only; omega) ⟨rfl, rfl, rfl, rfl, rfl, rfl, rfl, rfl, rfl, rfl, trivial⟩ ⟨rfl, rfl, rfl, trivial⟩ (by exact ⟨by show _ + 1 ≤ _; omega, by first | exact nxt_t (nx := nx) (b := b) hnx (by assumption) (by omega) | exact nxt_n (nx := nx) (b := b) hnx (by assumption) (by omega) | exact nxt_f hnx (by assumption), hihj73_0, hihj73_1, hihj73_2, hihj73_3⟩)
   have hb88R := hb88; try simp only [zz] at hb88
   refine pwp_skip (block_norm (seq_norm (hK77 _ ?_))); clear hK77 K77
   refine pwp_plain rfl fun K91 hK91 => p_e rfl (e_adL rfl rfl) (p_mS rfl (p_end (hK91 _ ?_))); clear hK91 K91
   exact loop_again ((j + 1, nx, b)) (by show _ < _; simp only; omega) ⟨rfl, rfl, rfl, rfl, rfl, rfl, rfl, rfl, rfl, rfl, trivial⟩ ⟨rfl, rfl, rfl, trivial⟩ (by exact ⟨by show _ + 1 ≤ _; omega, by first | exact nxt_t (nx := nx) (b := b) hnx (by assumption) (by omega) | exact nxt_n (nx := nx) (b := b) hnx (by assumption) (by omega) | exact nxt_f hnx (by assumption), hihj73_0, hihj73_1, hihj73_2, hihj73_3⟩)
  have hb76R := hb76; try simp only [zz] at hb76
  have hjl : j = xs.length := by simp only [List.length_map] at *; omega
  refine pwp_exit (exit_seq ?_)
  clear hK75 K75
  refine exit_loop (exit_here (seq_norm (hK68 _ ?_))); clear hK68 K68
  obtain rfl : nx = (nxtX xs (grdF xs i).a (grdF xs i).l) := by rw [hnx.1, hjl]; rfl
  obtain ⟨q, hq1, hq2, hq3⟩ := hgn hin
  have hmb := mvF_b (xs := xs) (l := (grdF xs i).l) (k := (nxtX xs (grdF xs i).a (grdF xs i).l))
  refine pwp_seq_plain rfl fun K92 hK92 => p_mS rfl (p_e rfl (e_loadHA (n := 2) (cs := [.lit true 6 (xs.map Task.enc), w]) rfl hihj73_2 (by kernel_rfl) (by kernel_rfl) (by kernel_rfl) (by exact Nat.zero_lt_one) (by decide) rfl) (p_mS rfl (p_mS rfl (p_call rfl (.cons (inn_sets hihj73_1) (.cons inn_sc (.cons inn_sc .nil))) (movesD (by omega) (by omega)) (p_e rfl (e_adL rfl rfl) (p_aS rfl ?_))))))
  refine p_end (hK92 _ ?_); clear hK92 K92
  refine pwp_seq_plain rfl fun K93 hK93 => p_mS rfl (p_mS rfl (p_e rfl (e_shlU (k := (nxtX xs (grdF xs i).a (grdF xs i).l).toNat) rfl (congrArg PV.int (by omega)) (by omega)) (p_e rfl (e_orW rfl rfl (by omega) (two_lt (by omega))) (p_mS rfl (p_aS rfl (p_aS rfl ?_))))))
  refine p_end (hK93 _ ?_); clear hK93 K93
  refine pwp_plain rfl fun K94 hK94 => p_e rfl (e_move (v := _) rfl) (p_mS rfl (p_new rfl (e_bslice (rows := [ci (nxtX xs (grdF xs i).a (grdF xs i).l)]) (zs := [.int 0]) (sz := 1) (by kernel_rfl) (by kernel_rfl) rfl (by kernel_rfl) (by decide) rfl rfl (by exact ⟨by decide, rfl, rfl, trivial⟩) rfl) trivial (p_app rfl rfl rfl (hihj73_0.keep fun _ => (hset_ne (key_ne rfl)).trans (rfl)) (src_ref (hset_self _ _ _) rfl) (by kernel_rfl) (by simp only [List.length_append, List.length_map, List.length_nil, List.length_cons]; omega) fun v95 h96 c97 hs98 hf99 => ?_)))
  have ho100 := (hf99 (5, _) (key_ne rfl) (fun _ _ => key_ne rfl)).trans ((hset_ne (key_ne rfl)).trans hihj73_2)
  have ho101 := (hf99 (38, _) (key_ne rfl) (fun _ _ => key_ne rfl)).trans ((hset_ne (key_ne rfl)).trans hihj73_3)
  have ho102 := (hf99 (140, _) (key_ne rfl) (fun _ _ => key_ne rfl)).trans (hset_self _ _ _)
  have hs103 := ((hihj73_1.keep fun _ => (hset_ne (key_ne rfl)).trans (rfl))).keep fun g => (hf99 (45, g) (key_ne rfl) (fun _ _ => key_ne rfl))
  refine p_e rfl (e_assign (v := _) rfl) (p_end (hK94 _ ?_)); clear hK94 K94
  refine block_norm (seq_norm (hK65 _ ?_)); clear hK65 K65
  refine pwp_plain rfl fun K104 hK104 => p_e rfl (e_adL rfl rfl) (p_mS rfl (p_end (hK104 _ ?_))); clear hK104 K104
  exact loop_again ((i + 1, v95)) (by show _ < _; simp only; omega) ⟨rfl, rfl, rfl, rfl, trivial⟩ ⟨rfl, rfl, rfl, rfl, rfl, trivial⟩ (by exact ⟨by show _ + 1 ≤ _; omega, (SliceAt.to hs98 (by (show _ = ((grdF xs i).out ++ [(nxtX xs (grdF xs i).a (grdF xs i).l)]).map ci; simp only [List.map_append, List.map_cons, List.map_nil]))), hs103, ho100, ho101⟩)
 have hb64R := hb64; try simp only [zz] at hb64
 have hie : i = xs.length := by simp only [List.length_map] at *; omega
 refine pwp_exit (exit_seq ?_)
 clear hK63 K63
 refine exit_loop (exit_here (seq_norm (hK56 _ ?_))); clear hK56 K56
 refine pwp_seq_plain rfl fun K105 hK105 => p_e rfl (e_move (v := _) rfl) (p_mS rfl (p_e rfl (e_assign (v := _) rfl) (p_aS rfl (p_aS rfl (p_end (hK105 _ ?_)))))); clear hK105 K105
 refine pwp_ret (end3 (v := _) (w := .sc _) (x := .sc _) rfl rfl rfl ?_)
 exact few_out hs0 hie hihj61_0

end Go.Proofs.Ytjmjiegplnfiiaa
