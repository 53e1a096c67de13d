import Derived.Test.YtnbcmoaofmkjhaaGreatDoorJ2
import Derived.Laws.BitsAllLaws
set_option linter.unusedSimpArgs false
set_option linter.unusedVariables false
set_option maxRecDepth 100000
namespace Go.Proofs.YtnbcmoaofmkjhaaGreatDoor.E7
open Go Go.Pv Go.Proofs.YtnbcmoaofmkjhaaGreatDoor
def cN (n : Nat) : List PV := [.sc (.int .u64 (n : Int))]
theorem zLp (n : Nat) : ∀ p ∈ cN n, Pure p := fun p hp => by simp [cN] at hp; subst hp; exact .sc _
structure Sets where
 tasks : List Task
 needs : List Nat
def Sets.enc (s : Sets) : List PV := [.lit true 6 (s.tasks.map Task.enc), .lit true 1 (s.needs.map cN)]
theorem Sets.pure (s : Sets) : ∀ p ∈ s.enc, Pure p := fun p hp => by
 simp only [Sets.enc, List.mem_cons, List.not_mem_nil, or_false] at hp;rcases hp with rfl | rfl
 · exact .lit _ _ _ fun row hr => zBo Task.pure row hr
 · exact .lit _ _ _ fun row hr => zBo zLp row hr
section
variable {P : Program} {ρ : Operand → PV} {h : Heap} {key : Key} {x y : Operand} {t t' : TypeId}
theorem zFm {k : Nat} (hk : k < 62) : 2 ^ k < 4611686018427387904 := by
 have := Nat.pow_lt_pow_right (a := 2) (by decide) hk;omega
theorem shl_wrapU {k : Nat} (hk : k < 62) : IntKind.u64.wrap (1 * 2 ^ (min ((k : Int)).toNat 64)) = ((2 ^ k : Nat) : Int) := by
 have h1 : min ((k : Int)).toNat 64 = k := by omega
 have h2 := zFm hk;rw [h1, Int.one_mul, IntKind.wrap_u64];have h3 : ((2 : Int) ^ k) = ((2 ^ k : Nat) : Int) := by simp
 rw [h3]; generalize 2 ^ k = m at h2 ⊢; omega
theorem shl_wrapI {k : Nat} (hk : k < 62) : IntKind.i64.wrap (1 * 2 ^ (min ((k : Int)).toNat 64)) = ((2 ^ k : Nat) : Int) := by
 have h1 : min ((k : Int)).toNat 64 = k := by omega
 have h2 := zFm hk;rw [h1, Int.one_mul];have h3 : ((2 : Int) ^ k) = ((2 ^ k : Nat) : Int) := by simp
 rw [h3]; generalize 2 ^ k = m at h2 ⊢; exact zFV (by omega) (by omega)
theorem zKB {k : Nat} (hx : ρ x = .sc (.int .u64 1)) (hy : ρ y = .int (k : Int)) (hk : k < 62) : eff P ρ h key (.binOp .shl t x y t') = ⟨True, .sc (.int .u64 ((2 ^ k : Nat) : Int)), [], [], false⟩ := by
 simp only [eff, hx, hy, zBl, zBQ, zCg];rw [show IntKind.u64.bits = 64 from rfl, shl_wrapU hk]; simp
theorem e_shlI {k : Nat} (hx : ρ x = .int 1) (hy : ρ y = .int (k : Int)) (hk : k < 62) : eff P ρ h key (.binOp .shl t x y t') = ⟨True, .int ((2 ^ k : Nat) : Int), [], [], false⟩ := by
 simp only [eff, hx, hy, zBl, zBQ, zCg];rw [show IntKind.i64.bits = 64 from rfl, shl_wrapI hk]; simp
theorem e_shrU {a k : Nat} (hx : ρ x = .sc (.int .u64 (a : Int))) (hy : ρ y = .int (k : Int)) (hk : k < 62) : eff P ρ h key (.binOp .shr t x y t') = ⟨True, .sc (.int .u64 ((a / 2 ^ k : Nat) : Int)), [], [], false⟩ := by
 simp only [eff, hx, hy, zBl, zBQ, zCg];have h1 : min ((k : Int)).toNat 64 = k := by omega
 rw [show IntKind.u64.bits = 64 from rfl, h1, Int.fdiv_eq_ediv_of_nonneg _ (by exact Int.le_of_lt (Int.pow_pos (by decide)))];simp
theorem e_orW {a b : Nat} (hx : ρ x = .sc (.int .u64 (a : Int))) (hy : ρ y = .sc (.int .u64 (b : Int))) (ha : a < 4611686018427387904) (hb : b < 4611686018427387904) : eff P ρ h key (.binOp .or t x y t') = ⟨True, .sc (.int .u64 ((a ||| b : Nat) : Int)), [], [], false⟩ := by
 simp only [eff, hx, hy, zBl, zBQ, zCg, u64_or_nat a b (by omega) (by omega)]; simp
theorem e_andW {a b : Nat} (hx : ρ x = .sc (.int .u64 (a : Int))) (hy : ρ y = .sc (.int .u64 (b : Int))) (ha : a < 4611686018427387904) (hb : b < 4611686018427387904) : eff P ρ h key (.binOp .and t x y t') = ⟨True, .sc (.int .u64 ((a &&& b : Nat) : Int)), [], [], false⟩ := by
 simp only [eff, hx, hy, zBl, zBQ, zCg, u64_and_nat a b (by omega) (by omega)]; simp
theorem e_anW {a b : Nat} (hx : ρ x = .sc (.int .u64 (a : Int))) (hy : ρ y = .sc (.int .u64 (b : Int))) (ha : a < 4611686018427387904) (hb : b < 4611686018427387904) : eff P ρ h key (.binOp .andNot t x y t') = ⟨True, .sc (.int .u64 ((a &&& (18446744073709551615 - b) : Nat) : Int)), [], [], false⟩ := by
 simp only [eff, hx, hy, zBl, zBQ, zCg, u64_andNot_nat a b (by omega) (by omega)]; simp
theorem i64_or_nat (a b : Nat) (ha : a < 4611686018427387904) (hb : b < 4611686018427387904) : bits .or .i64 (a : Int) (b : Int) = ((a ||| b : Nat) : Int) := by
 have hx : a ||| b < 2 ^ 62 := Nat.or_lt_two_pow (by omega) (by omega)
 show IntKind.i64.wrap ((BitVec.ofInt 64 (a : Int) ||| BitVec.ofInt 64 (b : Int)).toNat : Int) = _;rw [BitVec.toNat_or, ofInt_u64 a (by omega), ofInt_u64 b (by omega)];exact zFV (by omega) (by omega)
theorem e_orI {a b : Nat} (hx : ρ x = .int (a : Int)) (hy : ρ y = .int (b : Int)) (ha : a < 4611686018427387904) (hb : b < 4611686018427387904) : eff P ρ h key (.binOp .or t x y t') = ⟨True, .int ((a ||| b : Nat) : Int), [], [], false⟩ := by
 simp only [eff, hx, hy, zBl, zBQ, zCg, i64_or_nat a b ha hb]; simp
theorem e_decU {a : Nat} (hx : ρ x = .sc (.int .u64 (a : Int))) (hy : ρ y = .sc (.int .u64 1)) (ha : 1 ≤ a ∧ a < 4611686018427387904) : eff P ρ h key (.binOp .sub t x y t') = ⟨True, .sc (.int .u64 ((a - 1 : Nat) : Int)), [], [], false⟩ := by
 simp only [eff, hx, hy, zBl, zBQ, zCg, IntKind.wrap_u64];have : ((a : Int) - 1) % 18446744073709551616 = ((a - 1 : Nat) : Int) := by omega
 rw [this]; simp
end
def canB (nb a k : Nat) : Bool := decide ((((a / 2 ^ k) &&& 1 : Nat) : Int) = 0) && decide (((nb &&& (18446744073709551615 - a) : Nat) : Int) = 0)
def plc (xs : List Task) (z : Int) : Int := (xs.getD z.toNat default).place
def mvF (xs : List Task) (l k : Int) : Int := if 0 ≤ l ∧ plc xs l ≠ plc xs k then 1 else 0
theorem mv_1 {xs : List Task} {l k : Int} (h : 0 ≤ l) (h2 : plc xs l ≠ plc xs k) : 1 = mvF xs l k := (if_pos ⟨h, h2⟩).symm
theorem mv_0 {xs : List Task} {l k : Int} (h : ¬ (0 ≤ l ∧ plc xs l ≠ plc xs k)) : 0 = mvF xs l k := (if_neg h).symm
theorem zJg {xs : List Task} {z : Int} (h : 0 ≤ z ∧ z < xs.length) : xs[z.toNat]? = some (xs.getD z.toNat default) := by
 rw [List.getD_eq_getElem?_getD, List.getElem?_eq_getElem (by omega)]; rfl
theorem bits_get {l : List Nat} {k : Nat} (h : k < l.length) : l[k]? = some (l.getD k 0) := by
 rw [List.getD_eq_getElem?_getD, List.getElem?_eq_getElem h]; rfl
def bitsP (l : List Int) (j : Nat) : Nat := (l.take j).foldl (fun b z => b ||| 2 ^ z.toNat) 0
theorem bitsP_succ {l : List Int} {j : Nat} (hj : j < l.length) : bitsP l (j + 1) = bitsP l j ||| 2 ^ (at0 l j).toNat := by
 rw [bitsP, ← List.take_append_getElem hj, List.foldl_append, zB5 hj]; rfl
theorem zGf {n : Nat} : ∀ {l : List Int} {b : Nat}, b < 2 ^ n → (∀ z ∈ l, 0 ≤ z ∧ z < n) → l.foldl (fun b z => b ||| 2 ^ z.toNat) b < 2 ^ n
 | [], b, hb, _ => hb
 | z :: l, b, hb, h => by
   rw [List.foldl_cons];refine zGf (Nat.or_lt_two_pow hb ?_) fun z hz => h z (List.mem_cons_of_mem _ hz);have := h z (by simp);exact Nat.pow_lt_pow_right (by decide) (by omega)
theorem zKf {l : List Int} {j n : Nat} (h : ∀ z ∈ l, 0 ≤ z ∧ z < n) : bitsP l j < 2 ^ n := zGf (Nat.pow_pos (by decide)) fun z hz => h z (List.mem_of_mem_take hz)
def bitsL (xs : List Task) : List Nat := xs.map fun t => bitsP t.needs t.needs.length
def zD0 (xs : List Task) : Int := if planE xs ≠ 0 then planE xs else if 14 < xs.length then 8 else 0
def zKF (xs : List Task) (v : PV) (h' : Heap) : Prop := ∃ T w, v = .tup [.agg [T, w], .int (zD0 xs)] ∧ (T.cell = true ∧ w.cell = true) ∧ (zD0 xs = 0 → T = .lit true 6 (xs.map Task.enc) ∧ zAq h' 45 w 1 ((bitsL xs).map cN))
theorem small_p {xs : List Task} {h' : Heap} (h : planE xs ≠ 0) : zKF xs (.tup [.agg [.nil, .nil], .int (planE xs)]) h' :=
 ⟨_, _, by rw [zD0, if_pos h], ⟨rfl, rfl⟩, fun h2 => by rw [zD0, if_pos h] at h2; exact absurd h2 h⟩
theorem small_8 {xs : List Task} {h' : Heap} (h : planE xs = 0) (h2 : 14 < xs.length) : zKF xs (.tup [.agg [.nil, .nil], .int 8]) h' :=
 ⟨_, _, by rw [zD0, if_neg (fun q => q h), if_pos h2], ⟨rfl, rfl⟩, fun h3 => by rw [zD0, if_neg (fun q => q h), if_pos h2] at h3; cases h3⟩
theorem zAq.cell {h : Heap} {d sz : Nat} {v : PV} {rows : Pv.Rows} (hs : zAq h d v sz rows) : v.cell = true := by
 rcases hs with ⟨_, rfl⟩ | ⟨g, rfl, _⟩ <;> rfl
theorem small_0 {xs : List Task} {h' : Heap} {w : PV} (h : planE xs = 0) (h2 : ¬ 14 < xs.length) (hw : zAq h' 45 w 1 ((bitsL xs).map cN)) : zKF xs (.tup [.agg [.lit true 6 (xs.map Task.enc), w], .int 0]) h' :=
 ⟨_, _, by rw [zD0, if_neg (fun q => q h), if_neg h2], ⟨rfl, zAq.cell hw⟩, fun _ => ⟨rfl, hw⟩⟩
theorem zHS {xs : List Task} (h : planE xs = 0) : zBY xs 0 xs = 0 := by
 unfold planE at h;split at h
 · cases h
 · split at h
   · rename_i h1; exact absurd h h1
   · rename_i h1; exact Decidable.not_not.1 h1
theorem endCT {P : Program} {R : PV → Heap → (Nat → Nat) → Prop} {r : Nat → PV} {h : Heap} {cnt : Nat → Nat} {a b : Nat} {t : TypeId} {k : Key} {n : Nat} {cs : List PV} {v : PV} (hx : r a = .ptr k n 0 0) (hk : h k = some (.rows n [cs])) (hg : tyAgg P t = true) (hs : zAr P t = n) (ht : tyOk P t = true) (hl : cs.length = n) (hb : r b = v) (hR : R (.tup [.agg cs, v]) h cnt) : endQ P [.cell a t, .tmp b] R .ret ⟨r, h, cnt⟩ := by
 have h1 : aggAt [cs] 0 0 n = cs := by subst hl; simp [aggAt]
 have h2 : zBK P h t (r a) = ⟨True, .agg cs, [], [k], false⟩ := by
   rw [hx]; simp only [zBK, hk, hg, hs, ht, h1]; simp
 have e1 : resOf P ⟨r, h, cnt⟩ (.cell a t) = ((zBK P h t (r a)).ob, (zBK P h t (r a)).v) := rfl;have e2 : resOf P ⟨r, h, cnt⟩ (.tmp b) = (True, r b) := rfl;refine ⟨fun x hx => ?_, ?_⟩
 · simp only [List.mem_cons, List.not_mem_nil, or_false] at hx;rcases hx with rfl | rfl
   · rw [e1, h2]; trivial
   · trivial
 · show R (.tup [(resOf P ⟨r, h, cnt⟩ (.cell a t)).2, (resOf P ⟨r, h, cnt⟩ (.tmp b)).2]) h cnt;rw [e1, e2, h2, hb]; exact hR
theorem fullC (s : Sets) (hs : s.tasks.length < 62) : PCalls Tryz.prog 49 [.agg s.enc] (.sc (.int .u64 ((2 ^ s.tasks.length - 1 : Nat) : Int))) := by
 refine pco Tryz.func49 rfl rfl (.sc _) ?_;have h2 := zFm hs;have h3 := Nat.pow_pos (n := s.tasks.length) (show 0 < 2 by decide);refine zAa rfl fun K1 hK1 => p_new rfl (e_box (n := 2) rfl rfl) ⟨rfl, by decide⟩ (p_aS rfl (p_end (hK1 _ ?_)));refine zAa rfl fun K2 hK2 => p_e rfl (e_faQ pl2 rfl) (p_e rfl (e_lH (v := .lit _ _ _) rfl w_ rfl) (p_e rfl (e_len rfl (by kernel_rfl)) (p_e rfl (zKB (k := s.tasks.length) rfl (congrArg PV.int (by simp only [lM])) hs) (p_e rfl (e_decU rfl rfl ⟨h3, h2⟩) (p_aS rfl (p_end (hK2 _ ?_)))))));refine zAh (end1 (v := .sc _) rfl ?_);exact out_i rfl
theorem canC (s : Sets) (a k : Nat) (hk : k < s.needs.length) (hk6 : k < 62) (ha : a < 4611686018427387904) (hn : s.needs.getD k 0 < 4611686018427387904) : PCalls Tryz.prog 50 [.agg s.enc, .sc (.int .u64 (a : Int)), .int (k : Int)] (.bool (canB (s.needs.getD k 0) a k)) := by
 refine pco Tryz.func50 rfl rfl (.sc _) ?_;have hak : a / 2 ^ k < 4611686018427387904 := Nat.lt_of_le_of_lt (Nat.div_le_self _ _) ha;refine zAa rfl fun K1 hK1 => p_new rfl (e_box (n := 2) rfl rfl) ⟨rfl, by decide⟩ (p_aS rfl (p_end (hK1 _ ?_))); clear hK1 K1;refine zAm rfl fun K2 hK2 => zAM (g_mS rfl rfl (g_mS rfl rfl (g_e rfl (e_shrU rfl rfl hk6) (g_e rfl (e_andW (b := 1) rfl rfl hak (by decide)) (g_e rfl (e_eq rfl rfl) (g_mS rfl rfl ?_))))));refine zAw (fun hb3 => ?_) (fun hb3 => ?_)
 ·try simp only [zz] at hb3
  refine g_e rfl (e_faQ pl2 rfl) (g_e rfl (e_lH (v := .lit _ _ _) rfl w_ rfl) (g_mS rfl rfl (g_e rfl (e_ixL rfl rfl) (g_e rfl (e_lL (v := .sc _) rfl ((zAV (bits_get hk) _).trans rfl)) (g_mS rfl rfl (g_e rfl (e_anW rfl rfl hn ha) (g_e rfl (e_eq rfl rfl) ?_)))))));refine g_pT rfl rfl rfl (g_aS rfl rfl (g_end (ds := [13, 14, 15, 16, 17, 18, 19, 20]) rfl rfl (hK2 _ ?_))); clear hK2 K2;refine zAh (end1 (v := .sc _) rfl ?_);exact out_b (by unfold canB; simp_all)
 try simp only [zz] at hb3
 iterate 8 refine gk_ ?_
 refine g_pF rfl rfl rfl (g_aS rfl rfl (g_end (ds := [13, 14, 15, 16, 17, 18, 19, 20]) rfl rfl (hK2 _ ?_))); clear hK2 K2;refine zAh (end1 (v := .sc _) rfl ?_);exact out_b (by unfold canB; simp_all)
theorem movesC (s : Sets) (l k : Int) (hl : -1 ≤ l ∧ l < s.tasks.length) (hk : 0 ≤ k ∧ k < s.tasks.length) : PCalls Tryz.prog 51 [.agg s.enc, .int l, .int k] (.int (mvF s.tasks l k)) := by
 refine pco Tryz.func51 rfl rfl (.sc _) (zAa rfl fun K1 hK1 => p_new rfl (e_box (n := 2) rfl rfl) ⟨rfl, by decide⟩ (p_aS rfl (p_end (hK1 _ ?_))));refine zAf (zAm rfl fun K2 hK2 => zAM (g_mS rfl rfl (g_e rfl (e_ge rfl rfl) (g_mS rfl rfl ?_))));refine zAw (fun hb3 => ?_) (fun hb3 => ?_)
 ·try simp only [zz] at hb3
  refine g_e rfl (e_faQ pl2 rfl) (g_e rfl (e_lH (v := .lit _ _ _) rfl w_ rfl) (g_mS rfl rfl (g_e rfl (e_ixL rfl rfl) (g_e rfl (e_fb pl6 rfl) (g_e rfl (e_lL (v := .sc _) rfl ((zAV (zJg (by omega)) _).trans rfl)) (g_e rfl (e_faQ pl2 rfl) (g_e rfl (e_lH (v := .lit _ _ _) rfl w_ rfl) ?_)))))));refine g_mS rfl rfl (g_e rfl (e_ixL rfl rfl) (g_e rfl (e_fb pl6 rfl) (g_e rfl (e_lL (v := .sc _) rfl ((zAV (zJg (by omega)) _).trans rfl)) (g_e rfl (e_ne rfl rfl) (g_pT rfl rfl rfl (g_end (ds := [10, 11, 12, 13, 14, 15, 16, 17, 18, 19, 20, 21, 22]) (by kernel_rfl) rfl (hK2 _ ?_)))))));refine zAe rfl fun K4 hK4 => ⟨fun hb5 => ?_, fun hb5 => ?_⟩
  ·try simp only [zz] at hb5
   refine zAa rfl fun K6 hK6 => p_aS rfl (p_end (hK6 _ ?_));refine zAh (zAk (end1 (v := .sc _) rfl ?_));exact out_i (mv_1 (by assumption) (by unfold plc; assumption))
  try simp only [zz] at hb5
  refine zAl (zAb (hK4 _ ?_));refine zAa rfl fun K7 hK7 => p_aS rfl (p_end (hK7 _ ?_));refine zAh (end1 (v := .sc _) rfl ?_);exact out_i (mv_0 (by unfold plc; omega))
 try simp only [zz] at hb3
 iterate 13 refine gk_ ?_
 refine g_pF rfl rfl rfl (g_end (ds := [10, 11, 12, 13, 14, 15, 16, 17, 18, 19, 20, 21, 22]) (by kernel_rfl) rfl (hK2 _ ?_));refine zAe (t := false) rfl fun K8 hK8 => ⟨nofun, fun _ => ?_⟩
 refine zAl (zAb (hK8 _ ?_));refine zAa rfl fun K9 hK9 => p_aS rfl (p_end (hK9 _ ?_));refine zAh (end1 (v := .sc _) rfl ?_);exact out_i (mv_0 (by unfold plc; omega))
theorem smallC (xs : List Task) (hl : xs.length ≤ 10000) (hq : Fair xs) : zAy Tryz.prog 48 [.lit true 6 (xs.map Task.enc)] (fun _ => none) (fun _ => 0) (fun v h _ => zKF xs v h) := by
 refine hco Tryz.func48 rfl rfl (zAa rfl fun K1 hK1 => p_new rfl (zAR (cs := [.nil, .nil]) (n := 2) (by kernel_rfl) rfl (by decide)) (zAG (by decide)) (p_aS rfl (p_end (hK1 _ ?_))));refine zAf (zAa rfl fun K2 hK2 => p_e rfl (zAi (v := .lit _ _ _) rfl) (zBs rfl (.cons zBV .nil) (zMF _ hl hq) (p_aS rfl (p_end (hK2 _ ?_)))));refine zAf (zAa rfl fun K3 hK3 => p_mS rfl (p_e rfl (e_ne rfl rfl) (p_end (hK3 _ ?_))));refine zAe rfl fun K4 hK4 => ⟨fun hb5 => ?_, fun hb5 => ?_⟩
 ·have hb5R := hb5; try simp only [zz] at hb5
  refine zAa rfl fun K6 hK6 => p_e rfl (zCt (zs := [.nil, .nil]) (pl := [(0, 1, false), (1, 1, false)]) (by kernel_rfl) (by kernel_rfl) (by kernel_rfl) rfl rfl (by exact trivial) rfl) (p_mS rfl (zAQ rfl (zAB rfl w_ rfl rfl rfl (by kernel_rfl) rfl (by kernel_rfl)) trivial (p_aS rfl (p_end (hK6 _ ?_)))));refine zAh (zAk (endCT rfl w_ (by kernel_rfl) (by kernel_rfl) (by kernel_rfl) rfl rfl ?_));exact small_p (by assumption)
 have hb5R := hb5; try simp only [zz] at hb5
 refine zAl (zAb (hK4 _ ?_));refine zAf ?_;have hpl : planE xs = 0 := (by assumption)
 refine zAa rfl fun K7 hK7 => p_e rfl (zAi (v := .lit _ _ _) rfl) (p_e rfl (e_len rfl (by kernel_rfl)) (p_e rfl (e_gt rfl rfl) (p_end (hK7 _ ?_))));refine zAe rfl fun K8 hK8 => ⟨fun hb9 => ?_, fun hb9 => ?_⟩
 ·have hb9R := hb9; try simp only [zz] at hb9
  refine zAa rfl fun K10 hK10 => p_e rfl (zCt (zs := [.nil, .nil]) (pl := [(0, 1, false), (1, 1, false)]) (by kernel_rfl) (by kernel_rfl) (by kernel_rfl) rfl rfl (by exact trivial) rfl) (zAQ rfl (zAB rfl w_ rfl rfl rfl (by kernel_rfl) rfl (by kernel_rfl)) trivial (p_aS rfl (p_end (hK10 _ ?_))));refine zAh (zAk (endCT rfl w_ (by kernel_rfl) (by kernel_rfl) (by kernel_rfl) rfl rfl ?_));exact small_8 (by omega) (by simp only [lM] at *; omega)
 have hb9R := hb9; try simp only [zz] at hb9
 refine zAl (zAb (hK8 _ ?_));refine zAa rfl fun K11 hK11 => p_e rfl (zAi (v := .lit _ _ _) rfl) (p_e rfl (zCt (zs := [.nil, .nil]) (pl := [(0, 1, false), (1, 1, false)]) (by kernel_rfl) (by kernel_rfl) (by kernel_rfl) rfl rfl (by exact ⟨by decide, rfl, nb_, rfl, trivial⟩) rfl) (p_new rfl (zAR (cs := [.nil, .nil]) (n := 2) (by kernel_rfl) rfl (by decide)) (zAG (by decide)) (zAQ rfl (zAB rfl w_ rfl rfl rfl (by kernel_rfl) rfl (by kernel_rfl)) trivial (p_end (hK11 _ ?_)))));refine zAf (zAa rfl fun K12 hK12 => p_e rfl (zAi (v := .lit _ _ _) rfl) (p_e rfl (e_len rfl (by kernel_rfl)) (p_mS rfl (p_end (hK12 _ ?_)))));refine zAg fun K13 hK13 => zAE (α := Nat × PV) [2, 5, 23, 24] (fun (a14 : Nat × PV) => [(25, .int (a14.1))]) (fun (a14 : Nat × PV) (h : Heap) (_ : Nat → Nat) => ((a14.1) ≤ xs.length) ∧ (zAq h 45 (a14.2) 1 ((bitsL (xs.take (a14.1))).map cN)) ∧ (h (2, 0) = some (.rows 2 [[.nil, .nil]])) ∧ (h (5, 0) = some (.rows 2 [[.lit true 6 (xs.map Task.enc), (a14.2)]]))) (fun (a14 : Nat × PV) => xs.length - (a14.1)) (0, .nil) (by exact ⟨rfl, trivial⟩) (by exact ⟨by exact Nat.zero_le _, by exact .nil, (h2_ w_), w_⟩) fun a14 r15 h16 c17 hj18 => ?_;obtain ⟨k, w⟩ := a14;obtain ⟨hk, hws, hihj18_0, hihj18_1⟩ := hj18;try dsimp only at hk
 try dsimp only at hws
 try dsimp only at hihj18_0
 try dsimp only at hihj18_1
 show pwp _ _ (loopQ _ _ _) ⟨sets (mix _ _ _) [(25, .int k)], _, _⟩;refine zAa rfl fun K19 hK19 => p_e rfl (e_lt rfl rfl) (p_end (hK19 _ ?_));refine zAe rfl fun K20 hK20 => ⟨fun hb21 => ?_, fun hb21 => ?_⟩
 ·have hb21R := hb21; try simp only [zz] at hb21
  obtain ⟨x, hx, hd, ht⟩ := zBx (xs := xs) (i := k) (by omega);have hqx := hq x (List.mem_of_getElem? hx);have hzx := (task_needs (by have := zGp (zHS hpl) k x hx; rw [Nat.zero_add] at this; exact this)).2.2.2.1;have hbl : (bitsL (xs.take k)).length ≤ 14 := by simp only [bitsL, lM, List.length_take]; omega
  refine zAl (zAb (hK20 _ ?_));refine zAg fun K22 hK22 => zAa rfl fun K23 hK23 => p_e rfl (e_ixL rfl rfl) (p_e rfl (e_lB (n := 6) rfl (by first | exact zBj hx rfl)) (p_new rfl (zAR (cs := [.str ByteArray.empty, .str ByteArray.empty, .int 0, .int 0, .int 0, .nil]) (n := 6) (by kernel_rfl) rfl (by decide)) (zAG (by decide)) (zAQ rfl (zAB rfl w_ rfl rfl rfl (by kernel_rfl) rfl (by kernel_rfl)) trivial (p_end (hK23 _ ?_)))));refine zAa rfl fun K24 hK24 => p_aS rfl (p_end (hK24 _ ?_));refine zAf (zAa rfl fun K25 hK25 => p_e rfl (e_faQ pl6 rfl) (p_e rfl (e_lH (v := .lit _ _ _) rfl w_ rfl) (p_e rfl (e_len rfl (by kernel_rfl)) (p_mS rfl (p_end (hK25 _ ?_))))));refine zAg fun K26 hK26 => zAE (α := Nat × Nat) [2, 5, 23, 24, 25, 30, 31] (fun (a27 : Nat × Nat) => [(8, .sc (.int .u64 ((a27.2) : Int))), (32, .int (a27.1))]) (fun (a27 : Nat × Nat) (h : Heap) (_ : Nat → Nat) => ((a27.1) ≤ x.needs.length) ∧ ((a27.2) = bitsP x.needs (a27.1)) ∧ (zAq h 45 w 1 ((bitsL (xs.take k)).map cN)) ∧ (h (2, 0) = some (.rows 2 [[.nil, .nil]])) ∧ (h (5, 0) = some (.rows 2 [[.lit true 6 (xs.map Task.enc), w]]))) (fun (a27 : Nat × Nat) => x.needs.length - (a27.1)) (0, 0) (by exact ⟨rfl, rfl, trivial⟩) (by exact ⟨by exact Nat.zero_le _, by exact rfl, by exact hws.keep fun g => h2_ (rfl), (h2_ hihj18_0), (h2_ hihj18_1)⟩) fun a27 r28 h29 c30 hj31 => ?_;obtain ⟨j, b⟩ := a27;obtain ⟨hj, hbj, hws, hihj31_0, hihj31_1⟩ := hj31;try dsimp only at hj
  try dsimp only at hbj
  try dsimp only at hws
  try dsimp only at hihj31_0
  try dsimp only at hihj31_1
  show pwp _ _ (loopQ _ _ _) ⟨sets (mix _ _ _) [(8, .sc (.int .u64 (b : Int))), (32, .int j)], _, _⟩;refine zAa rfl fun K32 hK32 => p_e rfl (e_lt rfl rfl) (p_end (hK32 _ ?_));refine zAe rfl fun K33 hK33 => ⟨fun hb34 => ?_, fun hb34 => ?_⟩
  ·have hb34R := hb34; try simp only [zz] at hb34
   obtain ⟨hz0, hz1⟩ := hzx _ (zHE (l := x.needs) (i := j) (by simp only [lM] at *; omega));have hzj : x.needs[j]? = some ((at0 x.needs j).toNat : Int) := by rw [zBt (by simp only [lM] at *; omega), Int.toNat_of_nonneg hz0]
   have hzt := zFm (k := (at0 x.needs j).toNat) (by omega);have hbt := zKf (j := j) (n := 14) fun z hz => ⟨(hzx z hz).1, by have := (hzx z hz).2; omega⟩
   refine zAl (zAb (hK33 _ ?_));refine zAg fun K35 hK35 => zAa rfl fun K36 hK36 => p_e rfl (e_ixL rfl rfl) (p_e rfl (e_lL (v := .sc _) rfl ((zAV hzj _).trans rfl)) (p_aS rfl (p_end (hK36 _ ?_))));refine zAn rfl fun K37 hK37 => p_mS rfl (p_mS rfl (p_e rfl (zKB (k := (at0 x.needs j).toNat) rfl rfl (by omega)) (p_e rfl (e_orW rfl rfl (by rw [hbj]; omega) hzt) (p_aS rfl (p_end (hK37 _ ?_))))));refine zAj (zAb (hK35 _ ?_));refine zAn rfl fun K38 hK38 => p_e rfl (e_add rfl rfl (by omega)) (p_mS rfl (p_end (hK38 _ ?_)));exact zAo ((j + 1, b ||| 2 ^ (at0 x.needs j).toNat)) (by show _ < _; simp only; omega) ⟨rfl, rfl, rfl, rfl, rfl, rfl, rfl, trivial⟩ ⟨rfl, rfl, trivial⟩ (by exact ⟨by show _ + 1 ≤ _; simp only [lM] at *; omega, by (rw [bitsP_succ (by simp only [lM] at *; omega), ← hbj]), by exact hws, hihj31_0, hihj31_1⟩)
  have hb34R := hb34; try simp only [zz] at hb34
  have hjl : j = x.needs.length := by simp only [lM] at *; omega
  refine zAJ (zAK ?_);clear hK33 K33;refine zAC (zAA (zAb (hK26 _ ?_)));refine zAn rfl fun K39 hK39 => p_e rfl (e_faQ pl2 rfl) (p_e rfl (zDV (v := w) rfl hihj31_1 (by kernel_rfl) (by kernel_rfl) (by kernel_rfl) (by exact Nat.zero_lt_one) (by decide) rfl) (p_mS rfl (p_new rfl (zB4 (rows := [cN b]) (zs := [.sc (.int .u64 0)]) (sz := 1) (by kernel_rfl) (by kernel_rfl) rfl (by kernel_rfl) (by decide) rfl rfl (by exact ⟨by decide, rfl, rfl, trivial⟩) rfl) trivial (p_app rfl rfl rfl ((hws.keep fun g => rfl).keep fun _ => h1_ (rfl)) (zCq w_ rfl) (by kernel_rfl) (by simp only [List.length_append, lM, List.length_nil, List.length_cons]; omega) fun v40 h41 c42 hs43 hf44 => ?_))));have ho45 := (hf44 (2, _) (zAv rfl) (fun _ _ => zAv rfl)).trans (h1_ hihj31_0);have ho46 := (hf44 (5, _) (zAv rfl) (fun _ _ => zAv rfl)).trans (h1_ hihj31_1);have ho47 := (hf44 (44, _) (zAv rfl) (fun _ _ => zAv rfl)).trans w_;refine p_e rfl (e_faQ pl2 rfl) ?_;obtain ⟨g48, ev50, hg49⟩ := zAq.isRef hs43 (by simp);subst ev50;refine zAQ rfl (zGV rfl ho46 rfl rfl rfl (by decide) (by kernel_rfl) rfl (by kernel_rfl)) trivial (p_end (hK39 _ ?_));refine zAj (zAb (hK22 _ ?_));refine zAn rfl fun K51 hK51 => p_e rfl (e_add rfl rfl (by omega)) (p_mS rfl (p_end (hK51 _ ?_)));exact zAo ((k + 1, _)) (by show _ < _; simp only; omega) ⟨rfl, rfl, rfl, rfl, trivial⟩ ⟨rfl, trivial⟩ (by exact ⟨by show _ + 1 ≤ _; omega, by (show zAq _ 45 _ 1 ((bitsL (xs.take (k + 1))).map cN); rw [ht, show bitsL (xs.take k ++ [x]) = bitsL (xs.take k) ++ [b] by (simp only [bitsL, List.map_append, List.map_cons, List.map_nil]; rw [hbj, hjl])]; exact zAq.to (.ofRef (h1_ hg49) (by simp)) (by simp only [List.map_append, List.map_cons, List.map_nil])), (h1_ ho45), w_⟩)
 have hb21R := hb21; try simp only [zz] at hb21
 obtain rfl : k = xs.length := by simp only [lM] at *; omega
 rw [List.take_length] at hws;refine zAJ (zAK ?_);clear hK20 K20;refine zAC (zAA (zAb (hK13 _ ?_)));refine zAa rfl fun K52 hK52 => p_e rfl (e_lA (n := 2) (cs := [.lit true 6 (xs.map Task.enc), w]) rfl hihj18_1) (zAQ rfl (zAB rfl hihj18_0 rfl rfl rfl (by kernel_rfl) (by simp only [List.all_cons, List.all_nil, Bool.and_true, zAq.cell hws]; rfl) (by kernel_rfl)) trivial (p_aS rfl (p_end (hK52 _ ?_))));refine zAh (endCT rfl w_ (by kernel_rfl) (by kernel_rfl) (by kernel_rfl) rfl rfl ?_);exact small_0 (by omega) (by simp only [lM] at *; omega) (hws.keep fun g => h1_ (rfl))
theorem can_iff {l : List Int} {a k : Nat} (ha : a < 4611686018427387904) (hl : ∀ z ∈ l, 0 ≤ z ∧ z < 14) : canB (bitsP l l.length) a k = true ↔ a.testBit k = false ∧ ∀ z ∈ l, a.testBit z.toNat = true := by
 have h0 : ∀ (m : List Int) (b i : Nat), (m.foldl (fun b z => b ||| 2 ^ z.toNat) b).testBit i = (b.testBit i || m.any fun z => decide (z.toNat = i)) := by
   intro m;induction m with
   | nil => intro b i; simp
   | cons z m ih =>
     intro b i;rw [List.foldl_cons, ih, Nat.testBit_or, Nat.testBit_two_pow, List.any_cons, Bool.or_assoc]
 have h1 : ∀ i, (bitsP l l.length).testBit i = l.any fun z => decide (z.toNat = i) := fun i => by
   rw [bitsP, List.take_length, h0]; simp
 have h2 : ∀ i, (18446744073709551615 - a).testBit i = (decide (i < 64) && !a.testBit i) := fun i => by
   have := Nat.testBit_two_pow_sub_succ (x := a) (n := 64) (by omega) i;rw [show 2 ^ 64 - (a + 1) = 18446744073709551615 - a by omega] at this;exact this
 have h3 : ((a / 2 ^ k) &&& 1 = 0) ↔ a.testBit k = false := by
   rw [Nat.testBit, Nat.shiftRight_eq_div_pow, Nat.and_comm];cases h : (1 &&& a / 2 ^ k) with
   | zero => simp
   | succ n => simp
 have h4 : (bitsP l l.length &&& (18446744073709551615 - a) = 0) ↔ ∀ z ∈ l, a.testBit z.toNat = true := by
   constructor
   · intro h z hz;have h5 : (bitsP l l.length &&& (18446744073709551615 - a)).testBit z.toNat = false := by rw [h]; exact Nat.zero_testBit _
     rw [Nat.testBit_and, h1, h2] at h5;have h6 : (l.any fun y => decide (y.toNat = z.toNat)) = true := List.any_eq_true.2 ⟨z, hz, by simp⟩;have h7 := hl z hz;rw [h6, show decide (z.toNat < 64) = true from decide_eq_true (by omega)] at h5;simpa using h5
   · intro h;apply Nat.eq_of_testBit_eq;intro i;rw [Nat.testBit_and, h1, h2, Nat.zero_testBit];cases e : (l.any fun z => decide (z.toNat = i)) with
     | false => rfl
     | true =>
       obtain ⟨z, hz, h5⟩ := List.any_eq_true.1 e;have h5 := of_decide_eq_true h5;rw [← h5, h z hz]; simp
 unfold canB;rw [Bool.and_eq_true, decide_eq_true_eq, decide_eq_true_eq, ← h3, ← h4];exact ⟨fun ⟨p, q⟩ => ⟨by exact_mod_cast p, by exact_mod_cast q⟩, fun ⟨p, q⟩ => ⟨by exact_mod_cast p, by exact_mod_cast q⟩⟩
theorem or_gt {a k : Nat} (h : a.testBit k = false) : a < a ||| 2 ^ k := by
 have h1 : a ≤ a ||| 2 ^ k := Nat.left_le_or
 rcases Nat.lt_or_eq_of_le h1 with h2 | h2
 · exact h2
 · have h3 : (a ||| 2 ^ k).testBit k = a.testBit k := by rw [← h2]
   rw [Nat.testBit_or, Nat.testBit_two_pow_self, h] at h3;simp at h3
theorem or_lt {a k n : Nat} (ha : a < 2 ^ n) (hk : k < n) : a ||| 2 ^ k < 2 ^ n := Nat.or_lt_two_pow ha (Nat.pow_lt_pow_right (by decide) hk)
abbrev nbD (xs : List Task) (k : Nat) : Nat := (bitsL xs).getD k 0
def bstG (xs : List Task) (V : Nat → Nat → Int) (a l : Nat) : Nat → Int
 | 0 => 1048576
 | k + 1 => if canB (nbD xs k) a k = true then min (bstG xs V a l k) (mvF xs l k + V (a ||| 2 ^ k) k) else bstG xs V a l k
def DV (xs : List Task) : Nat → Nat → Nat → Int
 | 0, _, _ => 0
 | f + 1, a, l => if 2 ^ xs.length - 1 ≤ a then 0 else bstG xs (DV xs f) a l xs.length
def DX (xs : List Task) (a l : Nat) : Int := DV xs (2 ^ xs.length) a l
theorem mvF_b {xs : List Task} {l k : Int} : 0 ≤ mvF xs l k ∧ mvF xs l k ≤ 1 := by unfold mvF; split <;> omega
theorem zLW {xs : List Task} {V : Nat → Nat → Int} (hV : ∀ a l, 0 ≤ V a l) {a l : Nat} : ∀ k, 0 ≤ bstG xs V a l k ∧ bstG xs V a l k ≤ 1048576
 | 0 => by unfold bstG; omega
 | k + 1 => by
   have h1 := zLW (xs := xs) hV (a := a) (l := l) k;have h2 := hV (a ||| 2 ^ k) k;have h3 := mvF_b (xs := xs) (l := l) (k := k);unfold bstG;split
   · rw [Int.min_def]; split <;> omega
   · exact h1
theorem DV_b {xs : List Task} : ∀ (f a l : Nat), 0 ≤ DV xs f a l ∧ DV xs f a l ≤ 1048576
 | 0, _, _ => by unfold DV; omega
 | f + 1, a, l => by
   unfold DV;split
   · omega
   · exact zLW (fun a l => (DV_b f a l).1) _
theorem DX_b {xs : List Task} {a l : Nat} : 0 ≤ DX xs a l ∧ DX xs a l ≤ 1048576 := DV_b _ _ _
theorem zFS {xs : List Task} {V W : Nat → Nat → Int} {a l : Nat} : ∀ (k : Nat), (∀ j, j < k → canB (nbD xs j) a j = true → V (a ||| 2 ^ j) j = W (a ||| 2 ^ j) j) → bstG xs V a l k = bstG xs W a l k
 | 0, _ => rfl
 | k + 1, h => by
   have h1 := zFS (l := l) k fun j hj => h j (by omega);unfold bstG;rw [h1];split
   · rename_i h2; rw [h k (by omega) h2]
   · rfl
theorem zHC {nb a k : Nat} (h : canB nb a k = true) : a.testBit k = false := by
 unfold canB at h;rw [Bool.and_eq_true, decide_eq_true_eq] at h;have h1 : (a / 2 ^ k) &&& 1 = 0 := by exact_mod_cast h.1
 rw [Nat.testBit, Nat.shiftRight_eq_div_pow, Nat.and_comm, h1]; rfl
theorem DV_fuel {xs : List Task} : ∀ (g a l f f' : Nat), a < 2 ^ xs.length → 2 ^ xs.length - 1 - a ≤ g → g ≤ f → g ≤ f' → DV xs f a l = DV xs f' a l := by
 intro g;induction g with
 | zero =>
   intro a l f f' ha hg _ _
   have h0 : ∀ f, DV xs f a l = 0 := fun f => by
     cases f with
     | zero => rfl
     | succ f => unfold DV; rw [if_pos (by omega)]
   rw [h0, h0]
 | succ g ih =>
   intro a l f f' ha hg hf hf';obtain ⟨f, rfl⟩ : ∃ f0, f = f0 + 1 := ⟨f - 1, by omega⟩
   obtain ⟨f', rfl⟩ : ∃ f0, f' = f0 + 1 := ⟨f' - 1, by omega⟩
   unfold DV;split
   · rfl
   · refine zFS _ fun j hj hc => ih _ _ _ _ (or_lt ha hj) ?_ (by omega) (by omega);have := or_gt (zHC hc);omega
theorem DX_eq {xs : List Task} {a l : Nat} (ha : a < 2 ^ xs.length) : DX xs a l = if 2 ^ xs.length - 1 ≤ a then 0 else bstG xs (DX xs) a l xs.length := by
 have h0 : 2 ^ xs.length = (2 ^ xs.length - 1) + 1 := by omega
 have h1 : DX xs a l = DV xs ((2 ^ xs.length - 1) + 1) a l := by rw [← h0]; rfl
 rw [h1];show (if 2 ^ xs.length - 1 ≤ a then 0 else bstG xs (DV xs (2 ^ xs.length - 1)) a l xs.length) = _;split
 · rfl
 · refine zFS _ fun j hj hc => ?_;have := or_gt (zHC hc);exact DV_fuel (2 ^ xs.length - 1 - (a ||| 2 ^ j)) _ _ _ _ (or_lt ha hj) (Nat.le_refl _) (by omega) (by omega)
theorem zKx {a l n m : Nat} (ha : a < m) (hl : l < n) : a * n + l < m * max n 1 := by
 have h1 : (a + 1) * n ≤ m * n := Nat.mul_le_mul_right _ ha;rw [Nat.add_mul, Nat.one_mul] at h1;rw [show max n 1 = n by omega]; omega
theorem zLf {a b l k n : Nat} (hl : l < n) (hk : k < n) (h : a * n + l = b * n + k) : a = b ∧ l = k := by
 have h1 : (a * n + l) / n = a := by rw [Nat.mul_comm, Nat.mul_add_div (by omega), Nat.div_eq_of_lt hl, Nat.add_zero]
 have h2 : (b * n + k) / n = b := by rw [Nat.mul_comm, Nat.mul_add_div (by omega), Nat.div_eq_of_lt hk, Nat.add_zero]
 have h3 : a = b := by rw [← h1, h, h2]
 subst h3;exact ⟨rfl, by omega⟩
structure RI (xs : List Task) (r : List Int) (z : Int) : Prop where
 len : r.length = 2 ^ xs.length * max xs.length 1
 val : ∀ a l : Nat, z < (a : Int) → a < 2 ^ xs.length → l < xs.length → at0 r (a * xs.length + l) = DX xs a l
structure RM (xs : List Task) (r : List Int) (z : Int) (k : Nat) : Prop where
 ri : RI xs r z
 row : ∀ l : Nat, l < k → at0 r (z.toNat * xs.length + l) = DX xs z.toNat l
theorem RI.start {xs : List Task} : RI xs (List.replicate (2 ^ xs.length * max xs.length 1) 0) (((2 ^ xs.length - 1 : Nat) : Int) - 1) := by
 refine ⟨List.length_replicate, fun a l h1 h2 h3 => ?_⟩;rw [DX_eq h2, if_pos (by omega)];simp only [at0, List.getD_eq_getElem?_getD, List.getElem?_replicate];split <;> rfl
theorem RI.mid {xs : List Task} {r : List Int} {z : Int} (h : RI xs r z) : RM xs r z 0 := ⟨h, fun l hl => absurd hl (Nat.not_lt_zero _)⟩
theorem RM.step {xs : List Task} {r : List Int} {z v : Int} {k : Nat} (h : RM xs r z k) (hz : 0 ≤ z ∧ z < ((2 ^ xs.length - 1 : Nat) : Int)) (hk : k < xs.length) (hv : v = bstG xs (DX xs) z.toNat k xs.length) : RM xs (r.set (z.toNat * xs.length + k) v) z (k + 1) := by
 have hl : z.toNat * xs.length + k < r.length := by rw [h.ri.len]; exact zKx (by omega) hk
 refine ⟨⟨by rw [List.length_set]; exact h.ri.len, fun a l h1 h2 h3 => ?_⟩, fun l h1 => ?_⟩
 · rw [zEB hl, if_neg fun e => by have := (zLf hk h3 e).1; omega];exact h.ri.val a l h1 h2 h3
 · rw [zEB hl];split
   · rename_i e;have := (zLf hk (by omega) e).2;subst this;rw [hv, DX_eq (by omega), if_neg (by omega)]
   · rename_i e
     exact h.row l (by
       have : l ≠ k := fun q => e (by rw [q]);omega)
theorem RM.stop {xs : List Task} {r : List Int} {z : Int} {k : Nat} (h : RM xs r z k) (hz : 0 ≤ z) (hk : xs.length ≤ k) : RI xs r (z - 1) := by
 refine ⟨h.ri.len, fun a l h1 h2 h3 => ?_⟩;by_cases e : z.toNat = a
 · subst e; exact h.row l (by omega)
 · exact h.ri.val a l (by omega) h2 h3
theorem zK5 {nd : List (List Int)} : ∀ (f : Nat) {D : List Int}, OrdAt nd D → OrdAt nd (ordF nd f D)
 | 0, D, h => h
 | f + 1, D, h => by
   unfold ordF;cases e : zGI nd D with
   | none => exact h
   | some i =>
     rw [zGI, List.find?_range_eq_some] at e;obtain ⟨h1, h2, h3⟩ := e;refine zK5 f (h.step (List.mem_range.1 h2) h1 fun j hj hr => ?_);rcases Nat.lt_or_ge j i with h4 | h4
     · have h5 := h3 j h4; rw [hr] at h5; cases h5
     · exact h4
theorem zK4 {nd : List (List Int)} {A : Int → Prop} (hA : ∀ i : Nat, i < nd.length → ¬ A i → ∃ z ∈ nd_ nd i, ¬ A z) : ∀ (f : Nat) {D : List Int}, (∀ x ∈ D, A x) → ∀ x ∈ ordF nd f D, A x
 | 0, D, h => h
 | f + 1, D, h => by
   unfold ordF;cases e : zGI nd D with
   | none => exact h
   | some i =>
     refine zK4 hA f fun x hx => ?_;rcases List.mem_append.1 hx with h1 | h1
     · exact h x h1
     · have h1 := List.mem_singleton.1 h1;subst h1;rw [zGI, List.find?_range_eq_some] at e;obtain ⟨h2, h3, _⟩ := e;have h4 := zCm.1 h2;refine Classical.byContradiction fun hn => ?_;obtain ⟨z, hz, hz2⟩ := hA i (List.mem_range.1 h3) hn;exact hz2 (h z (h4.2 z hz))
theorem ord_all {nd : List (List Int)} (h : ¬ (ordR nd).length < nd.length) {i : Nat} (hi : i < nd.length) : (i : Int) ∈ ordR nd := by
 have h1 := (zK5 (nd := nd) nd.length .nil).len
 have h2 : leftR nd (ordR nd) = 0 := by
   have : (ordR nd).length + leftR nd (ordR nd) = nd.length := h1;omega
 have h3 := List.eq_nil_of_length_eq_zero h2;rw [List.filter_eq_nil_iff] at h3;have := h3 i (List.mem_range.2 hi);simpa using this
theorem zIr {xs : List Task} (h : planE xs = 0) : ¬ (ordR (ndX xs)).length < (ndX xs).length := by
 rw [zCV];unfold planE at h;split at h
 · cases h
 · split at h
   · rename_i h1; exact absurd h h1
   · split at h
     · cases h
     · assumption
theorem zKL {xs : List Task} (h : planE xs = 0) {k : Nat} {t : Task} (ht : xs[k]? = some t) : rngT t ∧ isNm t.name = true ∧ isNm t.trade = true ∧ (∀ z ∈ t.needs, 0 ≤ z ∧ z < xs.length) ∧ ascB t.needs = true :=
 task_needs (by have := zGp (zHS h) k t ht; rw [Nat.zero_add] at this; exact this)
theorem zMd {xs : List Task} {k : Nat} {t : Task} (ht : xs[k]? = some t) : nbD xs k = bitsP t.needs t.needs.length := by
 simp [nbD, bitsL, List.getD_eq_getElem?_getD, List.getElem?_map, ht]
theorem nbD_can {xs : List Task} (h : planE xs = 0) (hn : xs.length ≤ 14) {a k : Nat} (ha : a < 4611686018427387904) {t : Task} (ht : xs[k]? = some t) : canB (nbD xs k) a k = true ↔ a.testBit k = false ∧ ∀ z ∈ t.needs, a.testBit z.toNat = true := by
 rw [zMd ht];exact can_iff ha fun z hz => by have := (zKL h ht).2.2.2.1 z hz; omega
theorem nbD_lt {xs : List Task} (h : planE xs = 0) (hn : xs.length ≤ 14) (k : Nat) : nbD xs k < 4611686018427387904 := by
 cases hx : xs[k]? with
 | none =>
   have : nbD xs k = 0 := by simp [nbD, bitsL, List.getD_eq_getElem?_getD, List.getElem?_map, hx]
   omega
 | some t =>
   rw [zMd hx];exact Nat.lt_of_lt_of_le (zKf (n := 14) fun z hz => by have := (zKL h hx).2.2.2.1 z hz; omega) (by decide)
theorem can_some {xs : List Task} (h : planE xs = 0) (hn : xs.length ≤ 14) {a i : Nat} (ha : a < 4611686018427387904) (hi : i < xs.length) (hb : a.testBit i = false) : ∃ k, k < xs.length ∧ canB (nbD xs k) a k = true := by
 refine Classical.byContradiction fun hno => ?_
 have h1 := zK4 (nd := ndX xs) (A := fun x => a.testBit x.toNat = true) (fun j hj hnj => by
   rw [zCV] at hj;obtain ⟨t, ht⟩ : ∃ t, xs[j]? = some t := ⟨_, List.getElem?_eq_getElem hj⟩
   refine Classical.byContradiction fun hq => hno ⟨j, hj, (nbD_can h hn ha ht).2 ⟨by simpa using hnj, fun z hz => ?_⟩⟩;refine Classical.byContradiction fun hz2 => hq ⟨z, by rw [zEI ht]; exact hz, hz2⟩) (ndX xs).length (D := []) (fun x hx => by cases hx)
 have h2 := h1 _ (ord_all (zIr h) (by rw [zCV]; exact hi));rw [Int.toNat_natCast, hb] at h2;cases h2
def nxtG (xs : List Task) (a : Nat) (l : Int) : Nat → Int × Int
 | 0 => (-1, 1048576)
 | k + 1 => if canB (nbD xs k) a k = true then (if (nxtG xs a l k).1 < 0 ∨ mvF xs l k + DX xs (a ||| 2 ^ k) k < (nxtG xs a l k).2 then ((k : Int), mvF xs l k + DX xs (a ||| 2 ^ k) k) else nxtG xs a l k) else nxtG xs a l k
def nxtX (xs : List Task) (a : Nat) (l : Int) : Int := (nxtG xs a l xs.length).1
structure Way where
 a : Nat
 l : Int
 out : List Int
 sum : Int
def grdF (xs : List Task) : Nat → Way
 | 0 => ⟨0, -1, [], 0⟩
 | i + 1 => ⟨(grdF xs i).a ||| 2 ^ (nxtX xs (grdF xs i).a (grdF xs i).l).toNat, nxtX xs (grdF xs i).a (grdF xs i).l, (grdF xs i).out ++ [nxtX xs (grdF xs i).a (grdF xs i).l], (grdF xs i).sum + mvF xs (grdF xs i).l (nxtX xs (grdF xs i).a (grdF xs i).l)⟩
theorem zJG {xs : List Task} {a : Nat} {l : Int} : ∀ k : Nat, (nxtG xs a l k).1 = -1 ∧ (∀ j, j < k → canB (nbD xs j) a j = false) ∨ ∃ j : Nat, (nxtG xs a l k).1 = (j : Int) ∧ j < k ∧ canB (nbD xs j) a j = true
 | 0 => .inl ⟨rfl, fun j hj => absurd hj (Nat.not_lt_zero _)⟩
 | k + 1 => by
   have ih := zJG (xs := xs) (a := a) (l := l) k;unfold nxtG;split
   · rename_i hc;split
     · exact .inr ⟨k, rfl, Nat.lt_succ_self _, hc⟩
     · rename_i hn;rcases ih with ⟨h1, _⟩ | ⟨j, h1, h2, h3⟩
       · exact absurd (.inl (by omega)) hn
       · exact .inr ⟨j, h1, by omega, h3⟩
   · rename_i hc;rcases ih with ⟨h1, h2⟩ | ⟨j, h1, h2, h3⟩
     · refine .inl ⟨h1, fun j hj => ?_⟩;rcases Nat.lt_succ_iff_lt_or_eq.1 hj with h4 | rfl
       · exact h2 j h4
       · simpa using hc
     · exact .inr ⟨j, h1, by omega, h3⟩
theorem zL8 {xs : List Task} {a : Nat} {l : Int} : ∀ k : Nat, 0 ≤ (nxtG xs a l k).2 ∧ (nxtG xs a l k).2 ≤ 1048577
 | 0 => by unfold nxtG; omega
 | k + 1 => by
   have ih := zL8 (xs := xs) (a := a) (l := l) k;have h1 := mvF_b (xs := xs) (l := l) (k := k);have h2 := DX_b (xs := xs) (a := a ||| 2 ^ k) (l := k);unfold nxtG;split
   · split
     · simp only; omega
     · exact ih
   · exact ih
def popN (n a : Nat) : Nat := ((List.range n).filter fun k => a.testBit k).length
theorem popN_step {n a k : Nat} (hk : k < n) (hb : a.testBit k = false) : popN n (a ||| 2 ^ k) = popN n a + 1 := by
 rw [popN, zER (i := k) List.nodup_range (List.mem_range.2 hk) (by rw [Nat.testBit_or, Nat.testBit_two_pow_self, Bool.or_true]), popN];congr 2;refine List.filter_congr fun j _ => ?_;rw [Nat.testBit_or, Nat.testBit_two_pow];by_cases e : k = j
 · subst e; simp [hb]
 · have : j ≠ k := fun q => e q.symm;simp [e, this]
theorem popN_bit {n a : Nat} (h : popN n a < n) : ∃ i, i < n ∧ a.testBit i = false := by
 refine Classical.byContradiction fun hno => ?_
 have : (List.range n).filter (fun k => a.testBit k) = List.range n := List.filter_eq_self.2 fun k hk => by
   cases e : a.testBit k with
   | true => rfl
   | false => exact absurd ⟨k, List.mem_range.1 hk, e⟩ hno
 rw [popN, this, List.length_range] at h;omega
theorem grd_step {xs : List Task} (h : planE xs = 0) (hn : xs.length ≤ 14) : ∀ (i : Nat), i ≤ xs.length → (grdF xs i).a < 2 ^ xs.length ∧ popN xs.length (grdF xs i).a = i ∧ (-1 ≤ (grdF xs i).l ∧ (grdF xs i).l < xs.length) ∧ (0 ≤ (grdF xs i).sum ∧ (grdF xs i).sum ≤ i) ∧ (grdF xs i).out.length = i ∧
   (i < xs.length → ∃ j : Nat, nxtX xs (grdF xs i).a (grdF xs i).l = (j : Int) ∧ j < xs.length ∧ canB (nbD xs j) (grdF xs i).a j = true) := by
 have hnx : ∀ i, i ≤ xs.length → (grdF xs i).a < 2 ^ xs.length → popN xs.length (grdF xs i).a = i → i < xs.length → ∃ j : Nat, nxtX xs (grdF xs i).a (grdF xs i).l = (j : Int) ∧ j < xs.length ∧ canB (nbD xs j) (grdF xs i).a j = true := fun i hi h1 h2 h3 => by
   have h62 : (2 : Nat) ^ xs.length < 4611686018427387904 := zFm (by omega);obtain ⟨b, hb, hb2⟩ := popN_bit (n := xs.length) (a := (grdF xs i).a) (by omega);obtain ⟨k, hk, hk2⟩ := can_some h hn (Nat.lt_trans h1 h62) hb hb2;rcases zJG (xs := xs) (a := (grdF xs i).a) (l := (grdF xs i).l) xs.length with ⟨_, h4⟩ | h4
   · rw [h4 k hk] at hk2; cases hk2
   · exact h4
 intro i;induction i with
 | zero =>
   intro _
   have h0 : popN xs.length 0 = 0 := by
     rw [popN, List.filter_eq_nil_iff.2 (fun k _ => by simp)]; rfl
   refine ⟨Nat.pow_pos (by decide), h0, by simp only [grdF]; omega, by simp [grdF], rfl, ?_⟩;exact hnx 0 (by omega) (Nat.pow_pos (by decide)) h0
 | succ i ih =>
   intro hi;obtain ⟨h1, h2, h3, h4, h5, h6⟩ := ih (by omega);obtain ⟨j, h7, h8, h9⟩ := h6 (by omega);have hm := mvF_b (xs := xs) (l := (grdF xs i).l) (k := nxtX xs (grdF xs i).a (grdF xs i).l)
   have e1 : (grdF xs (i + 1)).a < 2 ^ xs.length := by
     simp only [grdF]; rw [h7, Int.toNat_natCast]; exact or_lt h1 h8
   have e2 : popN xs.length (grdF xs (i + 1)).a = i + 1 := by
     simp only [grdF]; rw [h7, Int.toNat_natCast, popN_step h8 (zHC h9), h2]
   refine ⟨e1, e2, by simp only [grdF]; rw [h7]; omega, ?_, by simp only [grdF, List.length_append, h5]; rfl, hnx (i + 1) hi e1 e2⟩;simp only [grdF]; omega
def fewR (xs : List Task) : List Int × Int × Int := if zD0 xs ≠ 0 then ([], 0, zD0 xs) else ((grdF xs xs.length).out, (grdF xs xs.length).sum, 0)
end Go.Proofs.YtnbcmoaofmkjhaaGreatDoor.E7
