import Derived.Test.YtnbcmoaofmkjhaaGreatDoorJ3
import Derived.Test.YtnbcmoaofmkjhaaGreatDoorJ0
import Derived.Test.YtnbcmoaofmkjhaaGreatDoorPvGh
import Derived.Sort.Grow
set_option linter.unusedSimpArgs false
set_option linter.unusedVariables false
set_option maxRecDepth 100000
namespace Go.Proofs.YtnbcmoaofmkjhaaGreatDoor.E7
open Go Go.Pv Go.Proofs.YtnbcmoaofmkjhaaGreatDoor
theorem zD8 {h : Heap} {d : Nat} {w : PV} {xs : List Task} {nb : List Nat} (hs : zAq h d w 1 (nb.map cN)) : Inn h (.agg [.lit true 6 (xs.map Task.enc), w]) (.agg (Sets.enc ⟨xs, nb⟩)) := by
 refine .agg rfl fun i p q h1 h2 => ?_
 match i with
 | 0 => cases h1; cases h2; exact .pure (.lit _ _ _ fun row hr => zBo Task.pure row hr)
 | 1 =>
   cases h1; cases h2;rcases hs with ⟨h1, rfl⟩ | ⟨g, rfl, hg⟩
   · rw [h1]; exact .nil _ _
   · exact .ref hg (by omega) (by rw [List.drop_zero, List.take_length]) fun row hr => zBo zLp row hr
 | i + 2 => simp [Sets.enc] at h2
theorem bitsL_len {xs : List Task} : (bitsL xs).length = xs.length := lM _
theorem fullD {xs : List Task} (hn : xs.length ≤ 14) : PCalls Tryz.prog 49 [.agg (Sets.enc ⟨xs, bitsL xs⟩)] (.sc (.int .u64 ((2 ^ xs.length - 1 : Nat) : Int))) := fullC ⟨xs, bitsL xs⟩ (by show xs.length < 62; omega)
theorem canD {xs : List Task} {a k : Nat} (hp : planE xs = 0) (hn : xs.length ≤ 14) (hk : k < xs.length) (ha : a < 2 ^ xs.length) : PCalls Tryz.prog 50 [.agg (Sets.enc ⟨xs, bitsL xs⟩), .sc (.int .u64 (a : Int)), .int (k : Int)] (.bool (canB (nbD xs k) a k)) :=
 canC ⟨xs, bitsL xs⟩ a k (by show k < (bitsL xs).length; rw [bitsL_len]; exact hk) (by omega) (Nat.lt_trans ha (zFm (by omega))) (nbD_lt hp hn k)
theorem zLG {xs : List Task} {l k : Int} (hl : -1 ≤ l ∧ l < xs.length) (hk : 0 ≤ k ∧ k < xs.length) : PCalls Tryz.prog 51 [.agg (Sets.enc ⟨xs, bitsL xs⟩), .int l, .int k] (.int (mvF xs l k)) := movesC ⟨xs, bitsL xs⟩ l k hl hk
theorem small0 {xs : List Task} (h : zD0 xs = 0) : planE xs = 0 ∧ ¬ 14 < xs.length := by
 unfold zD0 at h;split at h
 · rename_i h1; exact absurd h h1
 · rename_i h1;split at h
   · cases h
   · exact ⟨Decidable.not_not.1 h1, by assumption⟩
theorem zK2 {n : Nat} (h : n ≤ 8) : 1 ≤ 2 ^ n ∧ 2 ^ n ≤ 256 := ⟨Nat.pow_pos (by decide), Nat.pow_le_pow_right (n := 2) (by decide) h⟩
section
variable {P : Program} {ρ : Operand → PV} {h : Heap} {key : Key} {x y : Operand} {t t' : TypeId}
theorem e_cvU {z : Int} {a : Nat} (hx : ρ x = .int z) (hk : zBm P t' = some .u64) (hs : (P.underlying t).isSome = true) (hz : z = (a : Int)) (ha : a < 4611686018427387904) : eff P ρ h key (.convert t t' x) = ⟨True, .sc (.int .u64 (a : Int)), [], [], false⟩ := by
 subst hz;exact zKD hx hk hs (by rw [IntKind.wrap_u64]; omega)
end
theorem zJv {A n j : Nat} {N : Int} (hN : N = (n : Int)) : ((A : Int) * N + (j : Int)).toNat = A * n + j ∧ (A : Int) * N + (j : Int) = ((A * n + j : Nat) : Int) := by
 subst hN;have : (A : Int) * (n : Int) + (j : Int) = ((A * n + j : Nat) : Int) := by simp
 exact ⟨by rw [this]; rfl, this⟩
theorem zKX {r : List Int} {A n j : Nat} {v N : Int} (hN : N = (n : Int)) (hlt : A * n + j < r.length) (hv : at0 r (A * n + j) = v) : r[((A : Int) * N + (j : Int)).toNat]? = some v := by
 rw [(zJv hN).1, zBt hlt, hv]
theorem bst_t {xs : List Task} {a l j : Nat} {b : Int} (hb : b = bstG xs (DX xs) a l j) (hc : canB (nbD xs j) a j = true) : min b (mvF xs l j + DX xs (a ||| 2 ^ j) j) = bstG xs (DX xs) a l (j + 1) := by
 rw [bstG, if_pos hc, hb]
theorem bst_f {xs : List Task} {a l j : Nat} {b : Int} (hb : b = bstG xs (DX xs) a l j) (hc : canB (nbD xs j) a j = false) : b = bstG xs (DX xs) a l (j + 1) := by
 rw [bstG, if_neg (by rw [hc]; decide), hb]
theorem nxt_t {xs : List Task} {a j : Nat} {l nx b : Int} (hb : nx = (nxtG xs a l j).1 ∧ b = (nxtG xs a l j).2) (hc : canB (nbD xs j) a j = true) (h : nx < 0 ∨ mvF xs l j + DX xs (a ||| 2 ^ j) j < b) : (j : Int) = (nxtG xs a l (j + 1)).1 ∧ mvF xs l j + DX xs (a ||| 2 ^ j) j = (nxtG xs a l (j + 1)).2 := by
 rw [hb.1, hb.2] at h;rw [nxtG, if_pos hc, if_pos h]; exact ⟨rfl, rfl⟩
theorem nxt_n {xs : List Task} {a j : Nat} {l nx b : Int} (hb : nx = (nxtG xs a l j).1 ∧ b = (nxtG xs a l j).2) (hc : canB (nbD xs j) a j = true) (h : ¬ (nx < 0 ∨ mvF xs l j + DX xs (a ||| 2 ^ j) j < b)) : nx = (nxtG xs a l (j + 1)).1 ∧ b = (nxtG xs a l (j + 1)).2 := by
 rw [hb.1, hb.2] at h;rw [nxtG, if_pos hc, if_neg h]; exact hb
theorem nxt_f {xs : List Task} {a j : Nat} {l nx b : Int} (hb : nx = (nxtG xs a l j).1 ∧ b = (nxtG xs a l j).2) (hc : canB (nbD xs j) a j = false) : nx = (nxtG xs a l (j + 1)).1 ∧ b = (nxtG xs a l (j + 1)).2 := by
 rw [nxtG, if_neg (by rw [hc]; decide)]; exact hb
theorem few_out0 {h : Heap} {xs : List Task} (hs : zD0 xs ≠ 0) : Out h (.tup [.nil, .int 0, .int (zD0 xs)]) (.tup [.lit false 1 ((fewR xs).1.map ci), .int (fewR xs).2.1, .int (fewR xs).2.2]) := by
 rw [fewR, if_pos hs]; exact out_3 (.nil 1) (out_i rfl) (out_i rfl)
theorem few_out {h : Heap} {xs : List Task} {d : Nat} {v : PV} {i : Nat} (hs : zD0 xs = 0) (hi : i = xs.length) (hv : zAq h d v 1 ((grdF xs i).out.map ci)) : Out h (.tup [v, .int (grdF xs i).sum, .int 0]) (.tup [.lit false 1 ((fewR xs).1.map ci), .int (fewR xs).2.1, .int (fewR xs).2.2]) := by
 subst hi;rw [fewR, if_neg (fun q => q hs)];exact out_3 (zDM hv rfl (fun _ => rfl) fun a p hp => by simp [ci] at hp; subst hp; exact ⟨.sc _, rfl⟩) (out_i rfl) (out_i rfl)
theorem mk_eq {xs : List Task} (h : 1 ≤ 2 ^ xs.length ∧ 2 ^ xs.length ≤ 256) : (((2 ^ xs.length - 1 : Nat) : Int) + 1) * max ((((xs.map Task.enc).length : Nat)) : Int) 1 = ((2 ^ xs.length * max xs.length 1 : Nat) : Int) := by
 have h1 : ((2 ^ xs.length - 1 : Nat) : Int) + 1 = ((2 ^ xs.length : Nat) : Int) := by omega
 have h2 : max ((((xs.map Task.enc).length : Nat)) : Int) 1 = ((max xs.length 1 : Nat) : Int) := by simp only [lM]; omega
 rw [h1, h2]; simp
theorem mk_le {n : Nat} (h : n ≤ 8) : 2 ^ n * max n 1 ≤ 256 * 8 := Nat.mul_le_mul (zK2 h).2 (by omega)
theorem zN {z : Int} {n : Nat} {N : Int} (hz : 0 ≤ z) (hN : N = (n : Int)) : z * N = ((z.toNat * n : Nat) : Int) := by
 subst hN;rw [Int.natCast_mul, Int.toNat_of_nonneg hz]
theorem st_ix {z : Int} {n k : Nat} {N : Int} (hz : 0 ≤ z) (hN : N = (n : Int)) : (z * N + (k : Int)).toNat = z.toNat * n + k ∧ z * N + (k : Int) = ((z.toNat * n + k : Nat) : Int) := by
 have h1 := zN hz hN;rw [h1]; exact ⟨by omega, by omega⟩
theorem FewestC (xs : List Task) (hl : xs.length ≤ 10000) (hq : Fair xs) (h6 : xs.length ≤ 8 ∨ 14 < xs.length) : PCalls Tryz.prog 19 [.lit true 6 (xs.map Task.enc)] (.tup [.lit false 1 ((fewR xs).1.map ci), .int (fewR xs).2.1, .int (fewR xs).2.2]) := by
 refine pco Tryz.func19 rfl rfl (pure_3 (.lit _ _ _ fun row hr => zBo zDn row hr) (.sc _) (.sc _)) (zAa rfl fun K1 hK1 => p_e rfl (zAs (v := .nil) rfl) (p_aS rfl (p_aS rfl (p_end (hK1 _ ?_)))));refine zAa rfl fun K2 hK2 => p_e rfl (zAi (v := .lit _ _ _) rfl) (zBc rfl (smallC xs hl hq) fun v1 h1 c1 hR1 => ?_);obtain ⟨T, w, rfl, ⟨hTc, hwc⟩, hTw⟩ := hR1;refine p_e rfl (zAi (v := .tup _) rfl) (p_e rfl (e_ext (v := .agg _) rfl (by simp) rfl) (p_e rfl (e_ext (v := .sc _) rfl (by simp) rfl) (p_new rfl (zAR (cs := [.nil, .nil]) (n := 2) (by kernel_rfl) rfl (by decide)) (zAG (by decide)) (zAQ rfl (zAB rfl w_ rfl rfl rfl (by kernel_rfl) (by simp only [List.all_cons, List.all_nil, Bool.and_true, hTc, hwc]) (by kernel_rfl)) trivial (p_aS rfl (p_end (hK2 _ ?_)))))));refine zAf (zAa rfl fun K3 hK3 => p_mS rfl (p_e rfl (e_ne rfl rfl) (p_end (hK3 _ ?_))));refine zAe rfl fun K4 hK4 => ⟨fun hb5 => ?_, fun hb5 => ?_⟩
 ·have hb5R := hb5; try simp only [zz] at hb5
  refine zAa rfl fun K6 hK6 => p_mS rfl (p_e rfl (zAs (v := .nil) rfl) (p_aS rfl (p_aS rfl (p_end (hK6 _ ?_)))));refine zAh (zAk (end3 (v := .nil) (w := .sc _) (x := .sc _) rfl rfl rfl ?_));exact few_out0 (by assumption)
 have hb5R := hb5; try simp only [zz] at hb5
 refine zAl (zAb (hK4 _ ?_));have hs0 : zD0 xs = 0 := by assumption
 obtain ⟨rfl, hw⟩ := hTw hs0;obtain ⟨hpl, hn14⟩ := small0 hs0;have hn6 : xs.length ≤ 8 := by omega
 have hp2 := zK2 hn6;refine zAa rfl fun K7 hK7 => p_e rfl (zAi (v := .lit _ _ _) rfl) (p_e rfl (e_len rfl (by kernel_rfl)) (p_aS rfl (p_end (hK7 _ ?_))));refine zAa rfl fun K8 hK8 => p_e rfl (e_lA (n := 2) (cs := [.lit true 6 (xs.map Task.enc), w]) rfl w_) (zBs rfl (.cons (zD8 (hw.keep fun _ => h2_ (rfl))) .nil) (fullD (by omega)) (p_e rfl (zKD rfl (by kernel_rfl) (by kernel_rfl) (by exact zFV (by omega) (by omega))) (p_e rfl (e_adL rfl rfl) (p_mS rfl (p_e rfl (e_max rfl rfl) (p_e rfl (e_mul rfl rfl (by rw [mk_eq hp2]; have := mk_le hn6; omega)) ?_))))));refine p_new rfl (e_mkI (n := 2 ^ xs.length * max xs.length 1) rfl rfl (mk_eq hp2) (by kernel_rfl) (by kernel_rfl) (by kernel_rfl) (by decide +kernel) (by have := mk_le hn6; omega)) trivial (p_e rfl (zAs (v := .ref _ _ _ _) rfl) (p_end (hK8 _ ?_)));refine zAf (zAa rfl fun K9 hK9 => p_e rfl (e_lA (n := 2) (cs := [.lit true 6 (xs.map Task.enc), w]) rfl (h1_ w_)) (zBs rfl (.cons (zD8 (hw.keep fun _ => h3_ (rfl))) .nil) (fullD (by omega)) (p_e rfl (zKD rfl (by kernel_rfl) (by kernel_rfl) (by exact zFV (by omega) (by omega))) (p_e rfl (e_sub rfl rfl (by first | omega | (simp only [lM] at *; omega))) (p_aS rfl (p_end (hK9 _ ?_)))))));refine zAg fun K10 hK10 => zAE (α := Int × (List Int)) [5, 7, 8] (fun (a11 : Int × (List Int)) => [(9, .int (a11.1))]) (fun (a11 : Int × (List Int)) (h : Heap) (_ : Nat → Nat) => (-1 ≤ (a11.1) ∧ (a11.1) < ((2 ^ xs.length - 1 : Nat) : Int)) ∧ (RI xs (a11.2) (a11.1)) ∧ (zAq h 45 w 1 ((bitsL xs).map cN)) ∧ (h (5, c1 5) = some (.rows 2 [[.lit true 6 (xs.map Task.enc), w]])) ∧ (h (38, c1 38) = some (.rows 1 ((a11.2).map ci)))) (fun (a11 : Int × (List Int)) => ((a11.1) + 1).toNat) (((2 ^ xs.length - 1 : Nat) : Int) - 1, _) (by exact ⟨rfl, trivial⟩) (by exact ⟨by omega, by exact RI.start, (zAq.to (hw.keep fun _ => h3_ (rfl)) (by first | rfl | (simp only [List.map_append, List.map_cons, List.map_nil] <;> rfl))), (h1_ w_), w_⟩) fun a11 r12 h13 c14 hj15 => ?_;obtain ⟨z, r⟩ := a11;obtain ⟨hz, hri, hihj15_0, hihj15_1, hihj15_2⟩ := hj15;try dsimp only at hz
 try dsimp only at hri
 try dsimp only at hihj15_0
 try dsimp only at hihj15_1
 try dsimp only at hihj15_2
 show pwp _ _ (loopQ _ _ _) ⟨sets (mix _ _ _) [(9, .int z)], _, _⟩;refine zAf (zAa rfl fun K16 hK16 => p_mS rfl (p_e rfl (e_ge rfl rfl) (p_end (hK16 _ ?_))));refine zAe rfl fun K17 hK17 => ⟨fun hb18 => ?_, fun hb18 => ?_⟩
 ·have hb18R := hb18; try simp only [zz] at hb18
  refine zAl (zAb (hK17 _ ?_));refine zAg fun K19 hK19 => zAa rfl fun K20 hK20 => p_mS rfl (p_mS rfl (p_end (hK20 _ ?_)));refine zB2 (zAE (α := Nat × (List Int)) [5, 7, 8, 9, 47] (fun (a21 : Nat × (List Int)) => [(48, .int (a21.1))]) (fun (a21 : Nat × (List Int)) (h : Heap) (_ : Nat → Nat) => ((a21.1) ≤ xs.length) ∧ (RM xs (a21.2) z (a21.1)) ∧ (zAq h 45 w 1 ((bitsL xs).map cN)) ∧ (h (5, c1 5) = some (.rows 2 [[.lit true 6 (xs.map Task.enc), w]])) ∧ (h (38, c1 38) = some (.rows 1 ((a21.2).map ci)))) (fun (a21 : Nat × (List Int)) => xs.length - (a21.1)) (0, _) (by exact ⟨rfl, trivial⟩) (by exact ⟨by exact Nat.zero_le _, by exact hri.mid, (zAq.to hihj15_0 (by first | rfl | (simp only [List.map_append, List.map_cons, List.map_nil] <;> rfl))), hihj15_1, hihj15_2⟩) fun a21 r22 h23 c24 hj25 => ?_);obtain ⟨k, r⟩ := a21;obtain ⟨hk, hrm, hihj25_0, hihj25_1, hihj25_2⟩ := hj25;try dsimp only at hk
  try dsimp only at hrm
  try dsimp only at hihj25_0
  try dsimp only at hihj25_1
  try dsimp only at hihj25_2
  show pwp _ _ (loopQ _ _ _) ⟨sets (mix _ _ _) [(48, .int k)], _, _⟩;refine zAa rfl fun K26 hK26 => p_e rfl (e_lt rfl rfl) (p_end (hK26 _ ?_));refine zAe rfl fun K27 hK27 => ⟨fun hb28 => ?_, fun hb28 => ?_⟩
  ·have hb28R := hb28; try simp only [zz] at hb28
   have hri := hrm.ri;refine zAl (zAb (hK27 _ ?_));refine zAg fun K29 hK29 => zAa rfl fun K30 hK30 => p_mS rfl (p_aS rfl (p_end (hK30 _ ?_)));refine zAa rfl fun K31 hK31 => p_aS rfl (p_end (hK31 _ ?_));refine zAf (zAa rfl fun K32 hK32 => p_mS rfl (p_mS rfl (p_end (hK32 _ ?_))));refine zAg fun K33 hK33 => zAE (α := Nat × Int) [5, 7, 8, 9, 10, 47, 48, 51] (fun (a34 : Nat × Int) => [(11, .int (a34.2)), (52, .int (a34.1))]) (fun (a34 : Nat × Int) (h : Heap) (_ : Nat → Nat) => ((a34.1) ≤ xs.length) ∧ ((a34.2) = bstG xs (DX xs) z.toNat k (a34.1)) ∧ (zAq h 45 w 1 ((bitsL xs).map cN)) ∧ (h (5, c1 5) = some (.rows 2 [[.lit true 6 (xs.map Task.enc), w]])) ∧ (h (38, c1 38) = some (.rows 1 (r.map ci)))) (fun (a34 : Nat × Int) => xs.length - (a34.1)) (0, 1048576) (by exact ⟨rfl, rfl, trivial⟩) (by exact ⟨by exact Nat.zero_le _, by exact rfl, (zAq.to hihj25_0 (by first | rfl | (simp only [List.map_append, List.map_cons, List.map_nil] <;> rfl))), hihj25_1, hihj25_2⟩) fun a34 r35 h36 c37 hj38 => ?_;obtain ⟨j, b⟩ := a34;obtain ⟨hj, hb, hihj38_0, hihj38_1, hihj38_2⟩ := hj38;try dsimp only at hj
   try dsimp only at hb
   try dsimp only at hihj38_0
   try dsimp only at hihj38_1
   try dsimp only at hihj38_2
   show pwp _ _ (loopQ _ _ _) ⟨sets (mix _ _ _) [(11, .int b), (52, .int j)], _, _⟩;refine zAa rfl fun K39 hK39 => p_e rfl (e_lt rfl rfl) (p_end (hK39 _ ?_));refine zAe rfl fun K40 hK40 => ⟨fun hb41 => ?_, fun hb41 => ?_⟩
   ·have hb41R := hb41; try simp only [zz] at hb41
    have hjn : j < xs.length := by simp only [lM] at *; omega
    have hkn : k < xs.length := by simp only [lM] at *; omega
    have hbb := zLW (xs := xs) (fun a l => (DX_b (xs := xs) (a := a) (l := l)).1) (a := z.toNat) (l := k) j;have h2j := zFm (k := j) (by omega);refine zAl (zAb (hK40 _ ?_));refine zAg fun K42 hK42 => zAa rfl fun K43 hK43 => p_mS rfl (p_aS rfl (p_end (hK43 _ ?_)));refine zAa rfl fun K44 hK44 => p_e rfl (e_lA (n := 2) (cs := [.lit true 6 (xs.map Task.enc), w]) rfl hihj38_1) (p_mS rfl (p_e rfl (e_cvU (a := z.toNat) rfl (by kernel_rfl) (by kernel_rfl) (by omega) (by omega)) (p_mS rfl (zBs rfl (.cons (zD8 hihj38_0) (.cons zAY (.cons zAY .nil))) (canD hpl (by omega) (by omega) (by first | assumption | omega)) (p_end (hK44 _ ?_))))));refine zAt rfl (fun hb45 => ?_) (fun hb45 => ?_)
    ·have hb45R := hb45; try simp only [zz] at hb45
     have hc : canB (nbD xs j) z.toNat j = true := (by assumption)
     have hog := or_gt (zHC hc);have hol := or_lt (n := xs.length) (show z.toNat < 2 ^ xs.length by omega) (show j < xs.length by omega);have hix := zKx (n := xs.length) hol (show j < xs.length by omega);have hrl := hri.len;have hrv := hri.val (z.toNat ||| 2 ^ j) j (by omega) hol (by omega);have hrb := DX_b (xs := xs) (a := z.toNat ||| 2 ^ j) (l := j);have hmb := mvF_b (xs := xs) (l := (k : Int)) (k := (j : Int));have hml : (z.toNat ||| 2 ^ j) * xs.length ≤ 256 * 8 := Nat.mul_le_mul (by omega) (by omega);obtain ⟨hi1, hi2⟩ := zJv (A := z.toNat ||| 2 ^ j) (n := xs.length) (j := j) (N := ((((xs).map Task.enc).length : Nat) : Int)) (by simp only [lM]);have hel := zKX (r := r) (A := z.toNat ||| 2 ^ j) (n := xs.length) (j := j) (N := ((((xs).map Task.enc).length : Nat) : Int)) (by simp only [lM]) (by rw [hrl]; exact hix) hrv;have hmi : ((z.toNat ||| 2 ^ j : Nat) : Int) * ((((xs).map Task.enc).length : Nat) : Int) = (((z.toNat ||| 2 ^ j) * xs.length : Nat) : Int) := by simp
     refine zBw rfl fun K46 hK46 => zAM (g_mS rfl rfl (g_e rfl (e_lA (n := 2) (cs := [.lit true 6 (xs.map Task.enc), w]) rfl hihj38_1) (g_mS rfl rfl (g_mS rfl rfl (zBd rfl rfl rfl rfl (.cons (zD8 hihj38_0) (.cons zAY (.cons zAY .nil))) (zLG (by omega) (by omega)) (g_e rfl (zAi (v := .ref _ _ _ _) rfl) ?_))))));refine g_mS rfl rfl (g_mS rfl rfl (g_e rfl (e_shlI (k := j) rfl rfl (by omega)) (g_e rfl (e_orI (a := z.toNat) (congrArg PV.int (by omega)) rfl (by omega) (zFm (by omega))) (g_mS rfl rfl (g_e rfl (e_mul rfl rfl (by first | omega | (simp only [lM] at *; omega))) (g_mS rfl rfl (g_e rfl (e_adL rfl rfl) ?_)))))));refine g_e rfl (e_ixR rfl rfl) (g_e rfl (zBC (a := (DX xs (z.toNat ||| 2 ^ j) j)) rfl hihj38_2 (by kernel_rfl) (by kernel_rfl) (by kernel_rfl) hel) (g_e rfl (e_adL rfl rfl) (g_e rfl (e_min rfl rfl) (g_aS rfl rfl (g_end (ds := []) (by kernel_rfl) rfl (hK46 _ ?_))))));refine zAj (zAb (hK42 _ ?_));refine zAn rfl fun K47 hK47 => p_e rfl (e_adL rfl rfl) (p_mS rfl (p_end (hK47 _ ?_)));exact zAo ((j + 1, (min b ((mvF xs (k : Int) (j : Int)) + (DX xs (z.toNat ||| 2 ^ j) j))))) (by show _ < _; simp only; omega) ⟨rfl, rfl, rfl, rfl, rfl, rfl, rfl, rfl, trivial⟩ ⟨rfl, rfl, trivial⟩ (by exact ⟨by show _ + 1 ≤ _; omega, by first | exact bst_t hb (by assumption) | exact bst_f hb (by assumption), hihj38_0, hihj38_1, hihj38_2⟩)
    have hb45R := hb45; try simp only [zz] at hb45
    refine zAl (zAj (zAb (hK42 _ ?_)));refine zAn rfl fun K48 hK48 => p_e rfl (e_adL rfl rfl) (p_mS rfl (p_end (hK48 _ ?_)));exact zAo ((j + 1, b)) (by show _ < _; simp only; omega) ⟨rfl, rfl, rfl, rfl, rfl, rfl, rfl, rfl, trivial⟩ ⟨rfl, rfl, trivial⟩ (by exact ⟨by show _ + 1 ≤ _; omega, by first | exact bst_t hb (by assumption) | exact bst_f hb (by assumption), hihj38_0, hihj38_1, hihj38_2⟩)
   have hb41R := hb41; try simp only [zz] at hb41
   refine zAJ (zAK ?_);clear hK40 K40;refine zAC (zAA (zAb (hK33 _ ?_)));obtain ⟨hst1, hst2⟩ := st_ix (z := z) (n := xs.length) (k := k) (N := ((((xs).map Task.enc).length : Nat) : Int)) (by omega) (by simp only [lM]);have hst3 := zKx (a := z.toNat) (n := xs.length) (m := 2 ^ xs.length) (l := k) (by omega) (by simp only [lM] at *; omega);have hst4 : z.toNat * xs.length ≤ 256 * 8 := Nat.mul_le_mul (by omega) (by omega);have hst5 := zN (z := z) (n := xs.length) (N := ((((xs).map Task.enc).length : Nat) : Int)) (by omega) (by simp only [lM]);have hrl := hri.len;refine zAn rfl fun K49 hK49 => p_e rfl (zAi (v := .ref _ _ _ _) rfl) (p_mS rfl (p_mS rfl (p_e rfl (e_mul rfl rfl (by first | omega | (simp only [lM] at *; omega))) (p_mS rfl (p_e rfl (e_adL rfl rfl) (p_mS rfl ?_))))));refine p_e rfl (e_ixR rfl rfl) (zAQ rfl (zCp (zs := r) (a := b) rfl hihj38_2 rfl (by omega) (by kernel_rfl) (by kernel_rfl)) trivial (p_end (hK49 _ ?_)));refine zAj (zAb (hK29 _ ?_));refine zAn rfl fun K50 hK50 => p_e rfl (e_adL rfl rfl) (p_mS rfl (p_end (hK50 _ ?_)));exact zAo ((k + 1, r.set (z.toNat * xs.length + k) b)) (by show _ < _; simp only; omega) ⟨rfl, rfl, rfl, rfl, rfl, trivial⟩ ⟨rfl, trivial⟩ (by exact ⟨by show _ + 1 ≤ _; simp only [lM] at *; omega, by exact hrm.step (by omega) (by simp only [lM] at *; omega) (by rw [hb, show j = xs.length by (simp only [lM] at *; omega)]), (hihj38_0.keep fun _ => h1_ (rfl)), (h1_ hihj38_1), (w_.trans (by (rw [hst1])))⟩)
  have hb28R := hb28; try simp only [zz] at hb28
  refine zAJ (zAK ?_);clear hK27 K27;refine zAC (zAA (zAj (zAb (hK19 _ ?_))));refine zAn rfl fun K51 hK51 => p_mS rfl (p_e rfl (e_sub rfl rfl (by first | omega | (simp only [lM] at *; omega))) (p_aS rfl (p_end (hK51 _ ?_))));exact zAo ((z - 1, _)) (by show _ < _; simp only; omega) ⟨rfl, rfl, rfl, trivial⟩ ⟨rfl, trivial⟩ (by exact ⟨by (show -1 ≤ z - 1 ∧ z - 1 < _; omega), by exact hrm.stop (by omega) (by omega), hihj25_0, hihj25_1, (hihj25_2.trans (by rfl))⟩)
 have hb18R := hb18; try simp only [zz] at hb18
 refine zAJ (zAK ?_);clear hK17 K17;refine zAC (zAA (zAb (hK10 _ ?_)));refine zAa rfl fun K52 hK52 => p_e rfl (zAs (v := .nil) rfl) (p_end (hK52 _ ?_));refine zAa rfl fun K53 hK53 => p_aS rfl (p_end (hK53 _ ?_));refine zAa rfl fun K54 hK54 => p_aS rfl (p_aS rfl (p_end (hK54 _ ?_)));refine zAf (zAa rfl fun K55 hK55 => p_mS rfl (p_mS rfl (p_end (hK55 _ ?_))));refine zAg fun K56 hK56 => zAE (α := Nat × PV) [5, 7, 8, 88] (fun (a57 : Nat × PV) => [(13, (a57.2)), (14, .int (grdF xs (a57.1)).sum), (15, .sc (.int .u64 (((grdF xs (a57.1)).a : Nat) : Int))), (16, .int (grdF xs (a57.1)).l), (89, .int (a57.1))]) (fun (a57 : Nat × PV) (h : Heap) (_ : Nat → Nat) => ((a57.1) ≤ xs.length) ∧ (zAq h 141 (a57.2) 1 ((grdF xs (a57.1)).out.map ci)) ∧ (zAq h 45 w 1 ((bitsL xs).map cN)) ∧ (h (5, c1 5) = some (.rows 2 [[.lit true 6 (xs.map Task.enc), w]])) ∧ (h (38, c1 38) = some (.rows 1 (r.map ci)))) (fun (a57 : Nat × PV) => xs.length - (a57.1)) (0, .nil) (by exact ⟨rfl, rfl, rfl, rfl, rfl, trivial⟩) (by exact ⟨by exact Nat.zero_le _, .nil, (zAq.to hihj15_0 (by first | rfl | (simp only [List.map_append, List.map_cons, List.map_nil] <;> rfl))), hihj15_1, hihj15_2⟩) fun a57 r58 h59 c60 hj61 => ?_;obtain ⟨i, w2⟩ := a57;obtain ⟨hi, hihj61_0, hihj61_1, hihj61_2, hihj61_3⟩ := hj61;try dsimp only at hi
 try dsimp only at hihj61_0
 try dsimp only at hihj61_1
 try dsimp only at hihj61_2
 try dsimp only at hihj61_3
 show pwp _ _ (loopQ _ _ _) ⟨sets (mix _ _ _) [(13, w2), (14, .int (grdF xs i).sum), (15, .sc (.int .u64 (((grdF xs i).a : Nat) : Int))), (16, .int (grdF xs i).l), (89, .int i)], _, _⟩;refine zAa rfl fun K62 hK62 => p_e rfl (e_lt rfl rfl) (p_end (hK62 _ ?_));refine zAe rfl fun K63 hK63 => ⟨fun hb64 => ?_, fun hb64 => ?_⟩
 ·have hb64R := hb64; try simp only [zz] at hb64
  have hin : i < xs.length := by simp only [lM] at *; omega
  obtain ⟨hga, hgp, hgl, hgs, hgo, hgn⟩ := grd_step hpl (by omega) i (by omega);refine zAl (zAb (hK63 _ ?_));refine zAg fun K65 hK65 => zAa rfl fun K66 hK66 => p_aS rfl (p_aS rfl (p_end (hK66 _ ?_)));refine zAf (zAa rfl fun K67 hK67 => p_mS rfl (p_mS rfl (p_end (hK67 _ ?_))));refine zAg fun K68 hK68 => zAE (α := Nat × Int × Int) [5, 7, 8, 13, 14, 15, 16, 88, 89, 91] (fun (a69 : Nat × Int × Int) => [(17, .int (a69.2.1)), (18, .int (a69.2.2)), (92, .int (a69.1))]) (fun (a69 : Nat × Int × Int) (h : Heap) (_ : Nat → Nat) => ((a69.1) ≤ xs.length) ∧ ((a69.2.1) = (nxtG xs (grdF xs i).a (grdF xs i).l (a69.1)).1 ∧ (a69.2.2) = (nxtG xs (grdF xs i).a (grdF xs i).l (a69.1)).2) ∧ (zAq h 141 w2 1 ((grdF xs i).out.map ci)) ∧ (zAq h 45 w 1 ((bitsL xs).map cN)) ∧ (h (5, c1 5) = some (.rows 2 [[.lit true 6 (xs.map Task.enc), w]])) ∧ (h (38, c1 38) = some (.rows 1 (r.map ci)))) (fun (a69 : Nat × Int × Int) => xs.length - (a69.1)) (0, -1, 1048576) (by exact ⟨rfl, rfl, rfl, trivial⟩) (by exact ⟨by exact Nat.zero_le _, by exact ⟨rfl, rfl⟩, (zAq.to hihj61_0 (by first | rfl | (simp only [List.map_append, List.map_cons, List.map_nil] <;> rfl))), (zAq.to hihj61_1 (by first | rfl | (simp only [List.map_append, List.map_cons, List.map_nil] <;> rfl))), hihj61_2, hihj61_3⟩) fun a69 r70 h71 c72 hj73 => ?_;obtain ⟨j, nx, b⟩ := a69;obtain ⟨hj, hnx, hihj73_0, hihj73_1, hihj73_2, hihj73_3⟩ := hj73;try dsimp only at hj
  try dsimp only at hnx
  try dsimp only at hihj73_0
  try dsimp only at hihj73_1
  try dsimp only at hihj73_2
  try dsimp only at hihj73_3
  show pwp _ _ (loopQ _ _ _) ⟨sets (mix _ _ _) [(17, .int nx), (18, .int b), (92, .int j)], _, _⟩;refine zAa rfl fun K74 hK74 => p_e rfl (e_lt rfl rfl) (p_end (hK74 _ ?_));refine zAe rfl fun K75 hK75 => ⟨fun hb76 => ?_, fun hb76 => ?_⟩
  ·have hb76R := hb76; try simp only [zz] at hb76
   have hjn : j < xs.length := by simp only [lM] at *; omega
   have hnb := zL8 (xs := xs) (a := (grdF xs i).a) (l := (grdF xs i).l) j;have h2j := zFm (k := j) (by omega);refine zAl (zAb (hK75 _ ?_));refine zAg fun K77 hK77 => zAa rfl fun K78 hK78 => p_mS rfl (p_aS rfl (p_end (hK78 _ ?_)));refine zAf (zAa rfl fun K79 hK79 => p_e rfl (e_lA (n := 2) (cs := [.lit true 6 (xs.map Task.enc), w]) rfl hihj73_2) (p_mS rfl (p_mS rfl (zBs rfl (.cons (zD8 hihj73_1) (.cons zAY (.cons zAY .nil))) (canD hpl (by omega) (by omega) (by first | assumption | omega)) (p_e rfl (e_not rfl) (p_end (hK79 _ ?_)))))));refine zAe rfl fun K80 hK80 => ⟨fun hb81 => ?_, fun hb81 => ?_⟩
   ·have hb81R := hb81; try simp only [zz] at hb81
    refine zAJ (zAK ?_);clear hK80 K80;refine zAA (zAb (hK77 _ ?_));refine zAn rfl fun K82 hK82 => p_e rfl (e_adL rfl rfl) (p_mS rfl (p_end (hK82 _ ?_)));exact zAo ((j + 1, nx, b)) (by show _ < _; simp only; omega) ⟨rfl, rfl, rfl, rfl, rfl, rfl, rfl, rfl, rfl, rfl, trivial⟩ ⟨rfl, rfl, rfl, trivial⟩ (by exact ⟨by show _ + 1 ≤ _; omega, by first | exact nxt_t (nx := nx) (b := b) hnx (by assumption) (by omega) | exact nxt_n (nx := nx) (b := b) hnx (by assumption) (by omega) | exact nxt_f hnx (by assumption), hihj73_0, hihj73_1, hihj73_2, hihj73_3⟩)
   have hb81R := hb81; try simp only [zz] at hb81
   refine zAl (zAb (hK80 _ ?_));have hc : canB (nbD xs j) (grdF xs i).a j = true := (by assumption)
   have hog := or_gt (zHC hc);have hol := or_lt (n := xs.length) (show (grdF xs i).a < 2 ^ xs.length by omega) (show j < xs.length by omega);have hix := zKx (n := xs.length) hol (show j < xs.length by omega);have hrl := hri.len;have hrv := hri.val ((grdF xs i).a ||| 2 ^ j) j (by omega) hol (by omega);have hrb := DX_b (xs := xs) (a := (grdF xs i).a ||| 2 ^ j) (l := j);have hmb := mvF_b (xs := xs) (l := (grdF xs i).l) (k := (j : Int));have hml : ((grdF xs i).a ||| 2 ^ j) * xs.length ≤ 256 * 8 := Nat.mul_le_mul (by omega) (by omega);obtain ⟨hi1, hi2⟩ := zJv (A := (grdF xs i).a ||| 2 ^ j) (n := xs.length) (j := j) (N := ((((xs).map Task.enc).length : Nat) : Int)) (by simp only [lM]);have hel := zKX (r := r) (A := (grdF xs i).a ||| 2 ^ j) (n := xs.length) (j := j) (N := ((((xs).map Task.enc).length : Nat) : Int)) (by simp only [lM]) (by rw [hrl]; exact hix) hrv;have hmi : (((grdF xs i).a ||| 2 ^ j : Nat) : Int) * ((((xs).map Task.enc).length : Nat) : Int) = ((((grdF xs i).a ||| 2 ^ j) * xs.length : Nat) : Int) := by simp
   refine zAm rfl fun K83 hK83 => zAM (g_e rfl (e_lA (n := 2) (cs := [.lit true 6 (xs.map Task.enc), w]) rfl hihj73_2) (g_mS rfl rfl (g_mS rfl rfl (zBd rfl rfl rfl rfl (.cons (zD8 hihj73_1) (.cons zAY (.cons zAY .nil))) (zLG (by omega) (by omega)) (g_e rfl (zAi (v := .ref _ _ _ _) rfl) (g_mS rfl rfl ?_))))));refine g_mS rfl rfl (g_e rfl (zKB (k := j) rfl rfl (by omega)) (g_e rfl (e_orW rfl rfl (by omega) (zFm (by omega))) (g_e rfl (zKD rfl (by kernel_rfl) (by kernel_rfl) (by exact zFV (by omega) (by omega))) (g_mS rfl rfl (g_e rfl (e_mul rfl rfl (by first | omega | (simp only [lM] at *; omega))) (g_mS rfl rfl (g_e rfl (e_adL rfl rfl) ?_)))))));refine g_e rfl (e_ixR rfl rfl) (g_e rfl (zBC (a := (DX xs ((grdF xs i).a ||| 2 ^ j) j)) rfl hihj73_3 (by kernel_rfl) (by kernel_rfl) (by kernel_rfl) hel) (g_e rfl (e_adL rfl rfl) (g_aS rfl rfl (g_end (ds := []) (by kernel_rfl) rfl (hK83 _ ?_)))));refine zAm rfl fun K84 hK84 => zAM (g_mS rfl rfl (g_e rfl (e_lt rfl rfl) (g_mS rfl rfl ?_)));refine zAw (fun hb85 => ?_) (fun hb85 => ?_)
   ·have hb85R := hb85; try simp only [zz] at hb85
    iterate 3 refine gk_ ?_
    refine g_pT rfl rfl rfl (g_end (ds := [120, 121, 122]) rfl rfl (hK84 _ ?_));refine zAt (t := true) rfl (fun _ => ?_) nofun;refine zAn rfl fun K86 hK86 => p_mS rfl (p_mS rfl (p_aS rfl (p_aS rfl (p_end (hK86 _ ?_)))));refine zAj (zAb (hK77 _ ?_));refine zAn rfl fun K87 hK87 => p_e rfl (e_adL rfl rfl) (p_mS rfl (p_end (hK87 _ ?_)));exact zAo ((j + 1, (j : Int), ((mvF xs (grdF xs i).l (j : Int)) + (DX xs ((grdF xs i).a ||| 2 ^ j) j)))) (by show _ < _; simp only; omega) ⟨rfl, rfl, rfl, rfl, rfl, rfl, rfl, rfl, rfl, rfl, trivial⟩ ⟨rfl, rfl, rfl, trivial⟩ (by exact ⟨by show _ + 1 ≤ _; omega, by first | exact nxt_t (nx := nx) (b := b) hnx (by assumption) (by omega) | exact nxt_n (nx := nx) (b := b) hnx (by assumption) (by omega) | exact nxt_f hnx (by assumption), hihj73_0, hihj73_1, hihj73_2, hihj73_3⟩)
   have hb85R := hb85; try simp only [zz] at hb85
   refine g_mS rfl rfl (g_mS rfl rfl (g_e rfl (e_lt rfl rfl) (g_pF rfl rfl rfl (g_end (ds := [120, 121, 122]) rfl rfl (hK84 _ ?_)))));refine zAt rfl (fun hb88 => ?_) (fun hb88 => ?_)
   ·have hb88R := hb88; try simp only [zz] at hb88
    refine zAn rfl fun K89 hK89 => p_mS rfl (p_mS rfl (p_aS rfl (p_aS rfl (p_end (hK89 _ ?_)))));refine zAj (zAb (hK77 _ ?_));refine zAn rfl fun K90 hK90 => p_e rfl (e_adL rfl rfl) (p_mS rfl (p_end (hK90 _ ?_)));exact zAo ((j + 1, (j : Int), ((mvF xs (grdF xs i).l (j : Int)) + (DX xs ((grdF xs i).a ||| 2 ^ j) j)))) (by show _ < _; simp only; omega) ⟨rfl, rfl, rfl, rfl, rfl, rfl, rfl, rfl, rfl, rfl, trivial⟩ ⟨rfl, rfl, rfl, trivial⟩ (by exact ⟨by show _ + 1 ≤ _; omega, by first | exact nxt_t (nx := nx) (b := b) hnx (by assumption) (by omega) | exact nxt_n (nx := nx) (b := b) hnx (by assumption) (by omega) | exact nxt_f hnx (by assumption), hihj73_0, hihj73_1, hihj73_2, hihj73_3⟩)
   have hb88R := hb88; try simp only [zz] at hb88
   refine zAl (zAj (zAb (hK77 _ ?_)));refine zAn rfl fun K91 hK91 => p_e rfl (e_adL rfl rfl) (p_mS rfl (p_end (hK91 _ ?_)));exact zAo ((j + 1, nx, b)) (by show _ < _; simp only; omega) ⟨rfl, rfl, rfl, rfl, rfl, rfl, rfl, rfl, rfl, rfl, trivial⟩ ⟨rfl, rfl, rfl, trivial⟩ (by exact ⟨by show _ + 1 ≤ _; omega, by first | exact nxt_t (nx := nx) (b := b) hnx (by assumption) (by omega) | exact nxt_n (nx := nx) (b := b) hnx (by assumption) (by omega) | exact nxt_f hnx (by assumption), hihj73_0, hihj73_1, hihj73_2, hihj73_3⟩)
  have hb76R := hb76; try simp only [zz] at hb76
  have hjl : j = xs.length := by simp only [lM] at *; omega
  refine zAJ (zAK ?_);clear hK75 K75;refine zAC (zAA (zAb (hK68 _ ?_)));obtain rfl : nx = (nxtX xs (grdF xs i).a (grdF xs i).l) := by rw [hnx.1, hjl]; rfl
  obtain ⟨q, hq1, hq2, hq3⟩ := hgn hin;have hmb := mvF_b (xs := xs) (l := (grdF xs i).l) (k := (nxtX xs (grdF xs i).a (grdF xs i).l));refine zAa rfl fun K92 hK92 => p_mS rfl (p_e rfl (e_lA (n := 2) (cs := [.lit true 6 (xs.map Task.enc), w]) rfl hihj73_2) (p_mS rfl (p_mS rfl (zBs rfl (.cons (zD8 hihj73_1) (.cons zAY (.cons zAY .nil))) (zLG (by omega) (by omega)) (p_e rfl (e_adL rfl rfl) (p_aS rfl ?_))))));refine p_end (hK92 _ ?_);refine zAa rfl fun K93 hK93 => p_mS rfl (p_mS rfl (p_e rfl (zKB (k := (nxtX xs (grdF xs i).a (grdF xs i).l).toNat) rfl (congrArg PV.int (by omega)) (by omega)) (p_e rfl (e_orW rfl rfl (by omega) (zFm (by omega))) (p_mS rfl (p_aS rfl (p_aS rfl ?_))))));refine p_end (hK93 _ ?_);refine zAn rfl fun K94 hK94 => p_e rfl (zAi (v := _) rfl) (p_mS rfl (p_new rfl (zB4 (rows := [ci (nxtX xs (grdF xs i).a (grdF xs i).l)]) (zs := [.int 0]) (sz := 1) (by kernel_rfl) (by kernel_rfl) rfl (by kernel_rfl) (by decide) rfl rfl (by exact ⟨by decide, rfl, rfl, trivial⟩) rfl) trivial (p_app rfl rfl rfl (hihj73_0.keep fun _ => h1_ (rfl)) (zCq w_ rfl) (by kernel_rfl) (by simp only [List.length_append, lM, List.length_nil, List.length_cons]; omega) fun v95 h96 c97 hs98 hf99 => ?_)));have ho100 := (hf99 (5, _) (zAv rfl) (fun _ _ => zAv rfl)).trans (h1_ hihj73_2);have ho101 := (hf99 (38, _) (zAv rfl) (fun _ _ => zAv rfl)).trans (h1_ hihj73_3);have ho102 := (hf99 (140, _) (zAv rfl) (fun _ _ => zAv rfl)).trans w_;have hs103 := ((hihj73_1.keep fun _ => h1_ (rfl))).keep fun g => (hf99 (45, g) (zAv rfl) (fun _ _ => zAv rfl))
  refine p_e rfl (zAs (v := _) rfl) (p_end (hK94 _ ?_));refine zAj (zAb (hK65 _ ?_));refine zAn rfl fun K104 hK104 => p_e rfl (e_adL rfl rfl) (p_mS rfl (p_end (hK104 _ ?_)));exact zAo ((i + 1, v95)) (by show _ < _; simp only; omega) ⟨rfl, rfl, rfl, rfl, trivial⟩ ⟨rfl, rfl, rfl, rfl, rfl, trivial⟩ (by exact ⟨by show _ + 1 ≤ _; omega, (zAq.to hs98 (by (show _ = ((grdF xs i).out ++ [(nxtX xs (grdF xs i).a (grdF xs i).l)]).map ci; simp only [List.map_append, List.map_cons, List.map_nil]))), hs103, ho100, ho101⟩)
 have hb64R := hb64; try simp only [zz] at hb64
 have hie : i = xs.length := by simp only [lM] at *; omega
 refine zAJ (zAK ?_);clear hK63 K63;refine zAC (zAA (zAb (hK56 _ ?_)));refine zAa rfl fun K105 hK105 => p_e rfl (zAi (v := _) rfl) (p_mS rfl (p_e rfl (zAs (v := _) rfl) (p_aS rfl (p_aS rfl (p_end (hK105 _ ?_))))));refine zAh (end3 (v := _) (w := .sc _) (x := .sc _) rfl rfl rfl ?_);exact few_out hs0 hie hihj61_0
inductive Raise : PV → PV → Prop where
 | same (p : PV) : Raise p p
 | nil (sz : Nat) : Raise .nil (.lit true sz [])
 | lit {t : Bool} {sz : Nat} {rows rows' : Pv.Rows} (hl : rows.length = rows'.length) (hw : ∀ (i : Nat) (row row' : List PV), rows[i]? = some row → rows'[i]? = some row' → row.length = row'.length)
     (h : ∀ (i j : Nat) (row row' : List PV) (p p' : PV), rows[i]? = some row → rows'[i]? = some row' → row[j]? = some p → row'[j]? = some p' → Raise p p') : Raise (.lit t sz rows) (.lit true sz rows')
theorem Raise.cell {p p' : PV} (h : Raise p p') (hc : p.cell = true) : p'.cell = true := by
 cases h <;> first | exact hc | rfl
theorem zDp {α β : Type} {l : List α} {m : List β} {i : Nat} {b : β} (h : l.length = m.length) (hb : m[i]? = some b) : ∃ a, l[i]? = some a := by
 have := (List.getElem?_eq_some_iff.1 hb).1;exact ⟨l[i]'(by omega), List.getElem?_eq_getElem _⟩
theorem Raise.pure {p p' : PV} (h : Raise p p') : Pure p → Pure p' := by
 induction h with
 | same p => exact id
 | nil sz => intro _; exact .lit _ _ _ (by simp)
 | lit hl hw _ ih =>
   intro hp;cases hp with
   | lit _ _ _ h1 =>
     refine .lit _ _ _ fun row' hr p' hp' => ?_;obtain ⟨i, hi⟩ := List.getElem?_of_mem hr;obtain ⟨j, hj⟩ := List.getElem?_of_mem hp';obtain ⟨row, h2⟩ := zDp hl hi;obtain ⟨p, h3⟩ := zDp (hw i row row' h2 hi) hj;exact ih i j row row' p p' h2 hi h3 hj (h1 row (List.mem_of_getElem? h2) p (List.mem_of_getElem? h3))
theorem rep_raise {E : Env} (htt : E.tt = true) {p p' : PV} (h : Raise p p') : ∀ {v : Value}, Rep E v p → Rep E v p' := by
 induction h with
 | same p => exact id
 | nil sz => intro v hv; cases hv; exact .litE
 | lit hl hw hs ih =>
   rename_i t sz rows rows';intro v hv;cases hv with
   | litE =>
     have : rows' = [] := List.eq_nil_of_length_eq_zero hl.symm;subst this; exact .litE
   | @lit b off c _ _ _ f hm hc hr =>
     rw [hl];refine .lit (f := f) ⟨hm.own, fun h => (by cases h), fun _ => htt, hm.lt, fun row' hr' => ?_, fun i j row' p' h1 h2 => ?_, fun row' hr' p' hp' => ?_, fun row' hr' p' hp' => ?_⟩ (by omega) fun i j row' p' h1 h2 => ?_
     · obtain ⟨i, hi⟩ := List.getElem?_of_mem hr';obtain ⟨row, h2⟩ := zDp hl hi;rw [← hw i row row' h2 hi]; exact hm.width row (List.mem_of_getElem? h2)
     · obtain ⟨row, h3⟩ := zDp hl h1;obtain ⟨p, h4⟩ := zDp (hw i row row' h3 h1) h2;exact hm.cell i j row p h3 h4
     · obtain ⟨i, h1⟩ := List.getElem?_of_mem hr';obtain ⟨j, h2⟩ := List.getElem?_of_mem hp';obtain ⟨row, h3⟩ := zDp hl h1;obtain ⟨p, h4⟩ := zDp (hw i row row' h3 h1) h2;exact (hs i j row row' p p' h3 h1 h4 h2).pure (hm.pure row (List.mem_of_getElem? h3) p (List.mem_of_getElem? h4))
     · obtain ⟨i, h1⟩ := List.getElem?_of_mem hr';obtain ⟨j, h2⟩ := List.getElem?_of_mem hp';obtain ⟨row, h3⟩ := zDp hl h1;obtain ⟨p, h4⟩ := zDp (hw i row row' h3 h1) h2;exact (hs i j row row' p p' h3 h1 h4 h2).cell (hm.one row (List.mem_of_getElem? h3) p (List.mem_of_getElem? h4))
     · obtain ⟨row, h3⟩ := zDp hl h1;obtain ⟨p, h4⟩ := zDp (hw i row row' h3 h1) h2;exact ih i j row row' p p' h3 h1 h4 h2 (hr i j row p h3 h4)
inductive Raises : List PV → List PV → Prop where
 | nil : Raises [] []
 | cons {p p' : PV} {l l' : List PV} (h : Raise p p') (hs : Raises l l') : Raises (p :: l) (p' :: l')
theorem Raises.len : ∀ {l l' : List PV}, Raises l l' → l.length = l'.length
 | _, _, .nil => rfl
 | _, _, .cons _ hs => by simp [hs.len]
theorem Raises.get : ∀ {l l' : List PV}, Raises l l' → ∀ (i : Nat) (p p' : PV), l[i]? = some p → l'[i]? = some p' → Raise p p'
 | _, _, .nil, i, p, p', h1, _ => by cases h1
 | _, _, .cons h hs, 0, p, p', h1, h2 => by cases h1; cases h2; exact h
 | _, _, .cons h hs, i + 1, p, p', h1, h2 => hs.get i p p' h1 h2
theorem Raise.row {t : Bool} {sz : Nat} {rows rows' : Pv.Rows} (hl : rows.length = rows'.length) (h : ∀ (i : Nat) (row row' : List PV), rows[i]? = some row → rows'[i]? = some row' → Raises row row') : Raise (.lit t sz rows) (.lit true sz rows') :=
 .lit hl (fun i row row' h1 h2 => (h i row row' h1 h2).len) fun i j row row' p p' h1 h2 h3 h4 => (h i row row' h1 h2).get j p p' h3 h4
theorem sameR : ∀ r : List PV, Raises r r
 | [] => .nil
 | p :: r => .cons (.same p) (sameR r)
theorem PCalls.raise {P : Program} {f : FuncId} {args args' : List PV} {r : PV} (hc : PCalls P f args' r) (h : Raises args args') : PCalls P f args r :=
 ⟨hc.1, hc.2.1, fun w M vs h1 h2 h3 h4 => hc.2.2 w M vs h1 h2 (h3.trans h.len) fun i u p hu hp => by
   obtain ⟨q, hq⟩ := zDp h.len hp;exact rep_raise rfl (h.get i q p hq hp) (h4 i u q hu hq)⟩
def ordX (xs : List Task) : List Int × Int := if planE xs ≠ 0 then ([], planE xs) else (ordR (ndX xs), 0)
theorem ordX_e {h : Heap} {xs : List Task} (hp : planE xs ≠ 0) : Out h (.tup [.nil, .int (planE xs)]) (.tup [.lit false 1 ((ordX xs).1.map ci), .int (ordX xs).2]) := by
 rw [ordX, if_pos hp]; exact out_2 (.nil 1) (out_i rfl)
theorem srt_ok {xs : List Task} (hp : planE xs = 0) : srtR (ndX xs) = ordX xs := by
 rw [srt_2 (zIr hp), ordX, if_neg (fun q => q hp)]
theorem ints_clean {l : List Int} : ∀ row ∈ l.map ci, ∀ p ∈ row, Go.Pv.Clean p := fun row hr p hp => by
 obtain ⟨a, _, rfl⟩ := List.mem_map.1 hr;simp [ci] at hp; subst hp; exact .sc _
theorem e_eqT {P : Program} {ρ : Operand → PV} {h : Heap} {key : Key} {x y : Operand} {t t' : TypeId} {k : IntKind} {a : Int} (hx : ρ x = .sc (.int k a)) (hy : ρ y = .sc (.int k a)) : eff P ρ h key (.binOp .eql t x y t') = ⟨True, .bool true, [], [], false⟩ := by
 rw [e_eq hx hy, decide_eq_true rfl]
theorem zME (xs : List Task) (hl : xs.length ≤ 10000) (hq : Fair xs) : PCalls Tryz.prog 9 [.lit true 6 (xs.map Task.enc)] (.tup [.lit false 1 ((ordX xs).1.map ci), .int (ordX xs).2]) := by
 refine pco Tryz.func9 rfl rfl (zKs (.lit _ _ _ fun row hr => zBo zDn row hr) (.sc _)) (zAa rfl fun K1 hK1 => p_e rfl (zAs (v := .nil) rfl) (p_aS rfl (p_end (hK1 _ ?_))));refine zAf (zAa rfl fun K2 hK2 => p_e rfl (zAi (v := .lit _ _ _) rfl) (zBs rfl (.cons zBV .nil) (zMF _ hl hq) (p_aS rfl (p_end (hK2 _ ?_)))));refine zAf (zAa rfl fun K3 hK3 => p_mS rfl (p_e rfl (e_ne rfl rfl) (p_end (hK3 _ ?_))));refine zAe rfl fun K4 hK4 => ⟨fun hb5 => ?_, fun hb5 => ?_⟩
 ·try simp only [zz] at hb5
  refine zAa rfl fun K6 hK6 => p_mS rfl (p_e rfl (zAs (v := .nil) rfl) (p_aS rfl (p_end (hK6 _ ?_))));refine zAh (zAk (end2 (v := .nil) (w := .sc _) rfl rfl ?_));exact ordX_e (by assumption)
 try simp only [zz] at hb5
 refine zAl (zAb (hK4 _ ?_));refine zAa rfl fun K7 hK7 => p_e rfl (zAi (v := .lit _ _ _) rfl) (zBs rfl (.cons zBV .nil) (zKQ _ (by omega) (fun x hx => (hq x hx).1) (zJf (zHS (by assumption)))) (p_e rfl (e_ext (v := .lit _ _ _) rfl (by simp) rfl) (p_e rfl (e_ext (v := .sc _) rfl (by simp) rfl) (p_e rfl (zAs (v := .lit _ _ _) rfl) (p_aS rfl (p_end (hK7 _ ?_)))))));refine zAh (end2 (v := .lit _ _ _) (w := .sc _) rfl rfl ?_);exact (by rw [← srt_ok (by assumption)]; exact out_2 (.clean (.lit _ _ ints_clean)) (out_i rfl))
def rigB : ByteArray := ⟨#[114, 105, 103, 103, 101, 114]⟩
def planX : List Task := [⟨⟨#[98, 97, 115, 101]⟩, rigB, -1, 0, 3, []⟩, ⟨⟨#[112, 111, 115, 116]⟩, rigB, -1, 0, 10, [0]⟩, ⟨⟨#[114, 97, 105, 108]⟩, rigB, -1, 1, 5, [0]⟩, ⟨⟨#[100, 101, 99, 107]⟩, rigB, -1, 0, 6, [1, 2]⟩]
theorem zHg : Raises [.lit true 6 zDu] [.lit true 6 (planX.map Task.enc)] := by
 have hn : ∀ l : List Int, Raise (.lit false 1 (l.map ci)) (.lit true 1 (l.map ci)) := fun l => .row rfl fun i row row' h1 h2 => by
   rw [h1] at h2; cases h2
   have : ∀ r : List PV, Raises r r := fun r => by
     induction r with
     | nil => exact .nil
     | cons p r ih => exact .cons (.same p) ih
   exact this row
 refine .cons (.row rfl fun i row row' h1 h2 => ?_) .nil
 match i with
 | 0 => cases h1; cases h2; exact .cons (.same _) (.cons (.same _) (.cons (.same _) (.cons (.same _) (.cons (.same _) (.cons (.nil 1) .nil)))))
 | 1 => cases h1; cases h2; exact .cons (.same _) (.cons (.same _) (.cons (.same _) (.cons (.same _) (.cons (.same _) (.cons (hn [0]) .nil)))))
 | 2 => cases h1; cases h2; exact .cons (.same _) (.cons (.same _) (.cons (.same _) (.cons (.same _) (.cons (.same _) (.cons (hn [0]) .nil)))))
 | 3 => cases h1; cases h2; exact .cons (.same _) (.cons (.same _) (.cons (.same _) (.cons (.same _) (.cons (.same _) (.cons (hn [1, 2]) .nil)))))
 | i + 4 => simp [zDu] at h1
def zGd : Goods := { ok := fun f => [66].contains f }
theorem goodsM7_ok : GoodsOK Tryz.prog zGd := ⟨fun f hf => List.all_eq_true.1 (show [66].all (zFH Tryz.prog) = true by kernel_rfl) f (List.contains_iff_mem.1 hf), (fun _ _ _ _ _ _ _ h => by cases h), (fun _ _ _ _ _ h => by cases h)⟩
theorem nm7 {s : ByteArray} (h : zDm Tryz.prog zGd 300 66 [.str s] = some (.bool true)) (hn : isNm s = true) : PCalls Tryz.prog 66 [.str s] (.bool (isNm s)) := by
 rw [hn]; exact zCj mixed goodsM7_ok h
theorem plan_nm : planX.map (fun x => (zDm Tryz.prog zGd 300 66 [.str x.name], zDm Tryz.prog zGd 300 66 [.str x.trade])) = planX.map fun _ => (some (.bool true), some (.bool true)) := by kernel_rfl
theorem zIq : Fair planX := by
 intro x hx;have h := List.map_inj_left.1 plan_nm x hx;have h1 := congrArg Prod.fst h;have h2 := congrArg Prod.snd h;refine ⟨?_, ?_, ?_, nm7 h1 ?_, nm7 h2 ?_⟩ <;> clear h h1 h2 <;> revert x <;> decide +kernel
theorem plan_ord : ordX planX = ([0, 1, 2, 3], 0) := by decide +kernel
theorem plan_few : fewR planX = ([0, 1, 2, 3], 2, 0) := by decide +kernel
theorem order_c : PCalls Tryz.prog 9 [.lit true 6 zDu] (.tup [.lit false 1 (([0, 1, 2, 3] : List Int).map ci), .int 0]) := by
 have h := PCalls.raise (zME planX (by decide) zIq) zHg;rw [plan_ord] at h; exact h
theorem fewest_c : PCalls Tryz.prog 19 [.lit true 6 zDu] (.tup [.lit false 1 (([0, 1, 2, 3] : List Int).map ci), .int 2, .int 0]) := by
 have h := PCalls.raise (FewestC planX (by decide) zIq (.inl (by decide))) zHg;rw [plan_few] at h; exact h
theorem zLN (l : List Int) (h : l.length ≤ 1000000) : PCalls Tryz.prog 21 [.lit true 1 (l.map ci), .lit true 1 (l.map ci)] (.bool true) := by
 have h := IntsC l l h;rw [decide_eq_true rfl] at h; exact h
theorem awake  : PCalls Tryz.prog 5 [] (.bool true) := by
 refine pco Tryz.func5 rfl rfl (.sc _) (zAa rfl fun K1 hK1 => p_aS rfl (p_end (hK1 _ ?_)));refine zAa rfl fun K2 hK2 => zBs rfl .nil (zLC) (zBs rfl (.cons zBV .nil) (order_c) (p_e rfl (zAi (v := .tup _) rfl) (p_e rfl (e_ext (v := .lit _ _ _) rfl (by simp) rfl) (p_e rfl (e_ext (v := .sc _) rfl (by simp) rfl) (p_e rfl (zAs (v := .lit _ _ _) rfl) (p_aS rfl ?_))))));refine p_end (hK2 _ ?_);refine zAa rfl fun K3 hK3 => zBs rfl .nil (zLC) (zBs rfl (.cons zBV .nil) (fewest_c) (p_e rfl (zAi (v := .tup _) rfl) (p_e rfl (e_ext (v := .lit _ _ _) rfl (by simp) rfl) (p_e rfl (e_ext (v := .sc _) rfl (by simp) rfl) (p_e rfl (e_ext (v := .sc _) rfl (by simp) rfl) (p_e rfl (zAs (v := .lit _ _ _) rfl) ?_))))));refine p_aS rfl (p_aS rfl (p_end (hK3 _ ?_)));refine zAa rfl fun K4 hK4 => zBs rfl .nil (zLC) (zBs rfl (.cons zBV .nil) (critical_c) (p_e rfl (zAi (v := .tup _) rfl) (p_e rfl (e_ext (v := .sc _) rfl (by simp) rfl) (p_e rfl (e_ext (v := .lit _ _ _) rfl (by simp) rfl) (p_e rfl (e_ext (v := .sc _) rfl (by simp) rfl) (p_aS rfl ?_))))));refine p_e rfl (zAs (v := .lit _ _ _) rfl) (p_aS rfl (p_end (hK4 _ ?_)));refine zAm rfl fun K5 hK5 => zA0 (s_e rfl (zAi (v := .sc _) rfl) (s_e rfl (e_eqT rfl rfl) (s_e rfl (zAi (v := .sc _) rfl) (s_e rfl (zAi (v := .lit _ _ _) rfl) (s_new [] (by simp) rfl rfl rfl rfl (zB4 (rows := ([0, 1, 2, 3] : List Int).map ci) (zs := [.int 0]) (sz := 1) (by kernel_rfl) (by kernel_rfl) rfl (by kernel_rfl) (by decide) rfl rfl (by exact ⟨by decide, rfl, rfl, ⟨by decide, rfl, rfl, ⟨by decide, rfl, rfl, ⟨by decide, rfl, rfl, trivial⟩⟩⟩⟩) rfl) trivial (zDS (args := [.lit _ _ _, .ref _ _ _ _]) [30] (by intro k hk; simp [zBF, Go.Pv.keyOf] at hk; try (subst hk; simp)) rfl rfl rfl rfl (.cons zBV (.cons (zJS (rows := ([0, 1, 2, 3] : List Int).map ci) w_ (by simp) rfl (by exact zBo zDn)) .nil)) (zLN _ (by decide)) ?_))))));refine s_e rfl (zCX (v := .sc _) rfl rfl) (s_e rfl (zAi (v := .sc _) rfl) (s_e rfl (zAi (v := .sc _) rfl) (s_e rfl (e_eqT rfl rfl) (s_e rfl (zCX (v := .sc _) rfl rfl) (s_e rfl (zAi (v := .sc _) rfl) (s_e rfl (zAi (v := .lit _ _ _) rfl) (s_new [] (by simp) rfl rfl rfl rfl (zB4 (rows := ([0, 1, 2, 3] : List Int).map ci) (zs := [.int 0]) (sz := 1) (by kernel_rfl) (by kernel_rfl) rfl (by kernel_rfl) (by decide) rfl rfl (by exact ⟨by decide, rfl, rfl, ⟨by decide, rfl, rfl, ⟨by decide, rfl, rfl, ⟨by decide, rfl, rfl, trivial⟩⟩⟩⟩) rfl) trivial ?_)))))));refine zDS (args := [.lit _ _ _, .ref _ _ _ _]) [39] (by intro k hk; simp [zBF, Go.Pv.keyOf] at hk; try (subst hk; simp)) rfl rfl rfl rfl (.cons zBV (.cons (zJS (rows := ([0, 1, 2, 3] : List Int).map ci) w_ (by simp) rfl (by exact zBo zDn)) .nil)) (zLN _ (by decide)) (s_e rfl (zCX (v := .sc _) rfl rfl) (s_e rfl (zAi (v := .sc _) rfl) (s_e rfl (zAi (v := .sc _) rfl) (s_e rfl (e_eqT rfl rfl) (s_e rfl (zCX (v := .sc _) rfl rfl) (s_e rfl (zAi (v := .sc _) rfl) (s_e rfl (zAi (v := .sc _) rfl) ?_)))))));refine s_e rfl (e_eqT rfl rfl) (s_e rfl (zCX (v := .sc _) rfl rfl) (s_e rfl (zAi (v := .sc _) rfl) (s_e rfl (zAi (v := .sc _) rfl) (s_e rfl (e_eqT rfl rfl) (s_e rfl (zCX (v := .sc _) rfl rfl) (s_e rfl (zAi (v := .sc _) rfl) (s_e rfl (zAi (v := .lit _ _ _) rfl) ?_)))))));refine s_new [] (by simp) rfl rfl rfl rfl (zB4 (rows := ([0, 1, 3] : List Int).map ci) (zs := [.int 0]) (sz := 1) (by kernel_rfl) (by kernel_rfl) rfl (by kernel_rfl) (by decide) rfl rfl (by exact ⟨by decide, rfl, rfl, ⟨by decide, rfl, rfl, ⟨by decide, rfl, rfl, trivial⟩⟩⟩) rfl) trivial (zDS (args := [.lit _ _ _, .ref _ _ _ _]) [56] (by intro k hk; simp [zBF, Go.Pv.keyOf] at hk; try (subst hk; simp)) rfl rfl rfl rfl (.cons zBV (.cons (zJS (rows := ([0, 1, 3] : List Int).map ci) w_ (by simp) rfl (by exact zBo zDn)) .nil)) (zLN _ (by decide)) (s_e rfl (zCX (v := .sc _) rfl rfl) (s_e rfl (zAs (v := .sc _) rfl) (s_end (ds := [29, 30, 31, 34, 35, 38, 39, 40, 43, 44, 47, 48, 51, 52, 55, 56, 57]) (by kernel_rfl) (by kernel_rfl) (hK5 _ ?_)))));refine zAh (end1 (v := .sc _) rfl ?_);exact out_b rfl
end Go.Proofs.YtnbcmoaofmkjhaaGreatDoor.E7
namespace Go.Pv
open Go Go.Proofs Go.RowKit
variable {P : Program}
theorem arr1x {a : Array Value} (h : a.size = 1) : ∃ x, a = #[x] := by
 obtain ⟨l⟩ := a
 match l, h with
 | [x], _ => exact ⟨x, rfl⟩
theorem zG0 {xs : List Int} {j : Nat} {z : Int} (h : xs[j]? = some z) : (xs.toArray)[j]! = z := by
 rw [getElem!_def]; simp [h]
theorem zIs {E : Env} (g : Good E) {k : Key} {xs ys : List Int} (hk : E.h k = some (.rows 1 (xs.map fun z => [.int z]))) (hl : ys.length = xs.length) (n : Nat) (os : Array Obj) :
   Sort.Holds (Value.int .i64) E.w (E.blk k) (E.cap k).2 xs.toArray ∧
   ∃ E' : Env, E'.w = Sort.grow (Sort.putRow (Value.int .i64) (Sort.ahead E.w n) (E.blk k) (E.cap k).2 ys.toArray) os ∧ Good E' ∧ EnvLe E E' ∧ Below E.B0 E.w E'.w ∧ E'.h k = some (.rows 1 (ys.map fun z => [.int z])) ∧ (∀ k', k' ≠ k → E'.h k' = E.h k') ∧ E'.cnt = E.cnt ∧ E'.blk = E.blk ∧ E'.cap = E.cap ∧ E'.tt = E.tt := by
 obtain ⟨c, T, h1, h2, h3, h4, h5, h6, h7⟩ := g.obj k _ hk
 have hH : Sort.Holds (Value.int .i64) E.w (E.blk k) (E.cap k).2 xs.toArray := fun j hj => by
   have hj' : j < xs.length := by simpa using hj
   obtain ⟨z, hz⟩ : ∃ z, xs[j]? = some z := ⟨_, List.getElem?_eq_getElem hj'⟩
   obtain ⟨v, h8, h9⟩ := h7 j 0 [.int z] (.int z) (by rw [List.getElem?_map, hz]; rfl) rfl;rw [h9.sc_inv] at h8;rw [zG0 hz];refine ⟨?_, by simp [World.frozen?, h1]⟩;rw [zCC h1, show (E.cap k).2 + j = (E.cap k).2 + j * 1 + 0 by omega]; exact h8
 refine ⟨hH, ?_⟩;generalize hw1 : Sort.putRow (Value.int .i64) (Sort.ahead E.w n) (E.blk k) (E.cap k).2 ys.toArray = w1
 have hH1 : Sort.Holds (Value.int .i64) w1 (E.blk k) (E.cap k).2 ys.toArray := by
   rw [← hw1]; exact Sort.holds_putRow _ _ _ _ xs.toArray ys.toArray (Sort.holds_ahead _ _ _ _ _ _ hH) (by simpa using hl)
 have hsz1 : w1.heap.size = E.w.heap.size := by rw [← hw1, Sort.size_putRow]; rfl
 have hb1 : ∀ b, b ≠ E.blk k → w1.heap[b]? = E.w.heap[b]? := fun b hb => by
   rw [← hw1]; simp only [Sort.putRow, Sort.mapBlock, Array.getElem?_modify];rw [if_neg (fun e => hb e.symm)]; rfl
 have hc1 : ∃ c', w1.heap[E.blk k]? = some (.cells c' T (0, 0)) ∧ c'.size = c.size := by
   rw [← hw1];refine ⟨Sort.putCells (Value.int .i64) (E.cap k).2 ys.toArray c, ?_, by simp [Sort.putCells]⟩;simp only [Sort.putRow, Sort.mapBlock, Array.getElem?_modify, if_true];have : (Sort.ahead E.w n).heap[E.blk k]? = some (.cells c T (0, 0)) := h1;rw [this]; rfl
 obtain ⟨c', hc1, hc2⟩ := hc1
 have ho : ObjOK (zCR E k (.rows 1 (ys.map fun z => [.int z])) w1) k (.rows 1 (ys.map fun z => [.int z])) := by
   refine ⟨c', T, hc1, by rw [hc2]; exact h2, by rw [lM] at h3 ⊢; rw [hl]; exact h3, Nat.le_refl _, ?_, ?_, fun i j row p h8 h9 => ?_⟩
   · intro row hr; obtain ⟨z, _, rfl⟩ := List.mem_map.1 hr; rfl
   · intro row hr p hp; obtain ⟨z, _, rfl⟩ := List.mem_map.1 hr; simp at hp; subst hp; rfl
   · rw [List.getElem?_map, Option.map_eq_some_iff] at h8;obtain ⟨z, hz, rfl⟩ := h8
     match j with
     | 0 =>
       cases h9;have hi : i < ys.length := (List.getElem?_eq_some_iff.1 hz).1;have h10 := (hH1 i (by simpa using hi)).1;rw [zG0 hz, zCC hc1] at h10;exact ⟨_, by show c'[(E.cap k).2 + i * 1 + 0]? = _; rw [show (E.cap k).2 + i * 1 + 0 = (E.cap k).2 + i by omega]; exact h10, .sc rfl⟩
     | j + 1 => cases h9
 have ha : PObj.alike (.rows 1 (xs.map fun z => [.int z])) (.rows 1 (ys.map fun z => [.int z])) := rfl;have g1 := zED g hk ha (Nat.le_of_eq hsz1.symm) hb1 ho;have le1 := zFc g hk ha (Nat.le_of_eq hsz1.symm) hb1;have bl1 : Below E.B0 E.w w1 := zFj g hk (Nat.le_of_eq hsz1.symm) hb1 (by rw [← hw1]; rfl) (by rw [← hw1]; rfl) (by rw [← hw1]; rfl);generalize hE1 : zCR E k (.rows 1 (ys.map fun z => [.int z])) w1 = E1 at g1 le1;have hw : E1.w = w1 := by rw [← hE1]; rfl
 have hblk : ∀ b, b < E1.w.heap.size → (Sort.grow w1 os).heap[b]? = E1.w.heap[b]? := fun b hb => by
   rw [hw] at hb ⊢;simp only [Sort.grow, Array.getElem?_append]; rw [if_pos hb]
 have hsz : E1.w.heap.size ≤ (Sort.grow w1 os).heap.size := by rw [hw, Sort.size_grow]; omega
 have hle : EnvLe E1 { E1 with w := Sort.grow w1 os } := ⟨fun b hb _ => hblk b hb, hsz, fun b hb => .inl hb, rfl, rfl, rfl, fun _ => Nat.le_refl _, fun _ _ h => h, fun _ _ rs h => .inr ⟨rs, h, rfl, rfl⟩, fun _ o h _ => .inr ⟨o, h, rfl, rfl⟩⟩
 have g2 : Good { E1 with w := Sort.grow w1 os } := ⟨g1.inj, g1.known, g1.base, fun k o h => ObjOK.le hle rfl rfl (hblk _ (zBL g1 h)) (g1.obj k o h), g1.out, Nat.le_trans g1.size hsz, zCr g1.glob (Nat.le_refl _) fun b hb => hblk b (Nat.lt_of_lt_of_le hb g1.size)⟩
 refine ⟨{ E1 with w := Sort.grow w1 os }, rfl, g2, le1.trans hle g.known, ?_, ?_, ?_, ?_, ?_, ?_, ?_⟩
 · have hB : E.B0 ≤ w1.heap.size := by rw [hsz1]; exact g.size
   exact bl1.trans ⟨rfl, rfl, rfl, by rw [Sort.size_grow]; omega, fun b hb => by
     have := hblk b (by rw [hw]; omega); rw [hw] at this; exact this⟩
 · rw [← hE1]; simp [zCR]
 · intro k' hk'; rw [← hE1]; simp [zCR, hk']
 · rw [← hE1]; rfl
 · rw [← hE1]; rfl
 · rw [← hE1]; rfl
 · rw [← hE1]; rfl
theorem zAy.ownRow {f : FuncId} (hb : hasBody P f = true) {k : Key} {xs ys : List Int} {h0 : Heap} {c0 : Nat → Nat} (hk : h0 k = some (.rows 1 (xs.map fun z => [.int z]))) (hl : ys.length = xs.length)
   (hS : ∀ (blk off cap : Nat) (w : World), xs.length ≤ cap → Sort.Holds (Value.int .i64) w blk off xs.toArray → blk < w.heap.size → Calls P f #[.slice (some ⟨blk, off, none⟩) xs.length cap] w fun e w' => e = .returned (.tuple #[]) ∧ ∃ n os, w' = Sort.grow (Sort.putRow (Value.int .i64) (Sort.ahead w n) blk off ys.toArray) os)
   (hS0 : ∀ (a : Option Addr) (cap : Nat) (w : World), Calls P f #[.slice a 0 cap] w fun e w' => e = .returned (.tuple #[]) ∧ w' = w) :
   zAy P f [.ref k 1 0 xs.length] h0 c0 (fun _ h c => h k = some (.rows 1 (ys.map fun z => [.int z])) ∧ (∀ k', k' ≠ k → h k' = h0 k') ∧ c = c0) := by
 refine ⟨hb, fun E vs g hh hcn htt hsz hrep => ?_⟩;subst hh;obtain ⟨v0, rfl⟩ := arr1x hsz;have h0 := hrep 0 v0 _ rfl rfl;have hrt : ∀ E' : Env, Rep E' (.tuple #[]) (.tup []) := fun E' => .tup rfl fun i v p h1 h2 => by cases h2
 generalize hn : xs.length = len at h0;cases h0 with
 | @ref b a _ _ _ _ cp hkn hlen hloc =>
   obtain ⟨⟨rfl, ha⟩, hcap, _⟩ := hloc _ hk;rw [show (E.cap k).2 + 0 * 1 = (E.cap k).2 by omega] at ha;subst ha;subst hn;refine (hS _ _ cp E.w hlen (zIs g hk hl 0 #[]).1 (zBL g hk)).mono ?_
   rintro e w' ⟨rfl, n, os, hw'⟩
   obtain ⟨_, E', h1, h2, h3, h4, h5, h6, h7, _⟩ := zIs g hk hl n os;exact ⟨_, _, E', rfl, ⟨h5, h6, by rw [h7]; exact hcn⟩, by rw [h1, hw'], h2, h3, by rw [h1, ← hw'] at h4; exact h4, hrt E'⟩
 | refE hkn hloc =>
   have hx : xs = [] := by cases xs with | nil => rfl | cons _ _ => cases hn
   subst hx;have hy : ys = [] := by cases ys with | nil => rfl | cons _ _ => cases hl
   subst hy;refine (hS0 _ _ E.w).mono ?_
   rintro e w' ⟨rfl, rfl⟩
   exact ⟨_, _, E, rfl, ⟨hk, fun _ _ => rfl, hcn⟩, rfl, g, EnvLe.refl E, Below.refl _ _, hrt E⟩
theorem zAy.ownHead {f : FuncId} (hb : hasBody P f = true) {k : Key} {xs ys : List Int} {m : Nat} {h0 : Heap} {c0 : Nat → Nat} (hk : h0 k = some (.rows 1 (xs.map fun z => [.int z]))) (hl : ys.length = xs.length) (hm : m ≤ xs.length) (hm0 : xs ≠ [])
   (hS : ∀ (blk off cap : Nat) (w : World), xs.length ≤ cap → Sort.Holds (Value.int .i64) w blk off xs.toArray → blk < w.heap.size → Calls P f #[.slice (some ⟨blk, off, none⟩) xs.length cap] w fun e w' => e = .returned (.slice (some ⟨blk, off, none⟩) m cap) ∧ ∃ n os, w' = Sort.grow (Sort.putRow (Value.int .i64) (Sort.ahead w n) blk off ys.toArray) os) :
   zAy P f [.ref k 1 0 xs.length] h0 c0 (fun v h c => v = .ref k 1 0 m ∧ h k = some (.rows 1 (ys.map fun z => [.int z])) ∧ (∀ k', k' ≠ k → h k' = h0 k') ∧ c = c0) := by
 refine ⟨hb, fun E vs g hh hcn htt hsz hrep => ?_⟩;subst hh;obtain ⟨v0, rfl⟩ := arr1x hsz;have h0 := hrep 0 v0 _ rfl rfl;generalize hn : xs.length = len at h0;cases h0 with
 | @ref b a _ _ _ _ cp hkn hlen hloc =>
   obtain ⟨⟨rfl, ha⟩, hcap, _⟩ := hloc _ hk;rw [show (E.cap k).2 + 0 * 1 = (E.cap k).2 by omega] at ha;subst ha;subst hn;refine (hS _ _ cp E.w hlen (zIs g hk hl 0 #[]).1 (zBL g hk)).mono ?_
   rintro e w' ⟨rfl, n, os, hw'⟩
   obtain ⟨_, E', h1, h2, h3, h4, h5, h6, h7, h8, h9, _⟩ := zIs g hk hl n os;refine ⟨_, _, E', rfl, ⟨rfl, h5, h6, by rw [h7]; exact hcn⟩, by rw [h1, hw'], h2, h3, by rw [h1, ← hw'] at h4; exact h4, ?_⟩;refine .ref (h3.known hkn) (by omega) fun o ho => ?_;rw [h5] at ho; cases ho;exact ⟨⟨by rw [h8], by rw [h9]; omega⟩, by rw [h9]; omega, _, rfl⟩
 | refE hkn hloc =>
   exact absurd (List.length_eq_zero_iff.1 hn) hm0
def zLZ (cnt : Nat → Nat) (xs : List Int) (v : PV) (h2 : Heap) : Prop := ((v = .nil ∨ v = .lit false 1 []) ∧ xs = []) ∨ ∃ (k : Key) (R : List Int), v = .ref k 1 0 xs.length ∧ h2 k = some (.rows 1 (R.map fun z => [.int z])) ∧ R.take xs.length = xs ∧ cnt k.1 ≤ k.2
theorem zAy.freezeI {f : FuncId} {args : List PV} {h : Heap} {cnt : Nat → Nat} {xs : List Int} (hc : zAy P f args h cnt (fun v h2 _ => zLZ cnt xs v h2 ∧ ∀ k : Key, k.2 < cnt k.1 → h2 k = h k)) :
   zAy P f args h cnt (fun v h2 c2 => v = .lit false 1 (xs.map fun z => [.int z]) ∧ h2 = h ∧ c2 = cnt) := by
 refine ⟨hc.1, fun E vs g hh hcn htt hsz hrep => (hc.2 E vs g hh hcn htt hsz hrep).mono ?_⟩
 rintro e w' ⟨u, v, E', rfl, ⟨hF, hk0⟩, rfl, g', hle, hbl, hu⟩
 have hk : ∀ k o, E.h k = some o → E'.h k = some o := fun k o ho => by
   have h1 := g.known k o ho;unfold Env.known at h1;rw [hcn] at h1;rw [hk0 k h1, ← hh]; exact ho
 refine ⟨u, .lit false 1 (xs.map fun z => [.int z]), zHD E E', rfl, ⟨rfl, hh, hcn⟩, rfl, zIL g g' hle hk, ⟨hle.blk, hle.size, fun b hb => .inl hb, rfl, rfl, rfl, fun _ => Nat.le_refl _, fun _ _ h => h, fun _ _ rs h => .inr ⟨rs, h, rfl, rfl⟩, fun _ o h _ => .inr ⟨o, h, rfl, rfl⟩⟩, hbl, ?_⟩;rcases hF with ⟨rfl | rfl, rfl⟩ | ⟨k, R, rfl, hR, htk, hnew⟩
 · cases hu; exact .litE
 · cases hu with
   | litE => exact .litE
   | lit _ _ _ => exact .litE
 · generalize hn : xs.length = len at hu;cases hu with
   | @ref b a _ _ _ _ cp hkn hlen hloc =>
     obtain ⟨⟨rfl, ha⟩, hcap, _⟩ := hloc _ hR;rw [show (E'.cap k).2 + 0 * 1 = (E'.cap k).2 by omega] at ha;subst ha;subst hn
     obtain ⟨fc, hm, hr⟩ := zLi g' hR (by
       intro row hr p hp; obtain ⟨z, _, rfl⟩ := List.mem_map.1 hr; simp at hp; subst hp; exact .sc _)
     have hsub : ∀ (i : Nat) (row : List PV), (xs.map fun z => [PV.int z])[i]? = some row → (R.map fun z => [PV.int z])[i]? = some row := fun i row h1 => by
       rw [List.getElem?_map, Option.map_eq_some_iff] at h1;obtain ⟨z, hz, rfl⟩ := h1;have hi := (List.getElem?_eq_some_iff.1 hz).1;rw [← htk, List.getElem?_take_of_lt hi] at hz;rw [List.getElem?_map, hz]; rfl
     have hlm : (xs.map fun z => [PV.int z]).length = xs.length := lM _;rw [← hlm];refine .lit (f := fc) ⟨?_, fun ht => ?_, fun h => (by cases h), hm.lt, ?_, fun i j row p h1 h2 => hm.cell i j row p (hsub i row h1) h2, ?_, ?_⟩ (by rw [hlm]; exact hlen) fun i j row p h1 h2 => ?_
     · rintro ⟨k0, o, h1, h2⟩
       have h3 := hk k0 o h1;have h4 : E.blk k0 = E'.blk k := h2;rw [← (hle.same hk h1).1] at h4;have h5 := g'.inj _ _ _ _ h3 hR h4;subst h5;have h6 := g.known _ _ h1;unfold Env.known at h6;rw [hcn] at h6; omega
     · have := hm.out ht;show ¬ E.M _;rw [← hle.M]; exact this
     · intro row hr; obtain ⟨z, _, rfl⟩ := List.mem_map.1 hr; rfl
     · intro row hr p hp; obtain ⟨z, _, rfl⟩ := List.mem_map.1 hr; simp at hp; subst hp; exact .sc _
     · intro row hr p hp; obtain ⟨z, _, rfl⟩ := List.mem_map.1 hr; simp at hp; subst hp; rfl
     · rw [List.getElem?_map, Option.map_eq_some_iff] at h1;obtain ⟨z, hz, rfl⟩ := h1
       match j with
       | 0 =>
         cases h2;have h3 := hr i 0 [.int z] (.int z) (hsub i _ (by rw [List.getElem?_map, hz]; rfl)) rfl;rw [h3.sc_inv]; exact .sc rfl
       | j + 1 => cases h2
   | refE hkn hloc =>
     have hx : xs = [] := List.length_eq_zero_iff.1 hn;subst hx; exact .litE
end Go.Pv
