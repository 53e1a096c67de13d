import Derived.Test.YtmlhhdiomijpfaaGreatDoorNumA
import Derived.Test.YtmlhhdiomijpfaaGreatDoorParA
set_option linter.unusedSimpArgs false
set_option linter.unusedVariables false
set_option maxRecDepth 100000
namespace Go.Proofs.YtmlhhdiomijpfaaGreatDoor
open Go Go.Pv Go.Tx
theorem endCT {P : Program} {R : PV → Heap → (Nat → Nat) → Prop} {r : Nat → PV} {h : Heap} {cnt : Nat → Nat} {a b : Nat} {t : TypeId} {k : Key} {n : Nat} {cs : List PV} {v : PV} (hx : r a = .ptr k n 0 0) (hk : h k = some (.rows n [cs])) (hg : tyAgg P t = true) (hs : tySize P t = n) (ht : tyOk P t = true) (hl : cs.length = n) (hb : r b = v) (hR : R (.tup [.agg cs, v]) h cnt) : endQ P [.cell a t, .tmp b] R .ret ⟨r, h, cnt⟩ := by
 have h1 : aggAt [cs] 0 0 n = cs := by subst hl; simp [aggAt]
 have h2 : loadEff P h t (r a) = ⟨True, .agg cs, [], [k], false⟩ := by
   rw [hx]; simp only [loadEff, hk, hg, hs, ht, h1]; simp
 have e1 : resOf P ⟨r, h, cnt⟩ (.cell a t) = ((loadEff P h t (r a)).ob, (loadEff P h t (r a)).v) := rfl;have e2 : resOf P ⟨r, h, cnt⟩ (.tmp b) = (True, r b) := rfl;refine ⟨fun x hx => ?_, ?_⟩
 · simp only [List.mem_cons, List.not_mem_nil, or_false] at hx;rcases hx with rfl | rfl
   · rw [e1, h2]; trivial
   · trivial
 · show R (.tup [(resOf P ⟨r, h, cnt⟩ (.cell a t)).2, (resOf P ⟨r, h, cnt⟩ (.tmp b)).2]) h cnt;rw [e1, e2, h2, hb]; exact hR
def rowN (a b : ByteArray) (vs : List Int) (w : PV) : List PV := [.str a, .str b, .int (vs.getD 0 (-1)), .int (vs.getD 1 0), .int (vs.getD 2 0), w]
def zC : List PV := [.str ⟨#[]⟩, .str ⟨#[]⟩, .int 0, .int 0, .int 0, .nil]
def Task.encF (x : Task) : List PV := [.str x.name, .str x.trade, .int x.member, .int x.place, .int x.minutes, .lit false 1 (x.needs.map ci)]
theorem Task.cleanF (x : Task) : ∀ p ∈ x.encF, Go.Pv.Clean p ∧ p.cell = true := fun p hp => by
 simp only [Task.encF, List.mem_cons, List.not_mem_nil, or_false] at hp;rcases hp with rfl | rfl | rfl | rfl | rfl | rfl
 · exact ⟨.sc _, rfl⟩
 · exact ⟨.sc _, rfl⟩
 · exact ⟨.sc _, rfl⟩
 · exact ⟨.sc _, rfl⟩
 · exact ⟨.sc _, rfl⟩
 · refine ⟨.lit _ _ fun row hr p hp => ?_, rfl⟩;obtain ⟨z, _, rfl⟩ := List.mem_map.1 hr;simp [ci] at hp; subst hp; exact .sc _
theorem Task.pureF (x : Task) : ∀ p ∈ x.encF, Pure p := fun p hp => (x.cleanF p hp).1.pure
theorem e_sldrop {P : Program} {ρ : Operand → PV} {h : Heap} {key : Key} {x y : Operand} {t : TypeId} {α : Type} {l : List α} {f : α → List PV} {tt : Bool} {sz n : Nat} {a : Int} (hx : ρ x = .lit tt sz (l.map f)) (hy : ρ y = .int a) (ha : a = (n : Int)) (ht : sliceOk P t = true) (hs : tySize P (elemTy P t) = sz) (hn : n ≤ l.length) :
   eff P ρ h key (.slice t x (some y) none none) = ⟨True, .lit tt sz ((l.drop n).map f), [], [], false⟩ := by
 subst ha;simp only [eff, hx, hy, sliceEff, bound, Option.map, ht, hs, Int.toNat_natCast]
 have e : sliceRows (l.map f) n (l.map f).length = (l.drop n).map f := by
   unfold sliceRows;rw [List.take_of_length_le (by simp), List.map_drop]
 rw [e];simp [Eff.val, hn]
theorem e_index3 {P : Program} {ρ : Operand → PV} {h : Heap} {key : Key} {x y : Operand} {t e : TypeId} {k : Key} {a : Int} {i : Nat} (hx : ρ x = .agg [.ptr k 6 0 2, .ptr k 6 0 3, .ptr k 6 0 4]) (hy : ρ y = .int a) (ha : a = (i : Int)) (hi : i < 3) (ht : arrOk P t = some (3, e)) (hs : tySize P e = 1) (hg : tyAgg P e = false) :
   eff P ρ h key (.index t x y) = ⟨True, .ptr k 6 0 (i + 2), [], [], false⟩ := by
 subst ha;have : i = 0 ∨ i = 1 ∨ i = 2 := by omega
 rcases this with rfl | rfl | rfl <;> simp [eff, hx, hy, indexEff, ht, hs, hg, Eff.val, partOf, cellAt]
theorem rowN_set {a b : ByteArray} {vs : List Int} {w : PV} {i : Nat} {v : Int} (hl : vs.length = i) (hi : i < 3) : (rowN a b vs w).set (i + 2) (.int v) = rowN a b (vs ++ [v]) w := by
 subst hl
 match vs, hi with
 | [], _ => rfl
 | [p], _ => rfl
 | [p, q], _ => rfl
theorem rowN_app {a b : ByteArray} {vs : List Int} {w w2 : PV} {v : Int} (hi : 3 ≤ vs.length) : (rowN a b vs w).set 5 w2 = rowN a b (vs ++ [v]) w2 := by
 match vs, hi with
 | p :: q :: r :: vs, _ => rfl
theorem drop_lt {vs : List Int} {v : Int} (h : vs.length < 3) : (vs ++ [v]).drop 3 = vs.drop 3 := by
 rw [List.drop_eq_nil_of_le (by simp; omega), List.drop_eq_nil_of_le (by omega)]
theorem drop_ge {vs : List Int} {v : Int} (h : 3 ≤ vs.length) : (vs ++ [v]).drop 3 = vs.drop 3 ++ [v] := by
 rw [List.drop_append_of_le_length h]
theorem rowN_one {a b : ByteArray} {vs : List Int} {w : PV} (h : vs.length = 0) : rowN a b vs w = rowN a b (vs ++ [-1]) w := by
 rw [List.eq_nil_of_length_eq_zero h]; rfl
theorem sl_cell {h : Heap} {d sz : Nat} {w : PV} {rows : Pv.Rows} (hs : SliceAt h d w sz rows) : w.cell = true := by
 rcases hs with ⟨_, rfl⟩ | ⟨g, rfl, _⟩ <;> rfl
theorem val7_yes {f : Bool} {w : ByteArray} (h : numB7 (ls w) = true) : val7 f (ls w) = some (numN (ls w)) := by unfold val7; rw [if_pos h]
theorem val7_one {w : ByteArray} (h : numB7 (ls w) = false) (hw : w = ⟨#[45, 49]⟩) : val7 true (ls w) = some (-1) := by
 unfold val7; rw [if_neg (by rw [h]; decide), if_pos ⟨rfl, by rw [hw]; rfl⟩]
theorem val7_no {w : ByteArray} {i : Nat} (h : numB7 (ls w) = false) (hw : 0 < i ∨ ¬ w = ⟨#[45, 49]⟩) : val7 (decide (i = 0)) (ls w) = none := by
 unfold val7; rw [if_neg (by rw [h]; decide), if_neg]
 rintro ⟨h1, h2⟩
 simp only [decide_eq_true_eq] at h1;rcases hw with hw | hw
 · omega
 · exact hw (by rw [← bs_ls w, h2]; rfl)
theorem out_task {h : Heap} {a b : ByteArray} {vs : List Int} {w : PV} (hs : SliceAt h 51 w 1 ((vs.drop 3).map ci)) : Out h (.agg (rowN a b vs w)) (.agg (mkT a b vs).encF) := by
 refine .agg rfl fun i p q h1 h2 => ?_
 match i with
 | 0 => cases h1; cases h2; exact out_s rfl
 | 1 => cases h1; cases h2; exact out_s rfl
 | 2 => cases h1; cases h2; exact out_i rfl
 | 3 => cases h1; cases h2; exact out_i rfl
 | 4 => cases h1; cases h2; exact out_i rfl
 | 5 => cases h1; cases h2; exact out_slice hs rfl (fun _ => rfl) (fun a p hp => by simp [ci] at hp; subst hp; exact ⟨.sc _, rfl⟩)
 | i + 6 => cases h1
theorem out_zT {h : Heap} : Out h (.agg zC) (.agg zT.encF) := by
 refine .agg rfl fun i p q h1 h2 => ?_
 match i with
 | 0 => cases h1; cases h2; exact out_s rfl
 | 1 => cases h1; cases h2; exact out_s rfl
 | 2 => cases h1; cases h2; exact out_i rfl
 | 3 => cases h1; cases h2; exact out_i rfl
 | 4 => cases h1; cases h2; exact out_i rfl
 | 5 => cases h1; cases h2; exact .nil 1
 | i + 6 => cases h1
theorem tsk_on {h : Heap} {x : ByteArray} (ht : taskP x = none) : Out h (.tup [.agg zC, .bool false]) (.tup [.agg (tskR x).1.encF, .bool (tskR x).2]) := by
 rw [tsk_no ht]; exact out_2 out_zT (out_b rfl)
theorem tsk_oy {h : Heap} {x a b : ByteArray} {vs : List Int} {w : PV} (ht : taskP x = some (mkT a b vs)) (hs : SliceAt h 51 w 1 ((vs.drop 3).map ci)) : Out h (.tup [.agg (rowN a b vs w), .bool true]) (.tup [.agg (tskR x).1.encF, .bool (tskR x).2]) := by
 rw [tsk_yes ht]; exact out_2 (out_task hs) (out_b rfl)
theorem tsk_pure (x : ByteArray) : Pure (.tup [.agg (tskR x).1.encF, .bool (tskR x).2]) := pure_2 (.agg _ fun p hp => (tskR x).1.pureF p hp) (.sc _)
theorem wd_get {x : ByteArray} {i : Nat} (h : i < (cutB 32 x).length) : ∃ a, (cutB 32 x)[i]? = some a ∧ (cutB 32 x).getD i default = a := by
 refine ⟨(cutB 32 x)[i], List.getElem?_eq_getElem h, ?_⟩;rw [List.getD_eq_getElem?_getD, List.getElem?_eq_getElem h]; rfl
theorem fr45 : (inFrame Tryz.f45.ntmps (Tryz.f45.body.getD .skip) && Tryz.f45.results.toList.all (resScope Tryz.f45.ntmps)) = true := by kernel_rfl
theorem taskC (x : ByteArray) (hs : x.size ≤ 1000000) : PCalls Tryz.prog 45 [.str x] (.tup [.agg (tskR x).1.encF, .bool (tskR x).2]) := by
 refine PCalls.of_code Tryz.func45 rfl rfl (by kernel_rfl) mixed fr45 (by show _ ≤ 69; simp) (tsk_pure x) (pwp_seq_plain rfl fun K1 hK1 => p_new rfl (e_alloc (cs := [.str ByteArray.empty, .str ByteArray.empty, .int 0, .int 0, .int 0, .nil]) (n := 6) (by kernel_rfl) rfl (by decide)) (ob_alloc (by decide)) (p_aS rfl (p_end (hK1 _ ?_)))); clear hK1 K1;refine pwp_seq_plain rfl fun K2 hK2 => p_mS rfl (p_call rfl (.cons inn_sc (.cons inn_sc .nil)) (splitC x (by omega)) (p_e rfl (e_assign (v := .lit _ _ _) rfl) (p_end (hK2 _ ?_)))); clear hK2 K2;refine pwp_seq_seq (pwp_seq_plain rfl fun K3 hK3 => p_e rfl (e_move (v := .lit _ _ _) rfl) (p_e rfl (e_len rfl (by kernel_rfl)) (p_e rfl (e_lt rfl rfl) (p_end (hK3 _ ?_))))); clear hK3 K3;refine pwp_seq_cond rfl fun K4 hK4 => ⟨fun hb5 => ?_, fun hb5 => ?_⟩
 ·have hb5R := hb5; try simp only [zz] at hb5
  refine pwp_seq_plain rfl fun K6 hK6 => p_e rfl (e_build (zs := [.str ByteArray.empty, .str ByteArray.empty, .int 0, .int 0, .int 0, .nil]) (pl := [(0, 1, false), (1, 1, false), (2, 1, false), (3, 1, false), (4, 1, false), (5, 1, false)]) (by kernel_rfl) (by kernel_rfl) (by kernel_rfl) rfl rfl (by exact trivial) rfl) (p_store rfl (e_storeA rfl (hset_self _ _ _) rfl rfl rfl (by kernel_rfl) (by first | rfl | (show (w.cell && true) = true; rw [sl_cell hsl]; rfl)) (by kernel_rfl)) trivial (p_aS rfl (p_end (hK6 _ ?_)))); clear hK6 K6;refine pwp_ret (ret_seq (endCT rfl (hset_self _ _ _) (by kernel_rfl) (by kernel_rfl) (by kernel_rfl) rfl rfl ?_))
  first
    | exact tsk_on (tsk_few (by first | omega | (simp only [lM] at *; omega)))
    | exact tsk_on (ValTo.bad hq2 (val7_no (by first | assumption | simp_all) (by first | (left; omega) | (right; assumption))))
    | exact tsk_oy ((hvt.done (by first | omega | (simp only [lM] at *; omega)) hie).trans (by rw [hae, hbe])) hsl
 ·have hb5R := hb5; try simp only [zz] at hb5
  refine pwp_skip (seq_norm (hK4 _ ?_)); clear hK4 K4;obtain ⟨a, ha, hae⟩ := wd_get (x := x) (i := 0) (by first | omega | (simp only [lM] at *; omega));obtain ⟨b, hb, hbe⟩ := wd_get (x := x) (i := 1) (by first | omega | (simp only [lM] at *; omega));refine pwp_seq_gops rfl fun K7 hK7 => s_begin (s_e rfl (e_move (v := .lit _ _ _) rfl) (s_e rfl (e_ixL rfl rfl) (s_e rfl (e_lL (v := .sc _) rfl ((cell_map ha _).trans rfl)) (s_e rfl (e_move (v := .lit _ _ _) rfl) (s_e rfl (e_ixL rfl rfl) (s_e rfl (e_lL (v := .sc _) rfl ((cell_map hb _).trans rfl)) ?_))))));refine s_e rfl (e_build (zs := [.str ByteArray.empty, .str ByteArray.empty, .int 0, .int 0, .int 0, .nil]) (pl := [(0, 1, false), (1, 1, false), (2, 1, false), (3, 1, false), (4, 1, false), (5, 1, false)]) (by kernel_rfl) (by kernel_rfl) (by kernel_rfl) rfl rfl (by exact ⟨by decide, rfl, Nat.le_of_ble_eq_true rfl, rfl, ⟨by decide, rfl, Nat.le_of_ble_eq_true rfl, rfl, ⟨by decide, rfl, Nat.le_of_ble_eq_true rfl, rfl, trivial⟩⟩⟩) rfl) (s_new [] (by simp) rfl rfl rfl rfl (e_alloc (cs := [.str ByteArray.empty, .str ByteArray.empty, .int 0, .int 0, .int 0, .nil]) (n := 6) (by kernel_rfl) rfl (by decide)) (ob_alloc (by decide)) (s_store [5] (by simp) rfl rfl (e_storeA rfl (hset_self _ _ _) rfl rfl rfl (by kernel_rfl) rfl (by kernel_rfl)) trivial (s_end (ds := []) (by kernel_rfl) (by kernel_rfl) (hK7 _ ?_)))); clear hK7 K7;refine pwp_seq_seq (pwp_seq_plain rfl fun K8 hK8 => p_e rfl (e_move (v := .lit _ _ _) rfl) (p_e rfl (e_sldrop (n := 2) rfl rfl rfl (by kernel_rfl) (by kernel_rfl) (by first | omega | (simp only [lM] at *; omega))) (p_e rfl (e_len rfl (by kernel_rfl)) (p_mS rfl (p_end (hK8 _ ?_)))))); clear hK8 K8;refine pwp_seq_block fun K9 hK9 => pwp_loopR (α := Nat × (List Int) × PV) [2, 5, 24, 25] (fun (a10 : Nat × (List Int) × PV) => [(26, .int (a10.1))]) (fun (a10 : Nat × (List Int) × PV) (h : Heap) (_ : Nat → Nat) => ((a10.1) ≤ ((cutB 32 x).drop 2).length) ∧ (ValTo x (a10.1) (a10.2.1)) ∧ (SliceAt h 51 (a10.2.2) 1 (((a10.2.1).drop 3).map ci)) ∧ (h (2, 0) = some (.rows 6 [zC])) ∧ (h (5, 0) = some (.rows 6 [rowN a b (a10.2.1) (a10.2.2)]))) (fun (a10 : Nat × (List Int) × PV) => ((cutB 32 x).drop 2).length - (a10.1)) (0, [], .nil) (by exact ⟨rfl, trivial⟩) (by exact ⟨by exact Nat.zero_le _, by exact ValTo.start, by exact .nil, (hzM rfl (hzM rfl (hset_self _ _ _))), (hset_self _ _ _)⟩) fun a10 r11 h12 c13 hj14 => ?_;obtain ⟨i, vs, w⟩ := a10;obtain ⟨hi, hvt, hsl, hihj14_0, hihj14_1⟩ := hj14;try dsimp only at hi
  try dsimp only at hvt
  try dsimp only at hsl
  try dsimp only at hihj14_0
  try dsimp only at hihj14_1
  show pwp _ _ (loopQ _ _ _) ⟨sets (mix _ _ _) [(26, .int i)], _, _⟩;refine pwp_seq_plain rfl fun K15 hK15 => p_e rfl (e_lt rfl rfl) (p_end (hK15 _ ?_)); clear hK15 K15;refine pwp_seq_cond rfl fun K16 hK16 => ⟨fun hb17 => ?_, fun hb17 => ?_⟩
  ·have hb17R := hb17; try simp only [zz] at hb17
   have hcl := cutB_len 32 x;have hdl : ((cutB 32 x).drop 2).length = (cutB 32 x).length - 2 := List.length_drop;obtain ⟨q, hq⟩ : ∃ q, ((cutB 32 x).drop 2)[i]? = some q := ⟨_, List.getElem?_eq_getElem (by first | omega | (simp only [lM] at *; omega))⟩
   have hq2 : (cutB 32 x)[i + 2]? = some q := by rw [List.getElem?_drop, Nat.add_comm] at hq; exact hq
   have hqs := cutB_le hq2;have hvl := hvt.2;refine pwp_skip (seq_norm (hK16 _ ?_)); clear hK16 K16;refine pwp_seq_block fun K18 hK18 => pwp_seq_plain rfl fun K19 hK19 => p_mS rfl (p_e rfl (e_ixL rfl rfl) (p_e rfl (e_lL (v := .sc _) rfl ((cell_map hq _).trans rfl)) (p_aS rfl (p_aS rfl (p_end (hK19 _ ?_)))))); clear hK19 K19;refine pwp_seq_plain rfl fun K20 hK20 => p_mS rfl (p_call rfl (.cons inn_sc .nil) (number7C _ (by omega)) (p_e rfl (e_move (v := .tup _) rfl) (p_e rfl (e_ext (v := .sc _) rfl (by simp) rfl) (p_e rfl (e_ext (v := .sc _) rfl (by simp) rfl) (p_aS rfl (p_aS rfl ?_))))));refine p_end (hK20 _ ?_); clear hK20 K20;refine pwp_seq_seq (pwp_seq_gops rfl fun K21 hK21 => g_begin (g_mS rfl rfl (g_e rfl (e_not rfl) (g_mS rfl rfl ?_))));refine g_cases (fun hb22 => ?_) (fun hb22 => ?_)
   ·have hb22R := hb22; try simp only [zz] at hb22
    refine g_mS rfl rfl (g_e rfl (e_gt rfl rfl) (g_mS rfl rfl ?_));refine g_cases (fun hb23 => ?_) (fun hb23 => ?_)
    ·have hb23R := hb23; try simp only [zz] at hb23
     iterate 2 refine g_skip rfl rfl rfl ?_
     refine g_pT rfl rfl rfl (g_pT rfl rfl rfl (g_end (ds := [39, 40, 41, 42, 43, 44]) rfl rfl (hK21 _ ?_))); clear hK21 K21;refine pwp_seq_cond (t := true) rfl fun K24 hK24 => ⟨fun _ => ?_, nofun⟩
     refine pwp_seq_plain rfl fun K25 hK25 => p_e rfl (e_build (zs := [.str ByteArray.empty, .str ByteArray.empty, .int 0, .int 0, .int 0, .nil]) (pl := [(0, 1, false), (1, 1, false), (2, 1, false), (3, 1, false), (4, 1, false), (5, 1, false)]) (by kernel_rfl) (by kernel_rfl) (by kernel_rfl) rfl rfl (by exact trivial) rfl) (p_store rfl (e_storeA rfl hihj14_0 rfl rfl rfl (by kernel_rfl) (by first | rfl | (show (w.cell && true) = true; rw [sl_cell hsl]; rfl)) (by kernel_rfl)) trivial (p_aS rfl (p_end (hK25 _ ?_)))); clear hK25 K25;refine pwp_ret (ret_seq (ret_block (ret_seq (ret_loop (ret_block (ret_seq (endCT rfl (hset_self _ _ _) (by kernel_rfl) (by kernel_rfl) (by kernel_rfl) rfl rfl ?_)))))))
     first
       | exact tsk_on (tsk_few (by first | omega | (simp only [lM] at *; omega)))
       | exact tsk_on (ValTo.bad hq2 (val7_no (by first | assumption | simp_all) (by first | (left; omega) | (right; assumption))))
       | exact tsk_oy ((hvt.done (by first | omega | (simp only [lM] at *; omega)) hie).trans (by rw [hae, hbe])) hsl
    ·have hb23R := hb23; try simp only [zz] at hb23
     refine g_mS rfl rfl (g_e rfl (e_sne rfl rfl) (g_pF rfl rfl rfl (g_pT rfl rfl rfl (g_end (ds := [39, 40, 41, 42, 43, 44]) rfl rfl (hK21 _ ?_))))); clear hK21 K21;refine pwp_seq_cond rfl fun K26 hK26 => ⟨fun hb27 => ?_, fun hb27 => ?_⟩
     ·have hb27R := hb27; try simp only [zz] at hb27
      refine pwp_seq_plain rfl fun K28 hK28 => p_e rfl (e_build (zs := [.str ByteArray.empty, .str ByteArray.empty, .int 0, .int 0, .int 0, .nil]) (pl := [(0, 1, false), (1, 1, false), (2, 1, false), (3, 1, false), (4, 1, false), (5, 1, false)]) (by kernel_rfl) (by kernel_rfl) (by kernel_rfl) rfl rfl (by exact trivial) rfl) (p_store rfl (e_storeA rfl hihj14_0 rfl rfl rfl (by kernel_rfl) (by first | rfl | (show (w.cell && true) = true; rw [sl_cell hsl]; rfl)) (by kernel_rfl)) trivial (p_aS rfl (p_end (hK28 _ ?_)))); clear hK28 K28;refine pwp_ret (ret_seq (ret_block (ret_seq (ret_loop (ret_block (ret_seq (endCT rfl (hset_self _ _ _) (by kernel_rfl) (by kernel_rfl) (by kernel_rfl) rfl rfl ?_)))))))
      first
        | exact tsk_on (tsk_few (by first | omega | (simp only [lM] at *; omega)))
        | exact tsk_on (ValTo.bad hq2 (val7_no (by first | assumption | simp_all) (by first | (left; omega) | (right; assumption))))
        | exact tsk_oy ((hvt.done (by first | omega | (simp only [lM] at *; omega)) hie).trans (by rw [hae, hbe])) hsl
     ·have hb27R := hb27; try simp only [zz] at hb27
      refine pwp_skip (seq_norm (hK26 _ ?_)); clear hK26 K26;refine pwp_block (pwp_seq_plain rfl fun K29 hK29 => p_mS rfl (p_e rfl (e_not rfl) (p_aS rfl (p_end (hK29 _ ?_))))); clear hK29 K29;refine pwp_cond rfl (fun hb30 => ?_) (fun hb30 => ?_)
      ·have hb30R := hb30; try simp only [zz] at hb30
       refine pwp_skip (block_norm (block_norm (seq_norm (hK18 _ ?_)))); clear hK18 K18;refine pwp_plain rfl fun K31 hK31 => p_e rfl (e_adL rfl rfl) (p_mS rfl (p_end (hK31 _ ?_))); clear hK31 K31;exact loop_again ((i + 1, vs ++ [-1], w)) (by show _ < _; simp only; omega) ⟨rfl, rfl, rfl, rfl, trivial⟩ ⟨rfl, trivial⟩ (by exact ⟨by show _ + 1 ≤ _; first | omega | (simp only [lM] at *; omega), by first | exact hvt.next hq2 (val7_yes (by first | assumption | simp_all)) | (have e0 : i = 0 := by omega); subst e0; exact hvt.next hq2 (val7_one (by first | assumption | simp_all) (by first | assumption | simp_all)) | (exfalso; simp_all; done), by first | (show SliceAt _ 51 w 1 (((vs ++ [_]).drop 3).map ci); rw [drop_lt (by omega)]; first | exact hsl | exact hsl.keep fun g => hset_ne (key_ne rfl)) | (show SliceAt _ 51 _ 1 (((vs ++ [_]).drop 3).map ci); rw [drop_ge (by omega), List.map_append]; exact .inr ⟨_, congrArg (PV.ref _ 1 0) (by simp only [List.length_append, lM, List.length_cons, List.length_nil]), hzM rfl hr1⟩) | (exfalso; simp_all; done), hihj14_0, (hihj14_1.trans (by (first | (rw [rowN_set hvt.2 (by omega)]) | exact congrArg (fun z => some (PObj.rows 6 [z])) (rowN_app (vs := vs) (v := numN (ls q)) (by omega)) | (rw [← rowN_one (vs := vs) (by omega)]) | (exfalso; simp_all; done))))⟩)
      ·have hb30R := hb30; try simp only [zz] at hb30
       refine pwp_seq_plain rfl fun K32 hK32 => p_mS rfl (p_e rfl (e_lt rfl rfl) (p_aS rfl (p_end (hK32 _ ?_)))); clear hK32 K32;refine pwp_cond rfl (fun hb33 => ?_) (fun hb33 => ?_)
       ·have hb33R := hb33; try simp only [zz] at hb33
        refine pwp_plain rfl fun K34 hK34 => p_e rfl (e_faQ pl6 rfl) (p_e rfl (e_faQ pl6 rfl) (p_e rfl (e_faQ pl6 rfl) (p_e rfl (e_buildA (zs := [.sc (.pointer none), .sc (.pointer none), .sc (.pointer none)]) (pl := [(0, 1, false), (1, 1, false), (2, 1, false)]) (cs := [.ptr (5, _) 6 0 2, .ptr (5, _) 6 0 3, .ptr (5, _) 6 0 4]) (by kernel_rfl) (by kernel_rfl) (by kernel_rfl) rfl rfl (by exact ⟨by decide, rfl, by show 1 ≤ 3; decide, rfl, by decide, rfl, by show 2 ≤ 3; decide, rfl, by decide, rfl, by show 3 ≤ 3; decide, rfl, trivial⟩) rfl) (p_mS rfl (p_e rfl (e_index3 (e := 148) rfl rfl rfl (by omega) (by kernel_rfl) (by kernel_rfl) (by kernel_rfl)) (p_mS rfl ?_))))));refine p_step rfl rfl trivial (p_store rfl (e_storeC (v := .int (numN (ls q))) rfl hihj14_1 rfl rfl rfl (by omega) (by kernel_rfl) rfl (by kernel_rfl)) trivial (p_end (hK34 _ ?_))); clear hK34 K34;refine block_norm (block_norm (seq_norm (hK18 _ ?_))); clear hK18 K18;refine pwp_plain rfl fun K35 hK35 => p_e rfl (e_adL rfl rfl) (p_mS rfl (p_end (hK35 _ ?_))); clear hK35 K35;exact loop_again ((i + 1, vs ++ [numN (ls q)], w)) (by show _ < _; simp only; omega) ⟨rfl, rfl, rfl, rfl, trivial⟩ ⟨rfl, trivial⟩ (by exact ⟨by show _ + 1 ≤ _; first | omega | (simp only [lM] at *; omega), by first | exact hvt.next hq2 (val7_yes (by first | assumption | simp_all)) | (have e0 : i = 0 := by omega); subst e0; exact hvt.next hq2 (val7_one (by first | assumption | simp_all) (by first | assumption | simp_all)) | (exfalso; simp_all; done), by first | (show SliceAt _ 51 w 1 (((vs ++ [_]).drop 3).map ci); rw [drop_lt (by omega)]; first | exact hsl | exact hsl.keep fun g => hset_ne (key_ne rfl)) | (show SliceAt _ 51 _ 1 (((vs ++ [_]).drop 3).map ci); rw [drop_ge (by omega), List.map_append]; exact .inr ⟨_, congrArg (PV.ref _ 1 0) (by simp only [List.length_append, lM, List.length_cons, List.length_nil]), hzM rfl hr1⟩) | (exfalso; simp_all; done), (hzM rfl hihj14_0), ((hset_self _ _ _).trans (by (first | (rw [rowN_set hvt.2 (by omega)]) | exact congrArg (fun z => some (PObj.rows 6 [z])) (rowN_app (vs := vs) (v := numN (ls q)) (by omega)) | (rw [← rowN_one (vs := vs) (by omega)]) | (exfalso; simp_all; done))))⟩)
       ·have hb33R := hb33; try simp only [zz] at hb33
        refine pwp_plain rfl fun K36 hK36 => p_e rfl (e_faQ pl6 rfl) (p_e rfl (e_loadH (v := w) rfl hihj14_1 (by kernel_rfl) (by kernel_rfl) (by kernel_rfl) (by exact Nat.zero_lt_one) (by decide) rfl) (p_mS rfl (p_new rfl (e_bslice (rows := [ci (numN (ls q))]) (zs := [.int 0]) (sz := 1) (by kernel_rfl) (by kernel_rfl) rfl (by kernel_rfl) (by decide) rfl rfl (by exact ⟨by decide, rfl, rfl, trivial⟩) rfl) trivial (p_appK (u := w) (sz := 1) (d1 := 51) (rows := (vs.drop 3).map ci) (rows2 := [ci (numN (ls q))]) rfl rfl rfl (hsl.keep fun g => hset_ne (key_ne rfl)) (src_ref (hset_self _ _ _) rfl) (by kernel_rfl) (by simp only [lM, List.length_drop, List.length_cons, List.length_nil]; omega) (by simp) fun h1 hr1 hf1 => ?_))));have ho1 := (hf1 (5, _) (key_ne rfl) (fun _ _ => key_ne rfl)).trans (hzM rfl hihj14_1);have ho2 := (hf1 (2, _) (key_ne rfl) (fun _ _ => key_ne rfl)).trans (hzM rfl hihj14_0);refine p_e rfl (e_faQ pl6 rfl) (p_store rfl (e_store1 (v := .ref (51, _) 1 0 (((vs.drop 3).map ci).length + [ci (numN (ls q))].length)) rfl ho1 rfl rfl rfl (by decide) (by kernel_rfl) rfl (by kernel_rfl)) trivial (p_end (hK36 _ ?_))); clear hK36 K36;refine block_norm (block_norm (seq_norm (hK18 _ ?_))); clear hK18 K18;refine pwp_plain rfl fun K37 hK37 => p_e rfl (e_adL rfl rfl) (p_mS rfl (p_end (hK37 _ ?_))); clear hK37 K37;exact loop_again ((i + 1, vs ++ [numN (ls q)], .ref (51, _) 1 0 (((vs.drop 3).map ci).length + [ci (numN (ls q))].length))) (by show _ < _; simp only; omega) ⟨rfl, rfl, rfl, rfl, trivial⟩ ⟨rfl, trivial⟩ (by exact ⟨by show _ + 1 ≤ _; first | omega | (simp only [lM] at *; omega), by first | exact hvt.next hq2 (val7_yes (by first | assumption | simp_all)) | (have e0 : i = 0 := by omega); subst e0; exact hvt.next hq2 (val7_one (by first | assumption | simp_all) (by first | assumption | simp_all)) | (exfalso; simp_all; done), by first | (show SliceAt _ 51 w 1 (((vs ++ [_]).drop 3).map ci); rw [drop_lt (by omega)]; first | exact hsl | exact hsl.keep fun g => hset_ne (key_ne rfl)) | (show SliceAt _ 51 _ 1 (((vs ++ [_]).drop 3).map ci); rw [drop_ge (by omega), List.map_append]; exact .inr ⟨_, congrArg (PV.ref _ 1 0) (by simp only [List.length_append, lM, List.length_cons, List.length_nil]), hzM rfl hr1⟩) | (exfalso; simp_all; done), (hzM rfl ho2), ((hset_self _ _ _).trans (by (first | (rw [rowN_set hvt.2 (by omega)]) | exact congrArg (fun z => some (PObj.rows 6 [z])) (rowN_app (vs := vs) (v := numN (ls q)) (by omega)) | (rw [← rowN_one (vs := vs) (by omega)]) | (exfalso; simp_all; done))))⟩)
   ·have hb22R := hb22; try simp only [zz] at hb22
    iterate 6 refine g_skip rfl rfl rfl ?_
    refine g_pF rfl rfl rfl (g_end (ds := [39, 40, 41, 42, 43, 44]) rfl rfl (hK21 _ ?_)); clear hK21 K21;refine pwp_seq_cond (t := false) rfl fun K38 hK38 => ⟨nofun, fun _ => ?_⟩
    refine pwp_skip (seq_norm (hK38 _ ?_)); clear hK38 K38;refine pwp_block (pwp_seq_plain rfl fun K39 hK39 => p_mS rfl (p_e rfl (e_not rfl) (p_aS rfl (p_end (hK39 _ ?_))))); clear hK39 K39;refine pwp_cond rfl (fun hb40 => ?_) (fun hb40 => ?_)
    ·have hb40R := hb40; try simp only [zz] at hb40
     refine pwp_skip (block_norm (block_norm (seq_norm (hK18 _ ?_)))); clear hK18 K18;refine pwp_plain rfl fun K41 hK41 => p_e rfl (e_adL rfl rfl) (p_mS rfl (p_end (hK41 _ ?_))); clear hK41 K41;exact loop_again ((i + 1, vs ++ [-1], w)) (by show _ < _; simp only; omega) ⟨rfl, rfl, rfl, rfl, trivial⟩ ⟨rfl, trivial⟩ (by exact ⟨by show _ + 1 ≤ _; first | omega | (simp only [lM] at *; omega), by first | exact hvt.next hq2 (val7_yes (by first | assumption | simp_all)) | (have e0 : i = 0 := by omega); subst e0; exact hvt.next hq2 (val7_one (by first | assumption | simp_all) (by first | assumption | simp_all)) | (exfalso; simp_all; done), by first | (show SliceAt _ 51 w 1 (((vs ++ [_]).drop 3).map ci); rw [drop_lt (by omega)]; first | exact hsl | exact hsl.keep fun g => hset_ne (key_ne rfl)) | (show SliceAt _ 51 _ 1 (((vs ++ [_]).drop 3).map ci); rw [drop_ge (by omega), List.map_append]; exact .inr ⟨_, congrArg (PV.ref _ 1 0) (by simp only [List.length_append, lM, List.length_cons, List.length_nil]), hzM rfl hr1⟩) | (exfalso; simp_all; done), hihj14_0, (hihj14_1.trans (by (first | (rw [rowN_set hvt.2 (by omega)]) | exact congrArg (fun z => some (PObj.rows 6 [z])) (rowN_app (vs := vs) (v := numN (ls q)) (by omega)) | (rw [← rowN_one (vs := vs) (by omega)]) | (exfalso; simp_all; done))))⟩)
    ·have hb40R := hb40; try simp only [zz] at hb40
     refine pwp_seq_plain rfl fun K42 hK42 => p_mS rfl (p_e rfl (e_lt rfl rfl) (p_aS rfl (p_end (hK42 _ ?_)))); clear hK42 K42;refine pwp_cond rfl (fun hb43 => ?_) (fun hb43 => ?_)
     ·have hb43R := hb43; try simp only [zz] at hb43
      refine pwp_plain rfl fun K44 hK44 => p_e rfl (e_faQ pl6 rfl) (p_e rfl (e_faQ pl6 rfl) (p_e rfl (e_faQ pl6 rfl) (p_e rfl (e_buildA (zs := [.sc (.pointer none), .sc (.pointer none), .sc (.pointer none)]) (pl := [(0, 1, false), (1, 1, false), (2, 1, false)]) (cs := [.ptr (5, _) 6 0 2, .ptr (5, _) 6 0 3, .ptr (5, _) 6 0 4]) (by kernel_rfl) (by kernel_rfl) (by kernel_rfl) rfl rfl (by exact ⟨by decide, rfl, by show 1 ≤ 3; decide, rfl, by decide, rfl, by show 2 ≤ 3; decide, rfl, by decide, rfl, by show 3 ≤ 3; decide, rfl, trivial⟩) rfl) (p_mS rfl (p_e rfl (e_index3 (e := 148) rfl rfl rfl (by omega) (by kernel_rfl) (by kernel_rfl) (by kernel_rfl)) (p_mS rfl ?_))))));refine p_step rfl rfl trivial (p_store rfl (e_storeC (v := .int (numN (ls q))) rfl hihj14_1 rfl rfl rfl (by omega) (by kernel_rfl) rfl (by kernel_rfl)) trivial (p_end (hK44 _ ?_))); clear hK44 K44;refine block_norm (block_norm (seq_norm (hK18 _ ?_))); clear hK18 K18;refine pwp_plain rfl fun K45 hK45 => p_e rfl (e_adL rfl rfl) (p_mS rfl (p_end (hK45 _ ?_))); clear hK45 K45;exact loop_again ((i + 1, vs ++ [numN (ls q)], w)) (by show _ < _; simp only; omega) ⟨rfl, rfl, rfl, rfl, trivial⟩ ⟨rfl, trivial⟩ (by exact ⟨by show _ + 1 ≤ _; first | omega | (simp only [lM] at *; omega), by first | exact hvt.next hq2 (val7_yes (by first | assumption | simp_all)) | (have e0 : i = 0 := by omega); subst e0; exact hvt.next hq2 (val7_one (by first | assumption | simp_all) (by first | assumption | simp_all)) | (exfalso; simp_all; done), by first | (show SliceAt _ 51 w 1 (((vs ++ [_]).drop 3).map ci); rw [drop_lt (by omega)]; first | exact hsl | exact hsl.keep fun g => hset_ne (key_ne rfl)) | (show SliceAt _ 51 _ 1 (((vs ++ [_]).drop 3).map ci); rw [drop_ge (by omega), List.map_append]; exact .inr ⟨_, congrArg (PV.ref _ 1 0) (by simp only [List.length_append, lM, List.length_cons, List.length_nil]), hzM rfl hr1⟩) | (exfalso; simp_all; done), (hzM rfl hihj14_0), ((hset_self _ _ _).trans (by (first | (rw [rowN_set hvt.2 (by omega)]) | exact congrArg (fun z => some (PObj.rows 6 [z])) (rowN_app (vs := vs) (v := numN (ls q)) (by omega)) | (rw [← rowN_one (vs := vs) (by omega)]) | (exfalso; simp_all; done))))⟩)
     ·have hb43R := hb43; try simp only [zz] at hb43
      refine pwp_plain rfl fun K46 hK46 => p_e rfl (e_faQ pl6 rfl) (p_e rfl (e_loadH (v := w) rfl hihj14_1 (by kernel_rfl) (by kernel_rfl) (by kernel_rfl) (by exact Nat.zero_lt_one) (by decide) rfl) (p_mS rfl (p_new rfl (e_bslice (rows := [ci (numN (ls q))]) (zs := [.int 0]) (sz := 1) (by kernel_rfl) (by kernel_rfl) rfl (by kernel_rfl) (by decide) rfl rfl (by exact ⟨by decide, rfl, rfl, trivial⟩) rfl) trivial (p_appK (u := w) (sz := 1) (d1 := 51) (rows := (vs.drop 3).map ci) (rows2 := [ci (numN (ls q))]) rfl rfl rfl (hsl.keep fun g => hset_ne (key_ne rfl)) (src_ref (hset_self _ _ _) rfl) (by kernel_rfl) (by simp only [lM, List.length_drop, List.length_cons, List.length_nil]; omega) (by simp) fun h1 hr1 hf1 => ?_))));have ho1 := (hf1 (5, _) (key_ne rfl) (fun _ _ => key_ne rfl)).trans (hzM rfl hihj14_1);have ho2 := (hf1 (2, _) (key_ne rfl) (fun _ _ => key_ne rfl)).trans (hzM rfl hihj14_0);refine p_e rfl (e_faQ pl6 rfl) (p_store rfl (e_store1 (v := .ref (51, _) 1 0 (((vs.drop 3).map ci).length + [ci (numN (ls q))].length)) rfl ho1 rfl rfl rfl (by decide) (by kernel_rfl) rfl (by kernel_rfl)) trivial (p_end (hK46 _ ?_))); clear hK46 K46;refine block_norm (block_norm (seq_norm (hK18 _ ?_))); clear hK18 K18;refine pwp_plain rfl fun K47 hK47 => p_e rfl (e_adL rfl rfl) (p_mS rfl (p_end (hK47 _ ?_))); clear hK47 K47;exact loop_again ((i + 1, vs ++ [numN (ls q)], .ref (51, _) 1 0 (((vs.drop 3).map ci).length + [ci (numN (ls q))].length))) (by show _ < _; simp only; omega) ⟨rfl, rfl, rfl, rfl, trivial⟩ ⟨rfl, trivial⟩ (by exact ⟨by show _ + 1 ≤ _; first | omega | (simp only [lM] at *; omega), by first | exact hvt.next hq2 (val7_yes (by first | assumption | simp_all)) | (have e0 : i = 0 := by omega); subst e0; exact hvt.next hq2 (val7_one (by first | assumption | simp_all) (by first | assumption | simp_all)) | (exfalso; simp_all; done), by first | (show SliceAt _ 51 w 1 (((vs ++ [_]).drop 3).map ci); rw [drop_lt (by omega)]; first | exact hsl | exact hsl.keep fun g => hset_ne (key_ne rfl)) | (show SliceAt _ 51 _ 1 (((vs ++ [_]).drop 3).map ci); rw [drop_ge (by omega), List.map_append]; exact .inr ⟨_, congrArg (PV.ref _ 1 0) (by simp only [List.length_append, lM, List.length_cons, List.length_nil]), hzM rfl hr1⟩) | (exfalso; simp_all; done), (hzM rfl ho2), ((hset_self _ _ _).trans (by (first | (rw [rowN_set hvt.2 (by omega)]) | exact congrArg (fun z => some (PObj.rows 6 [z])) (rowN_app (vs := vs) (v := numN (ls q)) (by omega)) | (rw [← rowN_one (vs := vs) (by omega)]) | (exfalso; simp_all; done))))⟩)
  ·have hb17R := hb17; try simp only [zz] at hb17
   have hdl : ((cutB 32 x).drop 2).length = (cutB 32 x).length - 2 := List.length_drop;have hvl := hvt.2;have hie : (cutB 32 x).length ≤ i + 2 := by first | omega | (simp only [lM] at *; omega)
   refine pwp_exit (exit_seq ?_);clear hK16 K16;refine exit_loop (exit_here (seq_norm (hK9 _ ?_))); clear hK9 K9;refine pwp_seq_plain rfl fun K48 hK48 => p_e rfl (e_lA (n := 6) rfl hihj14_1) (p_store rfl (e_storeA rfl hihj14_0 rfl rfl rfl (by kernel_rfl) (by first | rfl | (show (w.cell && true) = true; rw [sl_cell hsl]; rfl)) (by kernel_rfl)) trivial (p_aS rfl (p_end (hK48 _ ?_)))); clear hK48 K48;refine pwp_ret (endCT rfl (hset_self _ _ _) (by kernel_rfl) (by kernel_rfl) (by kernel_rfl) rfl rfl ?_)
   first
     | exact tsk_on (tsk_few (by first | omega | (simp only [lM] at *; omega)))
     | exact tsk_on (ValTo.bad hq2 (val7_no (by first | assumption | simp_all) (by first | (left; omega) | (right; assumption))))
     | exact tsk_oy ((hvt.done (by first | omega | (simp only [lM] at *; omega)) hie).trans (by rw [hae, hbe])) hsl
end Go.Proofs.YtmlhhdiomijpfaaGreatDoor
