import Derived.Test.YtjihcgcbnbaclaaGreatDoorRTerms
import Derived.Test.YtjihcgcbnbaclaaGreatDoorRDatA
import Derived.Test.YtjihcgcbnbaclaaGreatDoorPvGh
set_option linter.unusedSimpArgs false
set_option linter.unusedVariables false
set_option maxRecDepth 100000
namespace Go.Proofs.YtjihcgcbnbaclaaGreatDoor.Y9
open Go Go.Pv Go.Proofs.YtjihcgcbnbaclaaGreatDoor
theorem move_clean (a : Move) (q : PV) (hq : q ∈ a.enc) : Go.Pv.Clean q ∧ q.cell = true := by
 simp only [Move.enc, List.mem_cons, List.not_mem_nil, or_false] at hq;rcases hq with rfl | rfl | rfl | rfl <;> exact ⟨.sc _, rfl⟩
theorem lot_clean (a : Lot) (q : PV) (hq : q ∈ a.enc) : Go.Pv.Clean q ∧ q.cell = true := by
 simp only [Lot.enc, List.mem_cons, List.not_mem_nil, or_false] at hq;rcases hq with rfl | rfl | rfl | rfl | rfl <;> exact ⟨.sc _, rfl⟩
end Go.Proofs.YtjihcgcbnbaclaaGreatDoor.Y9

set_option linter.unusedSimpArgs false
set_option linter.unusedVariables false
set_option maxRecDepth 100000
namespace Go.Proofs.YtjihcgcbnbaclaaGreatDoor.Y9
open Go Go.Pv Go.Proofs.YtjihcgcbnbaclaaGreatDoor
def okM (m : Move) : Prop := (0 ≤ m.kind ∧ m.kind ≤ 2) ∧ 0 ≤ m.count ∧ m.count ≤ 100000
def cntStep (p : ByteArray) (cs : List Int) (m : Move) : List Int := if m.part = p then cs.set m.kind.toNat (cs.getD m.kind.toNat 0 + m.count) else cs
def cntL (p : ByteArray) (ms : List Move) : List Int := ms.foldl (cntStep p) [0, 0, 0]
theorem cntStep_len (p : ByteArray) (cs : List Int) (m : Move) : (cntStep p cs m).length = cs.length := by unfold cntStep; split <;> simp
theorem cntL_len (p : ByteArray) (ms : List Move) : (cntL p ms).length = 3 := by
 have : ∀ (l : List Move) (cs : List Int), (l.foldl (cntStep p) cs).length = cs.length := by
   intro l;induction l with
   | nil => intro cs; rfl
   | cons m l ih => intro cs; rw [List.foldl_cons, ih, cntStep_len]
 exact this ms _
section
variable {p : ByteArray} {cs : List Int} {x : Move} {k : Nat}
theorem cs_get (hc : cs.length = 3) (hx : okM x) : cellAt [cs.map PV.int] 0 (0 + x.kind.toNat) = .int (cs.getD x.kind.toNat 0) := by
 have h := hx.1;have h2 : x.kind.toNat < cs.length := by omega
 simp [cellAt, List.getD_eq_getElem?_getD, List.getElem?_eq_getElem h2]
theorem cs_bnd (hb : ∀ c ∈ cs, 0 ≤ c ∧ c ≤ 100000 * (k : Int)) (hc : cs.length = 3) (hx : okM x) : 0 ≤ cs.getD x.kind.toNat 0 ∧ cs.getD x.kind.toNat 0 ≤ 100000 * (k : Int) := by
 have h := hx.1;have h2 : x.kind.toNat < cs.length := by omega
 rw [List.getD_eq_getElem?_getD, List.getElem?_eq_getElem h2];exact hb _ (List.getElem_mem h2)
theorem cs_next (hb : ∀ c ∈ cs, 0 ≤ c ∧ c ≤ 100000 * (k : Int)) (hc : cs.length = 3) (hx : okM x) : ∀ c ∈ cntStep p cs x, 0 ≤ c ∧ c ≤ 100000 * ((k + 1 : Nat) : Int) := by
 have h0 := cs_bnd hb hc hx;have h1 := hx.2;intro c hcm;unfold cntStep at hcm;split at hcm
 · rcases List.mem_or_eq_of_mem_set hcm with h | h
   · have := hb c h; omega
   · rw [h]; omega
 · have := hb c hcm; omega
theorem agg_whole {zs : List PV} {n : Nat} (h : zs.length = n) : aggAt [zs] 0 0 n = zs := by subst h; simp [aggAt]
theorem all_ints (cs : List Int) : (cs.map PV.int).all PV.cell = true := by rw [List.all_map]; exact List.all_eq_true.2 fun _ _ => rfl
theorem cs_yes (h : x.part = p) : some (PObj.rows 3 [(cs.map PV.int).set (0 + x.kind.toNat) (.int (cs.getD x.kind.toNat 0 + x.count))]) = some (PObj.rows 3 [(cntStep p cs x).map PV.int]) := by
 unfold cntStep; rw [if_pos h, List.map_set, Nat.zero_add]
theorem cs_no (h : ¬ x.part = p) : some (PObj.rows 3 [cs.map PV.int]) = some (PObj.rows 3 [(cntStep p cs x).map PV.int]) := by
 unfold cntStep; rw [if_neg h]
end
theorem fr13 : (inFrame Tryz.f13.ntmps (Tryz.f13.body.getD .skip) && Tryz.f13.results.toList.all (resScope Tryz.f13.ntmps)) = true := by kernel_rfl
theorem Counts (ms : List Move) (p : ByteArray) (hl : ms.length ≤ 305) (hok : ∀ m ∈ ms, okM m) : PCalls Tryz.prog 13 [.lit true 4 (ms.map Move.enc), .str p] (.agg ((cntL p ms).map PV.int)) := by
 refine PCalls.of_code Tryz.func13 rfl rfl (by kernel_rfl) mixed fr13 (by show _ ≤ 40; simp) (.agg _ fun q hq => by obtain ⟨z, _, rfl⟩ := List.mem_map.1 hq; exact .sc _) (pwp_seq_plain rfl fun K1 hK1 => p_new rfl (e_alloc (cs := [.int 0, .int 0, .int 0]) (n := 3) (by kernel_rfl) rfl (by decide)) (ob_alloc (by decide)) (p_end (hK1 _ ?_))); clear hK1 K1;refine pwp_seq_plain rfl fun K2 hK2 => p_new rfl (e_alloc (cs := [.int 0, .int 0, .int 0]) (n := 3) (by kernel_rfl) rfl (by decide)) (ob_alloc (by decide)) (p_end (hK2 _ ?_)); clear hK2 K2;refine pwp_seq_seq (pwp_seq_plain rfl fun K3 hK3 => p_step rfl (e_assign (v := .sc _) rfl) trivial (p_end (hK3 _ ?_))); clear hK3 K3;refine pwp_seq_block fun K4 hK4 => pwp_loopR (α := Nat × (List Int)) [0, 1, 4, 5] (fun (a5 : Nat × (List Int)) => [(6, .int (a5.1))]) (fun (a5 : Nat × (List Int)) (h : Heap) (_ : Nat → Nat) => ((a5.1) ≤ ms.length) ∧ ((a5.2).length = 3) ∧ (cntL p ms = (ms.drop (a5.1)).foldl (cntStep p) (a5.2)) ∧ (∀ c ∈ (a5.2), 0 ≤ c ∧ c ≤ 100000 * ((a5.1) : Int)) ∧ (h (4, 0) = some (.rows 3 [[.int 0, .int 0, .int 0]])) ∧ (h (5, 0) = some (.rows 3 [(a5.2).map PV.int]))) (fun (a5 : Nat × (List Int)) => ms.length - (a5.1)) (0, [0, 0, 0]) (by exact ⟨rfl, trivial⟩) (by exact ⟨by exact Nat.zero_le _, by exact rfl, by exact rfl, by (intro c hc; simp at hc; omega), (hzM rfl (hset_self _ _ _)), (hset_self _ _ _)⟩) fun a5 r6 h7 c8 hj9 => ?_;obtain ⟨k, cs⟩ := a5;obtain ⟨hk, hc, hinv, hb, hihj9_0, hihj9_1⟩ := hj9;try dsimp only at hk
 try dsimp only at hc
 try dsimp only at hinv
 try dsimp only at hb
 try dsimp only at hihj9_0
 try dsimp only at hihj9_1
 show pwp _ _ (loopQ _ _ _) ⟨sets (mix _ _ _) [(6, .int k)], _, _⟩;refine pwp_seq_seq (pwp_seq_plain rfl fun K10 hK10 => p_step rfl (e_move (v := .sc _) rfl) trivial (p_step rfl (e_move (v := .lit _ _ _) rfl) trivial (p_step rfl (e_len rfl (by kernel_rfl)) trivial (p_step rfl (e_lt rfl rfl) trivial (p_end (hK10 _ ?_)))))); clear hK10 K10;refine pwp_seq_cond rfl fun K11 hK11 => ⟨fun hb12 => ?_, fun hb12 => ?_⟩
 ·have hb12R := hb12; try simp only [z1, z2, z3, z4, z5, z6, ne_eq, z7, z8, z9, z10, z11, z12] at hb12
  obtain ⟨x, hx, hd, ht⟩ := get_lt (xs := ms) (i := k) (by omega);rw [hd] at hinv; simp only [List.foldl_cons] at hinv;have hxm := hok x (List.mem_of_getElem? hx);have hbx := cs_bnd hb hc hxm;have hk2 := hxm.1; have hk3 := hxm.2;refine pwp_skip (seq_norm (hK11 _ ?_)); clear hK11 K11;refine pwp_seq_block fun K13 hK13 => pwp_seq_plain rfl fun K14 hK14 => p_step rfl (e_move (v := .lit _ _ _) rfl) trivial (p_step rfl (e_move (v := .sc _) rfl) trivial (p_step rfl (e_ixa rfl rfl (by kernel_rfl) (by kernel_rfl) (by simp only [lM]; omega)) trivial (p_step rfl (e_fa (pl := [(0, 1, false), (1, 1, false), (2, 1, false), (3, 1, false)]) rfl (by kernel_rfl) (by kernel_rfl) (by decide) rfl) trivial (p_step rfl (e_load (v := .sc _) rfl (by kernel_rfl) (by kernel_rfl) (by kernel_rfl) (by simp only [lM]; omega) (by decide) ((cell_map hx _).trans rfl)) trivial (p_step rfl (e_move (v := .sc _) rfl) trivial ?_)))));refine p_step rfl (e_seq rfl rfl) trivial (p_end (hK14 _ ?_)); clear hK14 K14;refine pwp_cond rfl (fun hb15 => ?_) (fun hb15 => ?_)
  ·have hb15R := hb15; try simp only [z1, z2, z3, z4, z5, z6, ne_eq, z7, z8, z9, z10, z11, z12] at hb15
   refine pwp_gops rfl fun K16 hK16 => s_begin (s_step [] (by simp) rfl rfl rfl rfl (e_move (v := .lit _ _ _) rfl) trivial (s_step [] (by simp) rfl rfl rfl rfl (e_move (v := .sc _) rfl) trivial (s_step [] (by simp) rfl rfl rfl rfl (e_ixa rfl rfl (by kernel_rfl) (by kernel_rfl) (by simp only [lM]; omega)) trivial (s_step [] (by simp) rfl rfl rfl rfl (e_fa (pl := [(0, 1, false), (1, 1, false), (2, 1, false), (3, 1, false)]) rfl (by kernel_rfl) (by kernel_rfl) (by decide) rfl) trivial (s_step [] (by simp) rfl rfl rfl rfl (e_load (v := .sc _) rfl (by kernel_rfl) (by kernel_rfl) (by kernel_rfl) (by simp only [lM]; omega) (by decide) ((cell_map hx _).trans rfl)) trivial (s_step [] (by simp) rfl rfl rfl rfl (e_move (v := .lit _ _ _) rfl) trivial ?_))))));refine s_step [] (by simp) rfl rfl rfl rfl (e_move (v := .sc _) rfl) trivial (s_step [] (by simp) rfl rfl rfl rfl (e_ixa rfl rfl (by kernel_rfl) (by kernel_rfl) (by simp only [lM]; omega)) trivial (s_step [] (by simp) rfl rfl rfl rfl (e_fa (pl := [(0, 1, false), (1, 1, false), (2, 1, false), (3, 1, false)]) rfl (by kernel_rfl) (by kernel_rfl) (by decide) rfl) trivial (s_step [] (by simp) rfl rfl rfl rfl (e_load (v := .sc _) rfl (by kernel_rfl) (by kernel_rfl) (by kernel_rfl) (by simp only [lM]; omega) (by decide) ((cell_map hx _).trans rfl)) trivial (s_step [] (by simp) rfl rfl rfl rfl (e_ixaP (n := 3) (e := 3) rfl rfl (by kernel_rfl) (by kernel_rfl) (by omega)) trivial (s_eR [5] rfl (e_loadH (v := .sc _) rfl hihj9_1 (by kernel_rfl) (by kernel_rfl) (by kernel_rfl) (by exact Nat.zero_lt_one) (by omega) (cs_get hc hxm)) (s_step [] (by simp) rfl rfl rfl rfl (e_move (v := .lit _ _ _) rfl) trivial (s_step [] (by simp) rfl rfl rfl rfl (e_move (v := .sc _) rfl) trivial ?_)))))));refine s_step [] (by simp) rfl rfl rfl rfl (e_ixa rfl rfl (by kernel_rfl) (by kernel_rfl) (by simp only [lM]; omega)) trivial (s_step [] (by simp) rfl rfl rfl rfl (e_fa (pl := [(0, 1, false), (1, 1, false), (2, 1, false), (3, 1, false)]) rfl (by kernel_rfl) (by kernel_rfl) (by decide) rfl) trivial (s_step [] (by simp) rfl rfl rfl rfl (e_load (v := .sc _) rfl (by kernel_rfl) (by kernel_rfl) (by kernel_rfl) (by simp only [lM]; omega) (by decide) ((cell_map hx _).trans rfl)) trivial (s_step [] (by simp) rfl rfl rfl rfl (e_add rfl rfl (by omega)) trivial (s_step [] (by simp) rfl rfl rfl rfl (e_ixaP (n := 3) (e := 3) rfl rfl (by kernel_rfl) (by kernel_rfl) (by omega)) trivial (s_store [5] (by simp) rfl rfl (e_storeC rfl hihj9_1 rfl rfl (by simp [hc]) (by omega) (by kernel_rfl) rfl (by kernel_rfl)) trivial (s_end (ds := []) (by kernel_rfl) (by kernel_rfl) (hK16 _ ?_))))))); clear hK16 K16;refine block_norm (seq_norm (hK13 _ ?_)); clear hK13 K13;refine pwp_plain rfl fun K17 hK17 => p_step rfl (e_move (v := .sc _) rfl) trivial (p_step rfl (e_add rfl rfl (by omega)) trivial (p_step rfl (e_assign (v := .sc _) rfl) trivial (p_end (hK17 _ ?_)))); clear hK17 K17;exact loop_again ((k + 1, cntStep p cs x)) (by show _ < _; simp only; omega) ⟨rfl, rfl, rfl, rfl, trivial⟩ ⟨rfl, trivial⟩ (by exact ⟨by show _ + 1 ≤ _; omega, by exact (cntStep_len p cs x).trans hc, by exact hinv, by exact cs_next hb hc hxm, (hzM rfl hihj9_0), ((hset_self _ _ _).trans (by first | exact cs_yes (by assumption) | exact cs_no (by assumption)))⟩)
  have hb15R := hb15; try simp only [z1, z2, z3, z4, z5, z6, ne_eq, z7, z8, z9, z10, z11, z12] at hb15
  refine pwp_skip (block_norm (seq_norm (hK13 _ ?_))); clear hK13 K13;refine pwp_plain rfl fun K18 hK18 => p_step rfl (e_move (v := .sc _) rfl) trivial (p_step rfl (e_add rfl rfl (by omega)) trivial (p_step rfl (e_assign (v := .sc _) rfl) trivial (p_end (hK18 _ ?_)))); clear hK18 K18;exact loop_again ((k + 1, cntStep p cs x)) (by show _ < _; simp only; omega) ⟨rfl, rfl, rfl, rfl, trivial⟩ ⟨rfl, trivial⟩ (by exact ⟨by show _ + 1 ≤ _; omega, by exact (cntStep_len p cs x).trans hc, by exact hinv, by exact cs_next hb hc hxm, hihj9_0, (hihj9_1.trans (by first | exact cs_yes (by assumption) | exact cs_no (by assumption)))⟩)
 have hb12R := hb12; try simp only [z1, z2, z3, z4, z5, z6, ne_eq, z7, z8, z9, z10, z11, z12] at hb12
 obtain rfl : k = ms.length := by omega
 rw [List.drop_length] at hinv; simp only [List.foldl_nil] at hinv;refine pwp_exit (exit_seq ?_);clear hK11 K11;refine exit_loop (exit_here (seq_norm (hK4 _ ?_))); clear hK4 K4;refine pwp_seq_plain rfl fun K19 hK19 => p_step rfl (e_loadHA (n := 3) rfl hihj9_1 (by kernel_rfl) (by kernel_rfl) (by kernel_rfl) (by exact Nat.zero_lt_one) (by decide) (agg_whole (by simp [hc]))) trivial (p_store rfl (e_storeA rfl hihj9_0 rfl rfl (by simp [hc]) (by kernel_rfl) (all_ints cs) (by kernel_rfl)) trivial (p_end (hK19 _ ?_))); clear hK19 K19;refine pwp_ret (endC rfl (hset_self _ _ _) (by kernel_rfl) (by kernel_rfl) (by kernel_rfl) (by simp [hc]) ?_);rw [hinv];exact .clean (.agg _ fun q hq => by obtain ⟨z, _, rfl⟩ := List.mem_map.1 hq; exact .sc _)
end Go.Proofs.YtjihcgcbnbaclaaGreatDoor.Y9

set_option linter.unusedSimpArgs false
set_option linter.unusedVariables false
set_option maxRecDepth 100000
namespace Go.Proofs.YtjihcgcbnbaclaaGreatDoor.Y9
open Go Go.Pv Go.Proofs.YtjihcgcbnbaclaaGreatDoor
theorem cell_n {L : List Int} (j : Nat) (hj : j < L.length) : cellAt [L.map PV.int] 0 j = .int (L.getD j 0) := by
 simp [cellAt, List.getD_eq_getElem?_getD, List.getElem?_eq_getElem hj]
theorem cnt_all {p : ByteArray} : ∀ (l : List Move) (cs : List Int) (k : Nat), cs.length = 3 → (∀ c ∈ cs, 0 ≤ c ∧ c ≤ 100000 * (k : Int)) → (∀ m ∈ l, okM m) → ∀ c ∈ l.foldl (cntStep p) cs, 0 ≤ c ∧ c ≤ 100000 * ((k + l.length : Nat) : Int)
 | [], _, _, _, hb, _ => hb
 | m :: l, cs, k, hc, hb, hok => by
   have h1 := cnt_all (p := p) l (cntStep p cs m) (k + 1) ((cntStep_len p cs m).trans hc) (cs_next hb hc (hok m (by simp))) fun x hx => hok x (by simp [hx]);rw [List.foldl_cons];intro c hcm;have := h1 c hcm;rw [List.length_cons];omega
theorem cnt_bnd {p : ByteArray} {l : List Move} (hok : ∀ m ∈ l, okM m) (hl : l.length ≤ 305) (j : Nat) : 0 ≤ (cntL p l).getD j 0 ∧ (cntL p l).getD j 0 ≤ 30500000 := by
 rw [List.getD_eq_getElem?_getD];cases hq : (cntL p l)[j]? with
 | none => simp
 | some c =>
   have := cnt_all l [0, 0, 0] 0 rfl (by intro c hc; simp at hc; omega) hok c (List.mem_of_getElem? hq);simp only [Option.getD_some];omega
def badM (m : Move) : Prop := ¬ (0 ≤ m.day ∧ m.day ≤ 20000) ∨ ¬ (0 ≤ m.kind ∧ m.kind ≤ 2) ∨ ¬ (1 ≤ m.count ∧ m.count ≤ 100000)
instance (m : Move) : Decidable (badM m) := inferInstanceAs (Decidable (_ ∨ _))
def stkL (pre : List Move) (p : ByteArray) : Int := (cntL p pre).getD 0 0 - (cntL p pre).getD 1 0 - (cntL p pre).getD 2 0
def mvE (ts : List Term) (pre : List Move) (last : Int) (m : Move) : Int :=
 if badM m then 2 else if m.day < last then 10 else if termIx ts m.part < 0 then 6 else if m.kind ≠ 0 ∧ stkL pre m.part < m.count then 22 else 0
def goM (ts : List Term) : List Move → Int → List Move → Int
 | _, _, [] => 0
 | pre, last, m :: l => if mvE ts pre last m = 0 then goM ts (pre ++ [m]) m.day l else mvE ts pre last m
def movE (ts : List Term) (ms : List Move) : Int := if 300 < ms.length then 8 else goM ts [] 0 ms
theorem movE_big {ts : List Term} {ms : List Move} (h : 300 < ms.length) : 8 = movE ts ms := by rw [movE, if_pos h]
theorem movE_go {ts : List Term} {ms : List Move} {z : Int} (h : ms.length ≤ 300) (h2 : goM ts [] 0 ms = z) : z = movE ts ms := by rw [movE, if_neg (by omega), h2]
section
variable {ts : List Term} {ms pre l : List Move} {m : Move} {last z : Int} {k : Nat}
theorem mvE_2 (h : badM m) : mvE ts pre last m = 2 := by rw [mvE, if_pos h]
theorem mvE_10 (h : ¬ badM m) (h1 : m.day < last) : mvE ts pre last m = 10 := by rw [mvE, if_neg h, if_pos h1]
theorem mvE_6 (h : ¬ badM m) (h1 : ¬ m.day < last) (h2 : termIx ts m.part < 0) : mvE ts pre last m = 6 := by rw [mvE, if_neg h, if_neg h1, if_pos h2]
theorem mvE_22 (h : ¬ badM m) (h1 : ¬ m.day < last) (h2 : ¬ termIx ts m.part < 0) (h3 : m.kind ≠ 0 ∧ stkL pre m.part < m.count) : mvE ts pre last m = 22 := by rw [mvE, if_neg h, if_neg h1, if_neg h2, if_pos h3]
theorem mvE_0 (h : ¬ badM m) (h1 : ¬ m.day < last) (h2 : ¬ termIx ts m.part < 0) (h3 : ¬ (m.kind ≠ 0 ∧ stkL pre m.part < m.count)) : mvE ts pre last m = 0 := by rw [mvE, if_neg h, if_neg h1, if_neg h2, if_neg h3]
theorem goM_stop (hinv : goM ts [] 0 ms = goM ts pre last (m :: l)) (hz : z ≠ 0) (hE : mvE ts pre last m = z) : goM ts [] 0 ms = z := by rw [hinv, goM, hE, if_neg hz]
theorem goM_next (hinv : goM ts [] 0 ms = goM ts pre last (m :: l)) (hE : mvE ts pre last m = 0) : goM ts [] 0 ms = goM ts (pre ++ [m]) m.day l := by rw [hinv, goM, if_pos hE]
theorem prev_get (h : (0 : Int) < (k : Int)) (hk : k ≤ ms.length) : ∃ y, ms[((k : Int) - (1)).toNat]? = some y := ⟨_, List.getElem?_eq_getElem (by omega)⟩
theorem prev_next {x : Move} (hx : ms[k]? = some x) : ∀ y, ms[(((k + 1 : Nat) : Int) - (1)).toNat]? = some y → y.day = x.day := by
 intro y hy;rw [show (((k + 1 : Nat) : Int) - (1)).toNat = k by omega, hx] at hy;cases hy; rfl
theorem ok_next {x : Move} (h : ∀ m ∈ ms.take k, okM m) (hx : ms[k]? = some x) (hb : ¬ badM x) : ∀ m ∈ ms.take (k + 1), okM m := by
 intro y hy;rw [List.take_add_one, hx] at hy;rcases List.mem_append.1 hy with hy | hy
 · exact h y hy
 · simp at hy; subst hy;unfold badM at hb; unfold okM; omega
end
theorem fr39 : (inFrame Tryz.f39.ntmps (Tryz.f39.body.getD .skip) && Tryz.f39.results.toList.all (resScope Tryz.f39.ntmps)) = true := by kernel_rfl
theorem refCheckMoves (ts : List Term) (ms : List Move) (hlt : ts.length ≤ 65) (hl : ms.length ≤ 305) : PCalls Tryz.prog 39 [.lit true 4 (ts.map Term.enc), .lit true 4 (ms.map Move.enc)] (.int (movE ts ms)) := by
 refine PCalls.of_code Tryz.func39 rfl rfl (by kernel_rfl) mixed fr39 (by show _ ≤ 77; simp) (.sc _) (pwp_seq_plain rfl fun K1 hK1 => p_step rfl (e_assign (v := .sc _) rfl) trivial (p_end (hK1 _ ?_))); clear hK1 K1;refine pwp_seq_seq (pwp_seq_plain rfl fun K2 hK2 => p_step rfl (e_move (v := .lit _ _ _) rfl) trivial (p_step rfl (e_len rfl (by kernel_rfl)) trivial (p_step rfl (e_gt rfl rfl) trivial (p_end (hK2 _ ?_))))); clear hK2 K2;refine pwp_seq_cond rfl fun K3 hK3 => ⟨fun hb4 => ?_, fun hb4 => ?_⟩
 ·have hb4R := hb4; simp only [z1, z2, z3, z4, z5, z6, ne_eq, z7, z8, z9, z10, z11, z12] at hb4;refine pwp_seq_plain rfl fun K5 hK5 => p_step rfl (e_assign (v := .sc _) rfl) trivial (p_end (hK5 _ ?_)); clear hK5 K5;refine pwp_ret (ret_seq (end1 (v := .sc _) rfl ?_));exact out_i (movE_big (by omega))
 have hb4R := hb4; simp only [z1, z2, z3, z4, z5, z6, ne_eq, z7, z8, z9, z10, z11, z12] at hb4;refine pwp_skip (seq_norm (hK3 _ ?_)); clear hK3 K3;refine pwp_seq_seq (pwp_seq_plain rfl fun K6 hK6 => p_step rfl (e_assign (v := .sc _) rfl) trivial (p_end (hK6 _ ?_))); clear hK6 K6;refine pwp_seq_block fun K7 hK7 => pwp_loopR (α := Nat × Int) [0, 1] (fun (a8 : Nat × Int) => [(5, .int (a8.1))]) (fun (a8 : Nat × Int) (h : Heap) (_ : Nat → Nat) => ((a8.1) ≤ ms.length) ∧ (goM ts [] 0 ms = goM ts (ms.take (a8.1)) (a8.2) (ms.drop (a8.1))) ∧ (((a8.1) = 0 → (a8.2) = 0) ∧ ∀ y, ms[(((a8.1) : Int) - (1)).toNat]? = some y → 0 < (a8.1) → y.day = (a8.2)) ∧ (∀ m ∈ ms.take (a8.1), okM m)) (fun (a8 : Nat × Int) => ms.length - (a8.1)) (0, 0) (by exact ⟨rfl, trivial⟩) (by exact ⟨by exact Nat.zero_le _, by exact rfl, by exact ⟨fun _ => rfl, fun y _ h => absurd h (Nat.lt_irrefl 0)⟩, by (intro y hy; simp at hy)⟩) fun a8 r9 h10 c11 hj12 => ?_;obtain ⟨k, last⟩ := a8;obtain ⟨hk, hinv, hlast, hokk⟩ := hj12;try dsimp only at hk
 try dsimp only at hinv
 try dsimp only at hlast
 try dsimp only at hokk
 show pwp _ _ (loopQ _ _ _) ⟨sets (mix _ _ _) [(5, .int k)], _, _⟩;refine pwp_seq_seq (pwp_seq_plain rfl fun K13 hK13 => p_step rfl (e_move (v := .sc _) rfl) trivial (p_step rfl (e_move (v := .lit _ _ _) rfl) trivial (p_step rfl (e_len rfl (by kernel_rfl)) trivial (p_step rfl (e_lt rfl rfl) trivial (p_end (hK13 _ ?_)))))); clear hK13 K13;refine pwp_seq_cond rfl fun K14 hK14 => ⟨fun hb15 => ?_, fun hb15 => ?_⟩
 ·have hb15R := hb15; simp only [z1, z2, z3, z4, z5, z6, ne_eq, z7, z8, z9, z10, z11, z12] at hb15;obtain ⟨x, hx, hd, ht⟩ := get_lt (xs := ms) (i := k) (by omega);rw [hd] at hinv;have q0 := cnt_bnd (p := x.part) hokk (by simp only [List.length_take]; omega) 0;have q1 := cnt_bnd (p := x.part) hokk (by simp only [List.length_take]; omega) 1;have q2 := cnt_bnd (p := x.part) hokk (by simp only [List.length_take]; omega) 2;refine pwp_skip (seq_norm (hK14 _ ?_)); clear hK14 K14;refine pwp_seq_block fun K16 hK16 => pwp_seq_plain rfl fun K17 hK17 => p_step rfl (e_move (v := .lit _ _ _) rfl) trivial (p_step rfl (e_move (v := .sc _) rfl) trivial (p_step rfl (e_ixa rfl rfl (by kernel_rfl) (by kernel_rfl) (by simp only [lM]; omega)) trivial (p_step rfl (e_loadA (n := 4) rfl (by kernel_rfl) (by kernel_rfl) (by kernel_rfl) (by simp only [lM]; omega) (by decide) (by first | exact agg_map hx rfl)) trivial (p_new rfl (e_alloc (cs := [.int 0, .int 0, .str ByteArray.empty, .int 0]) (n := 4) (by kernel_rfl) rfl (by decide)) (ob_alloc (by decide)) (p_store rfl (e_storeA rfl (hset_self _ _ _) rfl rfl rfl (by kernel_rfl) rfl (by kernel_rfl)) trivial ?_)))));refine p_end (hK17 _ ?_); clear hK17 K17;refine pwp_seq_seq (pwp_seq_gops rfl fun K18 hK18 => g_begin (g_step rfl rfl rfl rfl (e_faP (pl := [(0, 1, false), (1, 1, false), (2, 1, false), (3, 1, false)]) rfl (by kernel_rfl) (by kernel_rfl) (by decide) rfl) trivial (g_step rfl rfl rfl rfl (e_loadH (v := .sc _) rfl (hset_self _ _ _) (by kernel_rfl) (by kernel_rfl) (by kernel_rfl) (by exact Nat.zero_lt_one) (by decide) rfl) trivial (g_call rfl rfl rfl rfl (.cons inn_sc .nil) (IsDay _) (g_step rfl rfl rfl rfl (e_not rfl) trivial (g_step rfl rfl rfl rfl (e_move (v := .sc _) rfl) trivial ?_))))));refine g_cases (fun hb19 => ?_) (fun hb19 => ?_)
  ·have hb19R := hb19; simp only [z1, z2, z3, z4, z5, z6, ne_eq, z7, z8, z9, z10, z11, z12] at hb19;refine g_skip rfl rfl rfl (g_skip rfl rfl rfl (g_nocall rfl rfl rfl (g_skip rfl rfl rfl (g_step rfl rfl rfl rfl (e_pickT (v := .sc _) rfl rfl) trivial (g_step rfl rfl rfl rfl (e_move (v := .sc _) rfl) trivial (g_skip rfl rfl rfl (g_skip rfl rfl rfl ?_)))))));refine g_nocall rfl rfl rfl (g_skip rfl rfl rfl (g_step rfl rfl rfl rfl (e_pickT (v := .sc _) rfl rfl) trivial (g_end (ds := [26, 27, 28, 29, 32, 33, 34, 35]) rfl rfl (hK18 _ ?_)))); clear hK18 K18;refine pwp_seq_cond (t := true) rfl fun K20 hK20 => ⟨fun _ => ?_, nofun⟩
   refine pwp_seq_plain rfl fun K21 hK21 => p_step rfl (e_assign (v := .sc _) rfl) trivial (p_end (hK21 _ ?_)); clear hK21 K21;refine pwp_ret (ret_seq (ret_block (ret_seq (ret_loop (ret_block (ret_seq (end1 (v := .sc _) rfl ?_)))))));exact out_i (movE_go (by omega) (goM_stop hinv (by decide) (mvE_2 (by unfold badM; omega))))
  have hb19R := hb19; simp only [z1, z2, z3, z4, z5, z6, ne_eq, z7, z8, z9, z10, z11, z12] at hb19;refine g_step rfl rfl rfl rfl (e_faP (pl := [(0, 1, false), (1, 1, false), (2, 1, false), (3, 1, false)]) rfl (by kernel_rfl) (by kernel_rfl) (by decide) rfl) trivial (g_step rfl rfl rfl rfl (e_loadH (v := .sc _) rfl (hset_self _ _ _) (by kernel_rfl) (by kernel_rfl) (by kernel_rfl) (by exact Nat.zero_lt_one) (by decide) rfl) trivial (g_call rfl rfl rfl rfl (.cons inn_sc (.cons inn_sc (.cons inn_sc .nil))) (Within _ _ _) (g_step rfl rfl rfl rfl (e_not rfl) trivial (g_step rfl rfl rfl rfl (e_pickF (v := .sc _) rfl rfl) trivial (g_step rfl rfl rfl rfl (e_move (v := .sc _) rfl) trivial ?_)))));refine g_cases (fun hb22 => ?_) (fun hb22 => ?_)
  ·have hb22R := hb22; simp only [z1, z2, z3, z4, z5, z6, ne_eq, z7, z8, z9, z10, z11, z12] at hb22;refine g_skip rfl rfl rfl (g_skip rfl rfl rfl (g_nocall rfl rfl rfl (g_skip rfl rfl rfl (g_step rfl rfl rfl rfl (e_pickT (v := .sc _) rfl rfl) trivial (g_end (ds := [26, 27, 28, 29, 32, 33, 34, 35]) rfl rfl (hK18 _ ?_)))))); clear hK18 K18;refine pwp_seq_cond (t := true) rfl fun K23 hK23 => ⟨fun _ => ?_, nofun⟩
   refine pwp_seq_plain rfl fun K24 hK24 => p_step rfl (e_assign (v := .sc _) rfl) trivial (p_end (hK24 _ ?_)); clear hK24 K24;refine pwp_ret (ret_seq (ret_block (ret_seq (ret_loop (ret_block (ret_seq (end1 (v := .sc _) rfl ?_)))))));exact out_i (movE_go (by omega) (goM_stop hinv (by decide) (mvE_2 (by unfold badM; omega))))
  have hb22R := hb22; simp only [z1, z2, z3, z4, z5, z6, ne_eq, z7, z8, z9, z10, z11, z12] at hb22;refine g_step rfl rfl rfl rfl (e_faP (pl := [(0, 1, false), (1, 1, false), (2, 1, false), (3, 1, false)]) rfl (by kernel_rfl) (by kernel_rfl) (by decide) rfl) trivial (g_step rfl rfl rfl rfl (e_loadH (v := .sc _) rfl (hset_self _ _ _) (by kernel_rfl) (by kernel_rfl) (by kernel_rfl) (by exact Nat.zero_lt_one) (by decide) rfl) trivial (g_call rfl rfl rfl rfl (.cons inn_sc (.cons inn_sc (.cons inn_sc .nil))) (Within _ _ _) (g_step rfl rfl rfl rfl (e_not rfl) trivial (g_step rfl rfl rfl rfl (e_pickF (v := .sc _) rfl rfl) trivial (g_end (ds := [26, 27, 28, 29, 32, 33, 34, 35]) rfl rfl (hK18 _ ?_)))))); clear hK18 K18;refine pwp_seq_cond rfl fun K25 hK25 => ⟨fun hb26 => ?_, fun hb26 => ?_⟩
  ·have hb26R := hb26; simp only [z1, z2, z3, z4, z5, z6, ne_eq, z7, z8, z9, z10, z11, z12] at hb26;refine pwp_seq_plain rfl fun K27 hK27 => p_step rfl (e_assign (v := .sc _) rfl) trivial (p_end (hK27 _ ?_)); clear hK27 K27;refine pwp_ret (ret_seq (ret_block (ret_seq (ret_loop (ret_block (ret_seq (end1 (v := .sc _) rfl ?_)))))));exact out_i (movE_go (by omega) (goM_stop hinv (by decide) (mvE_2 (by unfold badM; omega))))
  have hb26R := hb26; simp only [z1, z2, z3, z4, z5, z6, ne_eq, z7, z8, z9, z10, z11, z12] at hb26;refine pwp_skip (seq_norm (hK25 _ ?_)); clear hK25 K25;refine pwp_seq_seq (pwp_seq_gops rfl fun K28 hK28 => g_begin (g_step rfl rfl rfl rfl (e_move (v := .sc _) rfl) trivial (g_step rfl rfl rfl rfl (e_gt rfl rfl) trivial (g_step rfl rfl rfl rfl (e_move (v := .sc _) rfl) trivial ?_))));refine g_cases (fun hb29 => ?_) (fun hb29 => ?_)
  ·have hb29R := hb29; simp only [z1, z2, z3, z4, z5, z6, ne_eq, z7, z8, z9, z10, z11, z12] at hb29; have hyy := prev_get (ms := ms) hb29 hk; obtain ⟨y, hy⟩ := hyy;refine g_step rfl rfl rfl rfl (e_faP (pl := [(0, 1, false), (1, 1, false), (2, 1, false), (3, 1, false)]) rfl (by kernel_rfl) (by kernel_rfl) (by decide) rfl) trivial (g_step rfl rfl rfl rfl (e_loadH (v := .sc _) rfl (hset_self _ _ _) (by kernel_rfl) (by kernel_rfl) (by kernel_rfl) (by exact Nat.zero_lt_one) (by decide) rfl) trivial (g_step rfl rfl rfl rfl (e_move (v := .lit _ _ _) rfl) trivial (g_step rfl rfl rfl rfl (e_move (v := .sc _) rfl) trivial (g_step rfl rfl rfl rfl (e_sub rfl rfl (by omega)) trivial (g_step rfl rfl rfl rfl (e_ixa rfl rfl (by kernel_rfl) (by kernel_rfl) (by simp only [lM]; omega)) trivial (g_step rfl rfl rfl rfl (e_fa (pl := [(0, 1, false), (1, 1, false), (2, 1, false), (3, 1, false)]) rfl (by kernel_rfl) (by kernel_rfl) (by decide) rfl) trivial (g_step rfl rfl rfl rfl (e_load (v := .sc _) rfl (by kernel_rfl) (by kernel_rfl) (by kernel_rfl) (by simp only [lM]; omega) (by decide) ((cell_map hy _).trans rfl)) trivial ?_)))))));refine g_step rfl rfl rfl rfl (e_lt rfl rfl) trivial (g_step rfl rfl rfl rfl (e_pickT (v := .sc _) rfl rfl) trivial (g_end (ds := [40, 41, 42, 43, 44, 45, 46, 47, 48]) (by kernel_rfl) rfl (hK28 _ ?_))); clear hK28 K28;refine pwp_seq_cond rfl fun K30 hK30 => ⟨fun hb31 => ?_, fun hb31 => ?_⟩
   ·have hb31R := hb31; simp only [z1, z2, z3, z4, z5, z6, ne_eq, z7, z8, z9, z10, z11, z12] at hb31;refine pwp_seq_plain rfl fun K32 hK32 => p_step rfl (e_assign (v := .sc _) rfl) trivial (p_end (hK32 _ ?_)); clear hK32 K32;refine pwp_ret (ret_seq (ret_block (ret_seq (ret_loop (ret_block (ret_seq (end1 (v := .sc _) rfl ?_)))))));exact out_i (movE_go (by omega) (goM_stop hinv (by decide) (mvE_10 (by unfold badM; omega) (by first | omega | (have hl0 := hlast.1 (by omega); omega) | (have hl1 := hlast.2 y hy (by omega); omega)))))
   have hb31R := hb31; simp only [z1, z2, z3, z4, z5, z6, ne_eq, z7, z8, z9, z10, z11, z12] at hb31;refine pwp_skip (seq_norm (hK30 _ ?_)); clear hK30 K30;refine pwp_seq_seq (pwp_seq_plain rfl fun K33 hK33 => p_step rfl (e_move (v := .lit _ _ _) rfl) trivial (p_step rfl (e_faP (pl := [(0, 1, false), (1, 1, false), (2, 1, false), (3, 1, false)]) rfl (by kernel_rfl) (by kernel_rfl) (by decide) rfl) trivial (p_step rfl (e_loadH (v := .sc _) rfl (hset_self _ _ _) (by kernel_rfl) (by kernel_rfl) (by kernel_rfl) (by exact Nat.zero_lt_one) (by decide) rfl) trivial (p_call rfl (.cons inn_lit (.cons inn_sc .nil)) (Term55 _ _ hlt) (p_step rfl (e_lt rfl rfl) trivial (p_end (hK33 _ ?_))))))); clear hK33 K33;refine pwp_seq_cond rfl fun K34 hK34 => ⟨fun hb35 => ?_, fun hb35 => ?_⟩
   ·have hb35R := hb35; simp only [z1, z2, z3, z4, z5, z6, ne_eq, z7, z8, z9, z10, z11, z12] at hb35;refine pwp_seq_plain rfl fun K36 hK36 => p_step rfl (e_assign (v := .sc _) rfl) trivial (p_end (hK36 _ ?_)); clear hK36 K36;refine pwp_ret (ret_seq (ret_block (ret_seq (ret_loop (ret_block (ret_seq (end1 (v := .sc _) rfl ?_)))))));exact out_i (movE_go (by omega) (goM_stop hinv (by decide) (mvE_6 (by unfold badM; omega) (by first | omega | (have hl0 := hlast.1 (by omega); omega) | (have hl1 := hlast.2 y hy (by omega); omega)) (by omega))))
   have hb35R := hb35; simp only [z1, z2, z3, z4, z5, z6, ne_eq, z7, z8, z9, z10, z11, z12] at hb35;refine pwp_skip (seq_norm (hK34 _ ?_)); clear hK34 K34;refine pwp_seq_gops rfl fun K37 hK37 => s_begin (s_step [] (by simp) rfl rfl rfl rfl (e_move (v := .lit _ _ _) rfl) trivial (s_step [] (by simp) rfl rfl rfl rfl (e_move (v := .sc _) rfl) trivial (s_step [] (by simp) rfl rfl rfl rfl (e_upto (n := k) rfl rfl rfl (by omega) (by kernel_rfl) (by kernel_rfl)) trivial (s_step [] (by simp) rfl rfl rfl rfl (e_faP (pl := [(0, 1, false), (1, 1, false), (2, 1, false), (3, 1, false)]) rfl (by kernel_rfl) (by kernel_rfl) (by decide) rfl) trivial (s_eR [6] rfl (e_loadH (v := .sc _) rfl (hset_self _ _ _) (by kernel_rfl) (by kernel_rfl) (by kernel_rfl) (by exact Nat.zero_lt_one) (by decide) rfl) (s_call (args := [.lit _ _ _, .sc _]) [] (by intro k hk; simp [keysOf, Go.Pv.keyOf] at hk; try (subst hk; simp)) rfl rfl rfl rfl (.cons inn_lit (.cons inn_sc .nil)) (Counts _ _ (by simp only [List.length_take]; omega) hokk) ?_))))));refine s_new [] (by simp) rfl rfl rfl rfl (e_alloc (cs := [.int 0, .int 0, .int 0]) (n := 3) (by kernel_rfl) rfl (by decide)) (ob_alloc (by decide)) (s_store [7] (by simp) rfl rfl (e_storeA rfl (hset_self _ _ _) rfl rfl (by rw [lM, cntL_len]) (by kernel_rfl) (all_ints _) (by kernel_rfl)) trivial (s_end (ds := []) (by kernel_rfl) (by kernel_rfl) (hK37 _ ?_))); clear hK37 K37;refine pwp_seq_gops rfl fun K38 hK38 => g_begin (g_step rfl rfl rfl rfl (e_faP (pl := [(0, 1, false), (1, 1, false), (2, 1, false), (3, 1, false)]) rfl (by kernel_rfl) (by kernel_rfl) (by decide) rfl) trivial (g_step rfl rfl rfl rfl (e_loadH (v := .sc _) rfl (hzM rfl (hzM rfl (hset_self _ _ _))) (by kernel_rfl) (by kernel_rfl) (by kernel_rfl) (by exact Nat.zero_lt_one) (by decide) rfl) trivial (g_step rfl rfl rfl rfl (e_ne rfl rfl) trivial (g_step rfl rfl rfl rfl (e_move (v := .sc _) rfl) trivial ?_))));refine g_cases (fun hb39 => ?_) (fun hb39 => ?_)
   ·have hb39R := hb39; simp only [z1, z2, z3, z4, z5, z6, ne_eq, z7, z8, z9, z10, z11, z12] at hb39;refine g_step rfl rfl rfl rfl (e_faP (pl := [(0, 1, false), (1, 1, false), (2, 1, false), (3, 1, false)]) rfl (by kernel_rfl) (by kernel_rfl) (by decide) rfl) trivial (g_step rfl rfl rfl rfl (e_loadH (v := .sc _) rfl (hzM rfl (hzM rfl (hset_self _ _ _))) (by kernel_rfl) (by kernel_rfl) (by kernel_rfl) (by exact Nat.zero_lt_one) (by decide) rfl) trivial (g_step rfl rfl rfl rfl (e_ixaP (n := 3) (e := 3) rfl rfl (by kernel_rfl) (by kernel_rfl) (by omega)) trivial (g_step rfl rfl rfl rfl (e_loadH (v := .sc _) rfl (hset_self _ _ _) (by kernel_rfl) (by kernel_rfl) (by kernel_rfl) (by exact Nat.zero_lt_one) (by decide) (cell_n 0 (by rw [cntL_len]; decide))) trivial (g_step rfl rfl rfl rfl (e_ixaP (n := 3) (e := 3) rfl rfl (by kernel_rfl) (by kernel_rfl) (by omega)) trivial (g_step rfl rfl rfl rfl (e_loadH (v := .sc _) rfl (hset_self _ _ _) (by kernel_rfl) (by kernel_rfl) (by kernel_rfl) (by exact Nat.zero_lt_one) (by decide) (cell_n 1 (by rw [cntL_len]; decide))) trivial (g_step rfl rfl rfl rfl (e_sub rfl rfl (by omega)) trivial (g_step rfl rfl rfl rfl (e_ixaP (n := 3) (e := 3) rfl rfl (by kernel_rfl) (by kernel_rfl) (by omega)) trivial ?_)))))));refine g_step rfl rfl rfl rfl (e_loadH (v := .sc _) rfl (hset_self _ _ _) (by kernel_rfl) (by kernel_rfl) (by kernel_rfl) (by exact Nat.zero_lt_one) (by decide) (cell_n 2 (by rw [cntL_len]; decide))) trivial (g_step rfl rfl rfl rfl (e_sub rfl rfl (by omega)) trivial (g_step rfl rfl rfl rfl (e_gt rfl rfl) trivial (g_step rfl rfl rfl rfl (e_pickT (v := .sc _) rfl rfl) trivial (g_end (ds := [65, 66, 67, 68, 69, 70, 71, 72, 73, 74, 75]) rfl rfl (hK38 _ ?_))))); clear hK38 K38;refine pwp_cond rfl (fun hb40 => ?_) (fun hb40 => ?_)
    ·have hb40R := hb40; simp only [z1, z2, z3, z4, z5, z6, ne_eq, z7, z8, z9, z10, z11, z12] at hb40;refine pwp_seq_plain rfl fun K41 hK41 => p_step rfl (e_assign (v := .sc _) rfl) trivial (p_end (hK41 _ ?_)); clear hK41 K41;refine pwp_ret (ret_block (ret_seq (ret_loop (ret_block (ret_seq (end1 (v := .sc _) rfl ?_))))));exact out_i (movE_go (by omega) (goM_stop hinv (by decide) (mvE_22 (by unfold badM; omega) (by first | omega | (have hl0 := hlast.1 (by omega); omega) | (have hl1 := hlast.2 y hy (by omega); omega)) (by omega) (by unfold stkL; omega))))
    have hb40R := hb40; simp only [z1, z2, z3, z4, z5, z6, ne_eq, z7, z8, z9, z10, z11, z12] at hb40;refine pwp_skip (block_norm (seq_norm (hK16 _ ?_))); clear hK16 K16;refine pwp_plain rfl fun K42 hK42 => p_step rfl (e_move (v := .sc _) rfl) trivial (p_step rfl (e_add rfl rfl (by omega)) trivial (p_step rfl (e_assign (v := .sc _) rfl) trivial (p_end (hK42 _ ?_)))); clear hK42 K42;exact loop_again ((k + 1, x.day)) (by show _ < _; simp only; omega) ⟨rfl, rfl, trivial⟩ ⟨rfl, trivial⟩ (by exact ⟨by show _ + 1 ≤ _; omega, by (rw [ht]; exact goM_next hinv (mvE_0 (by unfold badM; omega) (by first | omega | (have hl0 := hlast.1 (by omega); omega) | (have hl1 := hlast.2 y hy (by omega); omega)) (by omega) (by unfold stkL; omega))), by exact ⟨fun h => absurd h (by omega), fun y hy _ => prev_next hx y hy⟩, by exact ok_next hokk hx (by unfold badM; omega)⟩)
   have hb39R := hb39; simp only [z1, z2, z3, z4, z5, z6, ne_eq, z7, z8, z9, z10, z11, z12] at hb39;refine g_skip rfl rfl rfl (g_skip rfl rfl rfl (g_skip rfl rfl rfl (g_skip rfl rfl rfl (g_skip rfl rfl rfl (g_skip rfl rfl rfl (g_skip rfl rfl rfl (g_skip rfl rfl rfl ?_)))))));refine g_skip rfl rfl rfl (g_skip rfl rfl rfl (g_skip rfl rfl rfl (g_step rfl rfl rfl rfl (e_pickF (v := .sc _) rfl rfl) trivial (g_end (ds := [65, 66, 67, 68, 69, 70, 71, 72, 73, 74, 75]) rfl rfl (hK38 _ ?_))))); clear hK38 K38;refine pwp_cond (t := false) rfl nofun (fun _ => ?_);refine pwp_skip (block_norm (seq_norm (hK16 _ ?_))); clear hK16 K16;refine pwp_plain rfl fun K43 hK43 => p_step rfl (e_move (v := .sc _) rfl) trivial (p_step rfl (e_add rfl rfl (by omega)) trivial (p_step rfl (e_assign (v := .sc _) rfl) trivial (p_end (hK43 _ ?_)))); clear hK43 K43;exact loop_again ((k + 1, x.day)) (by show _ < _; simp only; omega) ⟨rfl, rfl, trivial⟩ ⟨rfl, trivial⟩ (by exact ⟨by show _ + 1 ≤ _; omega, by (rw [ht]; exact goM_next hinv (mvE_0 (by unfold badM; omega) (by first | omega | (have hl0 := hlast.1 (by omega); omega) | (have hl1 := hlast.2 y hy (by omega); omega)) (by omega) (by unfold stkL; omega))), by exact ⟨fun h => absurd h (by omega), fun y hy _ => prev_next hx y hy⟩, by exact ok_next hokk hx (by unfold badM; omega)⟩)
  have hb29R := hb29; simp only [z1, z2, z3, z4, z5, z6, ne_eq, z7, z8, z9, z10, z11, z12] at hb29;refine g_skip rfl rfl rfl (g_skip rfl rfl rfl (g_skip rfl rfl rfl (g_skip rfl rfl rfl (g_skip rfl rfl rfl (g_skip rfl rfl rfl (g_skip rfl rfl rfl (g_skip rfl rfl rfl ?_)))))));refine g_skip rfl rfl rfl (g_step rfl rfl rfl rfl (e_pickF (v := .sc _) rfl rfl) trivial (g_end (ds := [40, 41, 42, 43, 44, 45, 46, 47, 48]) (by kernel_rfl) rfl (hK28 _ ?_))); clear hK28 K28;refine pwp_seq_cond (t := false) rfl fun K44 hK44 => ⟨nofun, fun _ => ?_⟩
  refine pwp_skip (seq_norm (hK44 _ ?_)); clear hK44 K44;refine pwp_seq_seq (pwp_seq_plain rfl fun K45 hK45 => p_step rfl (e_move (v := .lit _ _ _) rfl) trivial (p_step rfl (e_faP (pl := [(0, 1, false), (1, 1, false), (2, 1, false), (3, 1, false)]) rfl (by kernel_rfl) (by kernel_rfl) (by decide) rfl) trivial (p_step rfl (e_loadH (v := .sc _) rfl (hset_self _ _ _) (by kernel_rfl) (by kernel_rfl) (by kernel_rfl) (by exact Nat.zero_lt_one) (by decide) rfl) trivial (p_call rfl (.cons inn_lit (.cons inn_sc .nil)) (Term55 _ _ hlt) (p_step rfl (e_lt rfl rfl) trivial (p_end (hK45 _ ?_))))))); clear hK45 K45;refine pwp_seq_cond rfl fun K46 hK46 => ⟨fun hb47 => ?_, fun hb47 => ?_⟩
  ·have hb47R := hb47; simp only [z1, z2, z3, z4, z5, z6, ne_eq, z7, z8, z9, z10, z11, z12] at hb47;refine pwp_seq_plain rfl fun K48 hK48 => p_step rfl (e_assign (v := .sc _) rfl) trivial (p_end (hK48 _ ?_)); clear hK48 K48;refine pwp_ret (ret_seq (ret_block (ret_seq (ret_loop (ret_block (ret_seq (end1 (v := .sc _) rfl ?_)))))));exact out_i (movE_go (by omega) (goM_stop hinv (by decide) (mvE_6 (by unfold badM; omega) (by first | omega | (have hl0 := hlast.1 (by omega); omega) | (have hl1 := hlast.2 y hy (by omega); omega)) (by omega))))
  have hb47R := hb47; simp only [z1, z2, z3, z4, z5, z6, ne_eq, z7, z8, z9, z10, z11, z12] at hb47;refine pwp_skip (seq_norm (hK46 _ ?_)); clear hK46 K46;refine pwp_seq_gops rfl fun K49 hK49 => s_begin (s_step [] (by simp) rfl rfl rfl rfl (e_move (v := .lit _ _ _) rfl) trivial (s_step [] (by simp) rfl rfl rfl rfl (e_move (v := .sc _) rfl) trivial (s_step [] (by simp) rfl rfl rfl rfl (e_upto (n := k) rfl rfl rfl (by omega) (by kernel_rfl) (by kernel_rfl)) trivial (s_step [] (by simp) rfl rfl rfl rfl (e_faP (pl := [(0, 1, false), (1, 1, false), (2, 1, false), (3, 1, false)]) rfl (by kernel_rfl) (by kernel_rfl) (by decide) rfl) trivial (s_eR [6] rfl (e_loadH (v := .sc _) rfl (hset_self _ _ _) (by kernel_rfl) (by kernel_rfl) (by kernel_rfl) (by exact Nat.zero_lt_one) (by decide) rfl) (s_call (args := [.lit _ _ _, .sc _]) [] (by intro k hk; simp [keysOf, Go.Pv.keyOf] at hk; try (subst hk; simp)) rfl rfl rfl rfl (.cons inn_lit (.cons inn_sc .nil)) (Counts _ _ (by simp only [List.length_take]; omega) hokk) ?_))))));refine s_new [] (by simp) rfl rfl rfl rfl (e_alloc (cs := [.int 0, .int 0, .int 0]) (n := 3) (by kernel_rfl) rfl (by decide)) (ob_alloc (by decide)) (s_store [7] (by simp) rfl rfl (e_storeA rfl (hset_self _ _ _) rfl rfl (by rw [lM, cntL_len]) (by kernel_rfl) (all_ints _) (by kernel_rfl)) trivial (s_end (ds := []) (by kernel_rfl) (by kernel_rfl) (hK49 _ ?_))); clear hK49 K49;refine pwp_seq_gops rfl fun K50 hK50 => g_begin (g_step rfl rfl rfl rfl (e_faP (pl := [(0, 1, false), (1, 1, false), (2, 1, false), (3, 1, false)]) rfl (by kernel_rfl) (by kernel_rfl) (by decide) rfl) trivial (g_step rfl rfl rfl rfl (e_loadH (v := .sc _) rfl (hzM rfl (hzM rfl (hset_self _ _ _))) (by kernel_rfl) (by kernel_rfl) (by kernel_rfl) (by exact Nat.zero_lt_one) (by decide) rfl) trivial (g_step rfl rfl rfl rfl (e_ne rfl rfl) trivial (g_step rfl rfl rfl rfl (e_move (v := .sc _) rfl) trivial ?_))));refine g_cases (fun hb51 => ?_) (fun hb51 => ?_)
  ·have hb51R := hb51; simp only [z1, z2, z3, z4, z5, z6, ne_eq, z7, z8, z9, z10, z11, z12] at hb51;refine g_step rfl rfl rfl rfl (e_faP (pl := [(0, 1, false), (1, 1, false), (2, 1, false), (3, 1, false)]) rfl (by kernel_rfl) (by kernel_rfl) (by decide) rfl) trivial (g_step rfl rfl rfl rfl (e_loadH (v := .sc _) rfl (hzM rfl (hzM rfl (hset_self _ _ _))) (by kernel_rfl) (by kernel_rfl) (by kernel_rfl) (by exact Nat.zero_lt_one) (by decide) rfl) trivial (g_step rfl rfl rfl rfl (e_ixaP (n := 3) (e := 3) rfl rfl (by kernel_rfl) (by kernel_rfl) (by omega)) trivial (g_step rfl rfl rfl rfl (e_loadH (v := .sc _) rfl (hset_self _ _ _) (by kernel_rfl) (by kernel_rfl) (by kernel_rfl) (by exact Nat.zero_lt_one) (by decide) (cell_n 0 (by rw [cntL_len]; decide))) trivial (g_step rfl rfl rfl rfl (e_ixaP (n := 3) (e := 3) rfl rfl (by kernel_rfl) (by kernel_rfl) (by omega)) trivial (g_step rfl rfl rfl rfl (e_loadH (v := .sc _) rfl (hset_self _ _ _) (by kernel_rfl) (by kernel_rfl) (by kernel_rfl) (by exact Nat.zero_lt_one) (by decide) (cell_n 1 (by rw [cntL_len]; decide))) trivial (g_step rfl rfl rfl rfl (e_sub rfl rfl (by omega)) trivial (g_step rfl rfl rfl rfl (e_ixaP (n := 3) (e := 3) rfl rfl (by kernel_rfl) (by kernel_rfl) (by omega)) trivial ?_)))))));refine g_step rfl rfl rfl rfl (e_loadH (v := .sc _) rfl (hset_self _ _ _) (by kernel_rfl) (by kernel_rfl) (by kernel_rfl) (by exact Nat.zero_lt_one) (by decide) (cell_n 2 (by rw [cntL_len]; decide))) trivial (g_step rfl rfl rfl rfl (e_sub rfl rfl (by omega)) trivial (g_step rfl rfl rfl rfl (e_gt rfl rfl) trivial (g_step rfl rfl rfl rfl (e_pickT (v := .sc _) rfl rfl) trivial (g_end (ds := [65, 66, 67, 68, 69, 70, 71, 72, 73, 74, 75]) rfl rfl (hK50 _ ?_))))); clear hK50 K50;refine pwp_cond rfl (fun hb52 => ?_) (fun hb52 => ?_)
   ·have hb52R := hb52; simp only [z1, z2, z3, z4, z5, z6, ne_eq, z7, z8, z9, z10, z11, z12] at hb52;refine pwp_seq_plain rfl fun K53 hK53 => p_step rfl (e_assign (v := .sc _) rfl) trivial (p_end (hK53 _ ?_)); clear hK53 K53;refine pwp_ret (ret_block (ret_seq (ret_loop (ret_block (ret_seq (end1 (v := .sc _) rfl ?_))))));exact out_i (movE_go (by omega) (goM_stop hinv (by decide) (mvE_22 (by unfold badM; omega) (by first | omega | (have hl0 := hlast.1 (by omega); omega) | (have hl1 := hlast.2 y hy (by omega); omega)) (by omega) (by unfold stkL; omega))))
   have hb52R := hb52; simp only [z1, z2, z3, z4, z5, z6, ne_eq, z7, z8, z9, z10, z11, z12] at hb52;refine pwp_skip (block_norm (seq_norm (hK16 _ ?_))); clear hK16 K16;refine pwp_plain rfl fun K54 hK54 => p_step rfl (e_move (v := .sc _) rfl) trivial (p_step rfl (e_add rfl rfl (by omega)) trivial (p_step rfl (e_assign (v := .sc _) rfl) trivial (p_end (hK54 _ ?_)))); clear hK54 K54;exact loop_again ((k + 1, x.day)) (by show _ < _; simp only; omega) ⟨rfl, rfl, trivial⟩ ⟨rfl, trivial⟩ (by exact ⟨by show _ + 1 ≤ _; omega, by (rw [ht]; exact goM_next hinv (mvE_0 (by unfold badM; omega) (by first | omega | (have hl0 := hlast.1 (by omega); omega) | (have hl1 := hlast.2 y hy (by omega); omega)) (by omega) (by unfold stkL; omega))), by exact ⟨fun h => absurd h (by omega), fun y hy _ => prev_next hx y hy⟩, by exact ok_next hokk hx (by unfold badM; omega)⟩)
  have hb51R := hb51; simp only [z1, z2, z3, z4, z5, z6, ne_eq, z7, z8, z9, z10, z11, z12] at hb51;refine g_skip rfl rfl rfl (g_skip rfl rfl rfl (g_skip rfl rfl rfl (g_skip rfl rfl rfl (g_skip rfl rfl rfl (g_skip rfl rfl rfl (g_skip rfl rfl rfl (g_skip rfl rfl rfl ?_)))))));refine g_skip rfl rfl rfl (g_skip rfl rfl rfl (g_skip rfl rfl rfl (g_step rfl rfl rfl rfl (e_pickF (v := .sc _) rfl rfl) trivial (g_end (ds := [65, 66, 67, 68, 69, 70, 71, 72, 73, 74, 75]) rfl rfl (hK50 _ ?_))))); clear hK50 K50;refine pwp_cond (t := false) rfl nofun (fun _ => ?_);refine pwp_skip (block_norm (seq_norm (hK16 _ ?_))); clear hK16 K16;refine pwp_plain rfl fun K55 hK55 => p_step rfl (e_move (v := .sc _) rfl) trivial (p_step rfl (e_add rfl rfl (by omega)) trivial (p_step rfl (e_assign (v := .sc _) rfl) trivial (p_end (hK55 _ ?_)))); clear hK55 K55;exact loop_again ((k + 1, x.day)) (by show _ < _; simp only; omega) ⟨rfl, rfl, trivial⟩ ⟨rfl, trivial⟩ (by exact ⟨by show _ + 1 ≤ _; omega, by (rw [ht]; exact goM_next hinv (mvE_0 (by unfold badM; omega) (by first | omega | (have hl0 := hlast.1 (by omega); omega) | (have hl1 := hlast.2 y hy (by omega); omega)) (by omega) (by unfold stkL; omega))), by exact ⟨fun h => absurd h (by omega), fun y hy _ => prev_next hx y hy⟩, by exact ok_next hokk hx (by unfold badM; omega)⟩)
 have hb15R := hb15; simp only [z1, z2, z3, z4, z5, z6, ne_eq, z7, z8, z9, z10, z11, z12] at hb15;obtain rfl : k = ms.length := by omega
 rw [List.drop_length] at hinv; simp only [goM] at hinv;refine pwp_exit (exit_seq ?_);clear hK14 K14;refine exit_loop (exit_here (seq_norm (hK7 _ ?_))); clear hK7 K7;refine pwp_seq_plain rfl fun K56 hK56 => p_step rfl (e_assign (v := .sc _) rfl) trivial (p_end (hK56 _ ?_)); clear hK56 K56;refine pwp_ret (end1 (v := .sc _) rfl ?_);exact out_i (movE_go (by omega) hinv)
end Go.Proofs.YtjihcgcbnbaclaaGreatDoor.Y9

set_option linter.unusedSimpArgs false
set_option linter.unusedVariables false
set_option maxRecDepth 100000
namespace Go.Proofs.YtjihcgcbnbaclaaGreatDoor.Y9
open Go Go.Pv Go.Proofs.YtjihcgcbnbaclaaGreatDoor
def goneR (p : ByteArray) (f e d : Int) : Int → List Move → List Lot
 | _, [] => []
 | w, m :: l => if m.part = p ∧ ¬ m.kind = 0 then (if 0 < min e (w + m.count) - max f w then [⟨p, min e (w + m.count) - max f w, d, m.day, m.kind⟩] else []) ++ goneR p f e d (w + m.count) l else goneR p f e d w l
def wentR (p : ByteArray) : Int → List Move → Int
 | w, [] => w
 | w, m :: l => if m.part = p ∧ ¬ m.kind = 0 then wentR p (w + m.count) l else wentR p w l
def leftR (p : ByteArray) (f e d w : Int) : List Lot := if 0 < e - max f w then [⟨p, e - max f w, d, -1, -1⟩] else []
def lotsGo (p : ByteArray) (ms : List Move) : Int → List Move → List Lot
 | _, [] => []
 | c, m :: l => if m.part = p ∧ m.kind = 0 then goneR p c (c + m.count) m.day 0 ms ++ leftR p c (c + m.count) m.day (wentR p 0 ms) ++ lotsGo p ms (c + m.count) l else lotsGo p ms c l
def lotsR (p : ByteArray) (ms : List Move) : List Lot := lotsGo p ms 0 ms
section
variable {p : ByteArray} {ms l : List Move} {m : Move} {acc A B : List Lot} {f e d w c W : Int}
end
theorem gone_len (p : ByteArray) (f e d : Int) : ∀ (l : List Move) (w : Int), (goneR p f e d w l).length ≤ l.length
 | [], _ => Nat.le_refl _
 | m :: l, w => by
   have h1 := gone_len p f e d l (w + m.count);have h2 := gone_len p f e d l w;unfold goneR;split
   · split
     · rw [List.length_append, List.length_cons, List.length_cons, List.length_nil]; omega
     · rw [List.nil_append, List.length_cons]; omega
   · rw [List.length_cons]; omega
theorem lotsGo_len (p : ByteArray) (ms : List Move) : ∀ (l : List Move) (c : Int), (lotsGo p ms c l).length ≤ l.length * (ms.length + 1)
 | [], _ => Nat.zero_le _
 | m :: l, c => by
   have h1 := lotsGo_len p ms l (c + m.count);have h2 := lotsGo_len p ms l c;have h3 := gone_len p c (c + m.count) m.day ms 0;have h4 : (leftR p c (c + m.count) m.day (wentR p 0 ms)).length ≤ 1 := by unfold leftR; split <;> simp
   unfold lotsGo;rw [List.length_cons, Nat.succ_mul];split
   · rw [List.length_append, List.length_append]; omega
   · omega
theorem lotsR_len (p : ByteArray) (ms : List Move) (h : ms.length ≤ 305) : (lotsR p ms).length ≤ 93330 := by
 have h1 := lotsGo_len p ms ms 0;have h2 : ms.length * (ms.length + 1) ≤ 305 * 306 := Nat.mul_le_mul h (by omega);unfold lotsR; omega
def lotsT (ts : List Term) (ms : List Move) : List Lot := ts.flatMap fun t => lotsR t.part ms
theorem lotsT_len (ts : List Term) (ms : List Move) (h : ms.length ≤ 305) : (lotsT ts ms).length ≤ ts.length * 93330 := by
 unfold lotsT;induction ts with
 | nil => simp
 | cons t ts ih =>
   have := lotsR_len t.part ms h;rw [List.flatMap_cons, List.length_append, List.length_cons, Nat.succ_mul]; omega
end Go.Proofs.YtjihcgcbnbaclaaGreatDoor.Y9

set_option linter.unusedSimpArgs false
set_option linter.unusedVariables false
namespace Go.Proofs.YtjihcgcbnbaclaaGreatDoor.Y9
open Go Go.Pv Go.Proofs.YtjihcgcbnbaclaaGreatDoor
structure Da where
 day : Int
 left : Int
 gone : List Lot
 deriving Inhabited
structure Dv where
 k : Nat
 v : PV
 a : Da
 deriving Inhabited
def dcell (d : Dv) : List PV := [.ptr (41, d.k) 3 0 0]
def DvAt (h : Heap) (d : Dv) : Prop := h (41, d.k) = some (.rows 3 [[.int d.a.day, .int d.a.left, d.v]]) ∧ SliceAt h 42 d.v 5 (d.a.gone.map Lot.enc)
def ownOf (d : Dv) : List Key := (41, d.k) :: Go.Pv.keyOf d.v
def ownD (ds : List Dv) : List Key := ds.flatMap ownOf
def takeL (m : Move) : Int → List Da → List Da
 | _, [] => []
 | n, d :: l => if 0 < min n d.left then ⟨d.day, d.left - min n d.left, d.gone ++ [⟨m.part, min n d.left, d.day, m.day, m.kind⟩]⟩ :: takeL m (n - min n d.left) l else d :: takeL m n l
theorem takeL_len (m : Move) : ∀ (l : List Da) (n : Int), (takeL m n l).length = l.length
 | [], _ => rfl
 | d :: l, n => by unfold takeL; split <;> simp [takeL_len m l]
theorem DvAt.key42 {h : Heap} {d : Dv} (hd : DvAt h d) : ∀ k ∈ Go.Pv.keyOf d.v, k.1 = 42 ∧ (h k).isSome = true := fun k hk => by
 rcases hd.2 with ⟨_, h2⟩ | ⟨g, h2, h3⟩
 · rw [h2] at hk; simp [Go.Pv.keyOf] at hk
 · rw [h2] at hk; simp [Go.Pv.keyOf] at hk; subst hk; exact ⟨rfl, by rw [h3]; rfl⟩
theorem DvAt.keep {h h' : Heap} {d : Dv} (hd : DvAt h d) (hk : ∀ k ∈ ownOf d, h' k = h k) : DvAt h' d := by
 refine ⟨(hk _ (by simp [ownOf])).trans hd.1, ?_⟩;rcases hd.2 with h2 | ⟨g, h2, h3⟩
 · exact .inl h2
 · exact .inr ⟨g, h2, (hk _ (by rw [ownOf, h2]; simp [Go.Pv.keyOf])).trans h3⟩
theorem ownOf_sub {ds : List Dv} {d : Dv} (hd : d ∈ ds) {k : Key} (hk : k ∈ ownOf d) : k ∈ ownD ds := List.mem_flatMap.2 ⟨d, hd, hk⟩
structure TakeI (m : Move) (ds : List Dv) (h0 : Heap) (c0 : Nat → Nat) (i : Nat) (n : Int) (es : List Dv) (h : Heap) (c : Nat → Nat) : Prop where
 keys : es.map (·.k) = ds.map (·.k)
 tl : takeL m m.count (ds.map (·.a)) = (es.take i).map (·.a) ++ takeL m n ((es.drop i).map (·.a))
 dr : es.drop i = ds.drop i
 at_ : ∀ d ∈ es, DvAt h d
 nd : (ownD es).Nodup
 kn : ∀ k ∈ ownD es, k.2 < c k.1
 sub : ∀ k ∈ ownD es, k ∈ ownD ds ∨ c0 k.1 ≤ k.2
 fr : ∀ k : Key, k ∉ ownD ds → k.2 < c0 k.1 → h k = h0 k
 cm : ∀ t, c0 t ≤ c t
 nb : 0 ≤ n ∧ n ≤ 100000
structure TakeR (m : Move) (ds : List Dv) (h0 : Heap) (c0 : Nat → Nat) (es : List Dv) (h : Heap) (c : Nat → Nat) : Prop where
 keys : es.map (·.k) = ds.map (·.k)
 tl : es.map (·.a) = takeL m m.count (ds.map (·.a))
 at_ : ∀ d ∈ es, DvAt h d
 nd : (ownD es).Nodup
 kn : ∀ k ∈ ownD es, k.2 < c k.1
 sub : ∀ k ∈ ownD es, k ∈ ownD ds ∨ c0 k.1 ≤ k.2
 fr : ∀ k : Key, k ∉ ownD ds → k.2 < c0 k.1 → h k = h0 k
 cm : ∀ t, c0 t ≤ c t
section
variable {m : Move} {ds es : List Dv} {h0 h h' : Heap} {c0 c c' : Nat → Nat} {i : Nat} {n : Int} {d : Dv}
theorem TakeI.len (H : TakeI m ds h0 c0 i n es h c) : es.length = ds.length := by have := congrArg List.length H.keys; simpa using this
theorem TakeI.fin (H : TakeI m ds h0 c0 ds.length n es h c) : TakeR m ds h0 c0 es h c := by
 refine ⟨H.keys, ?_, H.at_, H.nd, H.kn, H.sub, H.fr, H.cm⟩;have h1 := H.tl;rw [← H.len, List.take_length, List.drop_length] at h1;rw [h1]; simp [takeL]
theorem take_0 (ha : ∀ d ∈ ds, DvAt h0 d) (hn : (ownD ds).Nodup) (hk : ∀ k ∈ ownD ds, k.2 < c0 k.1) (hf : ∀ k : Key, k.2 < c0 k.1 → h k = h0 k) (hc : ∀ t, c0 t ≤ c t) (hb : 0 ≤ m.count ∧ m.count ≤ 100000) : TakeI m ds h0 c0 0 m.count ds h c :=
 ⟨rfl, by simp, rfl, fun d hd => (ha d hd).keep fun k hk' => hf k (hk k (ownOf_sub hd hk')), hn, fun k hk' => Nat.lt_of_lt_of_le (hk k hk') (hc _), fun k hk' => .inl hk', fun k _ h2 => hf k h2, hc, hb⟩
theorem TakeI.get (H : TakeI m ds h0 c0 i n es h c) (hd : ds[i]? = some d) : es[i]? = some d := by
 have h1 := congrArg (·[0]?) H.dr;simp only [List.getElem?_drop, Nat.add_zero] at h1;rw [h1, hd]
theorem TakeI.at_i (H : TakeI m ds h0 c0 i n es h c) (hd : ds[i]? = some d) : DvAt h d := H.at_ d (List.mem_of_getElem? (H.get hd))
theorem TakeI.skip (H : TakeI m ds h0 c0 i n es h c) (hd : ds[i]? = some d) (hm : ¬ 0 < min n d.a.left) : TakeI m ds h0 c0 (i + 1) n es h c := by
 have hg := H.get hd;have hdr : es.drop i = d :: es.drop (i + 1) := (List.getElem?_eq_some_iff.1 hg).2 ▸ List.drop_eq_getElem_cons (List.getElem?_eq_some_iff.1 hg).1;refine ⟨H.keys, ?_, ?_, H.at_, H.nd, H.kn, H.sub, H.fr, H.cm, H.nb⟩
 · rw [H.tl, hdr, List.map_cons, takeL, if_neg hm, List.take_add_one, hg]; simp
 · have := congrArg (List.drop 1) H.dr;simpa [List.drop_drop] using this
theorem ownD_split (hd : es[i]? = some d) : ownD es = ownD (es.take i) ++ (ownOf d ++ ownD (es.drop (i + 1))) := by
 have hlt := (List.getElem?_eq_some_iff.1 hd).1
 have : es = es.take i ++ d :: es.drop (i + 1) := by
   have h1 := (List.getElem?_eq_some_iff.1 hd).2;rw [← h1, ← List.drop_eq_getElem_cons hlt, List.take_append_drop]
 unfold ownD
 conv => lhs; rw [this]
 rw [List.flatMap_append, List.flatMap_cons]
theorem ownD_set {e : Dv} (hd : es[i]? = some d) : ownD (es.set i e) = ownD (es.take i) ++ (ownOf e ++ ownD (es.drop (i + 1))) := by
 have hlt := (List.getElem?_eq_some_iff.1 hd).1;rw [List.set_eq_take_append_cons_drop, if_pos hlt];unfold ownD;rw [List.flatMap_append, List.flatMap_cons]
theorem nodup_mid {A B B' C : List Key} (hn : (A ++ (B ++ C)).Nodup) (hb : B'.Nodup) (hs : ∀ k ∈ B', k ∈ B ∨ (k ∉ A ∧ k ∉ C)) : (A ++ (B' ++ C)).Nodup := by
 rw [List.nodup_append] at hn ⊢;obtain ⟨h1, h2, h3⟩ := hn;rw [List.nodup_append] at h2 ⊢;obtain ⟨h4, h5, h6⟩ := h2;refine ⟨h1, ⟨hb, h5, fun a ha b hb' e => ?_⟩, fun a ha b hb' e => ?_⟩
 · rcases hs a ha with h | ⟨_, h⟩
   · exact h6 a h b hb' e
   · exact h (e ▸ hb')
 · rcases List.mem_append.1 hb' with h | h
   · rcases hs b h with h' | ⟨h', _⟩
     · exact h3 a ha b (List.mem_append.2 (.inl h')) e
     · exact h' (e ▸ ha)
   · exact h3 a ha b (List.mem_append.2 (.inr h)) e
theorem TakeI.step {g : Nat} {d' : Dv} (H : TakeI m ds h0 c0 i n es h c) (hd : ds[i]? = some d) (hm : 0 < min n d.a.left) (hd' : d' = ⟨d.k, .ref (42, g) 5 0 (d.a.gone.length + 1), ⟨d.a.day, d.a.left - min n d.a.left, d.a.gone ++ [⟨m.part, min n d.a.left, d.a.day, m.day, m.kind⟩]⟩⟩)
   (hg : g = c 42) (hbox : h' (41, d.k) = some (.rows 3 [[.int d.a.day, .int (d.a.left - min n d.a.left), .ref (42, g) 5 0 (d.a.gone.length + 1)]])) (hgn : h' (42, g) = some (.rows 5 (d'.a.gone.map Lot.enc)))
   (hf : ∀ k : Key, k ≠ (41, d.k) → k ∉ Go.Pv.keyOf d.v → k ≠ (42, g) → k.2 < c k.1 → h' k = h k) (hc : ∀ t, c t ≤ c' t) (hc42 : g < c' 42) : TakeI m ds h0 c0 (i + 1) (n - min n d.a.left) (es.set i d') h' c' := by
 have hge := H.get hd;have hlt := (List.getElem?_eq_some_iff.1 hge).1;have hdr : es.drop i = d :: es.drop (i + 1) := (List.getElem?_eq_some_iff.1 hge).2 ▸ List.drop_eq_getElem_cons hlt;have hmem : d ∈ es := List.mem_of_getElem? hge;have hkd' : ownOf d' = [(41, d.k), (42, g)] := by rw [hd']; simp [ownOf, Go.Pv.keyOf]
 have hsp := ownD_split hge;have hnd := H.nd;rw [hsp] at hnd;have hfresh : ∀ k ∈ ownD es, k ≠ (42, g) := fun k hk e => by have := H.kn k hk; rw [e, hg] at this; exact absurd this (Nat.lt_irrefl _)
 have hself : ∀ e : Dv, e ∈ es.take i ∨ e ∈ es.drop (i + 1) → ∀ k ∈ ownOf e, h' k = h k := by
   intro e he k hk;have hke : k ∈ ownD (es.take i) ∨ k ∈ ownD (es.drop (i + 1)) := he.imp (fun h => ownOf_sub h hk) fun h => ownOf_sub h hk;have hkes : k ∈ ownD es := by rw [hsp]; rcases hke with h | h <;> simp [h]
   have hno : k ∉ ownOf d := by
     intro hc2;rw [List.nodup_append] at hnd;rcases hke with h | h
     · exact hnd.2.2 k h k (List.mem_append.2 (.inl hc2)) rfl
     · exact (List.nodup_append.1 hnd.2.1).2.2 k hc2 k h rfl
   exact hf k (fun e => hno (by rw [e]; simp [ownOf])) (fun h => hno (by simp [ownOf, h])) (hfresh k hkes) (H.kn k hkes)
 refine ⟨?_, ?_, ?_, ?_, ?_, ?_, ?_, ?_, fun t => Nat.le_trans (H.cm t) (hc t), ?_⟩
 · rw [← H.keys, List.map_set];apply List.ext_getElem?;intro j;rw [List.getElem?_set];split
   · rename_i hj; subst hj; rw [if_pos (by simpa using hlt), List.getElem?_map, hge, hd']; rfl
   · rfl
 · rw [H.tl, hdr, List.map_cons, takeL, if_pos hm, List.take_add_one, List.getElem?_set_self hlt, List.take_set_of_le (Nat.le_refl _)];rw [List.drop_set_of_lt (by omega), hd'];simp
 · rw [List.drop_set_of_lt (by omega)];have := congrArg (List.drop 1) H.dr;simpa [List.drop_drop] using this
 · intro e he;rw [List.set_eq_take_append_cons_drop, if_pos hlt] at he;rcases List.mem_append.1 he with h1 | h1
   · exact (H.at_ e (List.mem_of_mem_take h1)).keep (hself e (.inl h1))
   · rcases List.mem_cons.1 h1 with rfl | h1
     · refine ⟨by rw [hd']; exact hbox, .inr ⟨g, ?_, hgn⟩⟩;rw [hd']; simp
     · exact (H.at_ e (List.mem_of_mem_drop h1)).keep (hself e (.inr h1))
 · rw [ownD_set hge];refine nodup_mid hnd (by rw [hkd']; simp) fun k hk => ?_;rw [hkd'] at hk;rcases List.mem_cons.1 hk with rfl | hk
   · left; simp [ownOf]
   · simp at hk; subst hk;right;exact ⟨fun h => hfresh _ (by rw [hsp]; simp [h]) rfl, fun h => hfresh _ (by rw [hsp]; simp [h]) rfl⟩
 · intro k hk;rw [ownD_set hge, hkd'] at hk
   have : k ∈ ownD es ∨ k = (42, g) := by
     rw [hsp];simp only [List.mem_append, List.mem_cons, List.not_mem_nil, or_false] at hk ⊢;rcases hk with h | (rfl | rfl) | h
     · exact .inl (.inl h)
     · left; right; left; simp [ownOf]
     · exact .inr rfl
     · exact .inl (.inr (.inr h))
   rcases this with h | rfl
   · exact Nat.lt_of_lt_of_le (H.kn k h) (hc _)
   · exact hc42
 · intro k hk;rw [ownD_set hge, hkd'] at hk
   have : k ∈ ownD es ∨ k = (42, g) := by
     rw [hsp];simp only [List.mem_append, List.mem_cons, List.not_mem_nil, or_false] at hk ⊢;rcases hk with h | (rfl | rfl) | h
     · exact .inl (.inl h)
     · left; right; left; simp [ownOf]
     · exact .inr rfl
     · exact .inl (.inr (.inr h))
   rcases this with h | rfl
   · exact H.sub k h
   · right; rw [hg]; exact H.cm 42
 · intro k hk hk2
   have hown : k ∉ ownD es := fun h => by
     rcases H.sub k h with h2 | h2
     · exact hk h2
     · omega
   have hno : k ∉ ownOf d := fun h => hown (ownOf_sub hmem h);rw [hf k (fun e => hno (by rw [e]; simp [ownOf])) (fun h => hno (by simp [ownOf, h])) (fun e => by rw [e, hg] at hk2; have := H.cm 42; simp only at hk2; omega) (Nat.lt_of_lt_of_le hk2 (H.cm _))];exact H.fr k hk hk2
 · have := H.nb; omega
end
end Go.Proofs.YtjihcgcbnbaclaaGreatDoor.Y9
