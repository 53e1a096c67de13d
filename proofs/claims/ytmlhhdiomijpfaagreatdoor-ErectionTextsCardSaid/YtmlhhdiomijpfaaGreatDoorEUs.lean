import Derived.Test.YtmlhhdiomijpfaaGreatDoorELst
import Derived.Test.YtmlhhdiomijpfaaGreatDoorEOrA
set_option linter.unusedSimpArgs false
set_option linter.unusedVariables false
set_option maxRecDepth 100000
namespace Go.Proofs.YtmlhhdiomijpfaaGreatDoor.E7
open Go Go.Pv Go.Proofs.YtmlhhdiomijpfaaGreatDoor
theorem pwp_plainK {P : Program} {Q : Exit → PS → Prop} {s : PS} {id : Nat} {ops : Array Oper} (hg : noGuards ops = true) (h : Known s → ∀ K : PS → Prop, (∀ s', Q .normal s' → K s') → pOps P K ops.toList s) : pwp P (.region id ops false) Q s := by
 show pRegion P ops false (Q .normal) s;unfold pRegion;intro hk;rw [hg];exact h hk _ fun _ h => h
section
variable {P : Program} {d : Nat} {t : TypeId} {h : Heap} {key : Key} {ρ : Operand → PV} {x y : Operand}
theorem e_mkV {l c : Operand} {L : Int} {n : Nat} (hx : ρ l = .int L) (hy : ρ c = .int L) (hn : L = (n : Int)) (hz : zeroCellsOf P (elemTy P t) = some [.nil]) (ho : sliceOk P t = true) (hs : tySize P (elemTy P t) = 1) (hb : P.bytesOf (elemTy P t) < 2 ^ 15) (hl : n < 2 ^ 32) :
   eff P ρ h key (.makeSlice t l c) = ⟨True, .ref key 1 0 n, [(key, some (.rows 1 ((List.replicate n PV.nil).map cv)))], [], true⟩ := by
 subst hn;have h1 : (List.replicate n PV.nil).map cv = List.replicate n [PV.nil] := by simp [cv]
 simp only [eff, hx, hy, makeSliceEff, hz, ho, hs, hb, h1];simp [PV.cell]; omega
theorem e_loadV {k : Key} {zs : List PV} {i : Nat} {v : PV} (hx : ρ x = .ptr k 1 i 0) (hk : h k = some (.rows 1 (zs.map cv))) (hg : tyAgg P t = false) (hs : tySize P t = 1) (ht : tyOk P t = true) (ha : zs[i]? = some v) :
   eff P ρ h key (.load t x) = ⟨True, v, [], [k], false⟩ := by
 have hi : i < zs.length := (List.getElem?_eq_some_iff.1 ha).1;exact e_loadH hx hk hg hs ht (by simpa using hi) (by omega) ((cell_map ha _).trans rfl)
theorem e_storeV {k : Key} {zs : List PV} {i : Nat} {v : PV} (hx : ρ x = .ptr k 1 i 0) (hk : h k = some (.rows 1 (zs.map cv))) (hy : ρ y = v) (hp : pcells v = [v]) (hc : v.cell = true) (hi : i < zs.length) (hs : tySize P t = 1) (ht : tyOk P t = true) :
   eff P ρ h key (.store t x y) = ⟨True, .dead, [(k, some (.rows 1 ((zs.set i v).map cv)))], [k], false⟩ := by
 have h1 : setRow (zs.map cv) i 0 [v] = (zs.set i v).map cv := by
   unfold setRow setAt;rw [List.map_set];congr 1;simp [List.getD_eq_getElem?_getD, hi, cv]
 simp only [eff, storeEff, hx, hk, hy, hp, hs, ht, h1];simp [hi, hc]
end
theorem Fresh.keep {h h' : Heap} {c c' : Nat → Nat} {d : Nat} (hf : Fresh h c d) (hk : ∀ g, h' (d, g) = h (d, g)) (hc : c' d = c d) : Fresh h' c' d := fun g o h1 => by rw [hc]; exact hf g o ((hk g).symm.trans h1)
def clf (l : List Int) : List PV := [.lit false 1 (l.map ci)]
theorem clf_pure (l : List Int) : ∀ p ∈ clf l, Pure p := fun p hp => by
 simp [clf] at hp; subst hp; exact .lit _ _ _ fun row hr => pure_map ci_pure row hr
theorem out_np {h : Heap} {d e g n : Nat} {vs : List PV} {ls : List (List Int)} (hn : NP h d 1 ci vs ls) (hk : h (e, g) = some (.rows 1 (vs.map cv))) (hl : ls.length = n) : Out h (.ref (e, g) 1 0 n) (.lit false 1 (ls.map clf)) := by
 refine .ref hk (by rw [lM, hn.len]; omega) (by rw [lM, hl]) (fun row hr => by obtain ⟨l, _, rfl⟩ := List.mem_map.1 hr; rfl) (fun i j row row' p p' h1 h2 h3 h4 => ?_) fun row hr p hp => by obtain ⟨l, _, rfl⟩ := List.mem_map.1 hr; simp [clf] at hp; subst hp; rfl
 rw [Nat.zero_add, List.getElem?_map] at h1;rw [List.getElem?_map] at h2;cases hv : vs[i]? with
 | none => rw [hv] at h1; cases h1
 | some v =>
   cases hli : ls[i]? with
   | none => rw [hli] at h2; cases h2
   | some l =>
     rw [hv] at h1; rw [hli] at h2;cases h1; cases h2;cases j with
     | succ j => simp [cv] at h3
     | zero =>
       cases h3; cases h4;exact out_slice (hn.at_ i _ l hv hli) rfl (fun _ => rfl) fun a p hp => by simp [ci] at hp; subst hp; exact ⟨.sc _, rfl⟩
def usP (nd : List (List Int)) (k x : Nat) : List Int := ((List.range k).filter fun i => decide ((x : Int) ∈ nd_ nd i)).map fun i : Nat => (i : Int)
def usQ (nd : List (List Int)) (k j x : Nat) : List Int := usP nd k x ++ if (x : Int) ∈ (nd_ nd k).take j then [(k : Int)] else []
def usT (nd : List (List Int)) (k j : Nat) : List (List Int) := (List.range nd.length).map (usQ nd k j)
def usL (nd : List (List Int)) : List (List Int) := (List.range nd.length).map fun x : Nat => usR nd (x : Int)
theorem usT_len {nd : List (List Int)} {k j : Nat} : (usT nd k j).length = nd.length := by simp [usT]
theorem usT_get {nd : List (List Int)} {k j x : Nat} (h : x < nd.length) : (usT nd k j)[x]? = some (usQ nd k j x) := by
 simp [usT, List.getElem?_range, h]
theorem usT_0 {nd : List (List Int)} : usT nd 0 0 = List.replicate nd.length [] := by
 rw [usT, List.map_congr_left (g := fun _ => ([] : List Int)) (fun x _ => by simp [usQ, usP]), List.map_const', List.length_range]
theorem usP_succ {nd : List (List Int)} {k x : Nat} : usP nd (k + 1) x = usP nd k x ++ if (x : Int) ∈ nd_ nd k then [(k : Int)] else [] := by
 simp only [usP, List.range_succ, List.filter_append, List.map_append];congr 1;by_cases h : (x : Int) ∈ nd_ nd k
 · rw [if_pos h, List.filter_cons_of_pos (by simp only [h, decide_true])]; rfl
 · rw [if_neg h, List.filter_cons_of_neg (by simp only [h, decide_false, Bool.false_eq_true, not_false_eq_true])]; rfl
theorem usT_end {nd : List (List Int)} {k j : Nat} (hj : (nd_ nd k).length ≤ j) : usT nd k j = usT nd (k + 1) 0 := by
 simp only [usT];refine List.map_congr_left fun x _ => ?_;simp only [usQ, usP_succ, List.take_of_length_le hj, List.take_zero, List.not_mem_nil, if_false, List.append_nil]
theorem usT_all {nd : List (List Int)} {k : Nat} (hk : k = nd.length) : usT nd k 0 = usL nd := by
 subst hk;simp only [usT, usL];refine List.map_congr_left fun x _ => ?_;simp only [usQ, usP, usR, List.take_zero, List.not_mem_nil, if_false, List.append_nil]
theorem usT_step {nd : List (List Int)} {k j x : Nat} (hn : (nd_ nd k).Nodup) (hj : j < (nd_ nd k).length) (hx : at0 (nd_ nd k) j = (x : Int)) (hxl : x < nd.length) : (usT nd k j).set x (usQ nd k j x ++ [(k : Int)]) = usT nd k (j + 1) := by
 apply List.ext_getElem (by simp [usT]);intro y h1 h2;rw [List.getElem_set];simp only [usT, List.getElem_map, List.getElem_range]
 have hnt : at0 (nd_ nd k) j ∉ (nd_ nd k).take j := fun hq => by
   obtain ⟨i, hi, e⟩ := List.getElem_of_mem hq;rw [List.length_take] at hi;rw [List.getElem_take, ← at0_elem hj] at e;have := (List.getElem_inj hn).1 e;omega
 by_cases e : x = y
 · subst e;rw [if_pos rfl];simp only [usQ];rw [if_neg (by rw [← hx]; exact hnt), if_pos ((take_mem_succ hj).2 (.inr hx.symm)), List.append_nil]
 · rw [if_neg e];simp only [usQ]
   have : (y : Int) ∈ (nd_ nd k).take (j + 1) ↔ (y : Int) ∈ (nd_ nd k).take j := by
     rw [take_mem_succ hj, hx];exact ⟨fun h => h.resolve_right (fun q => e (by omega)), .inl⟩
   simp only [this]
abbrev ndX (xs : List Task) : List (List Int) := xs.map Task.needs
theorem ndX_len {xs : List Task} : (ndX xs).length = xs.length := lM _
theorem ndX_at {xs : List Task} {k : Nat} {x : Task} (h : xs[k]? = some x) : nd_ (ndX xs) k = x.needs := by
 simp [nd_, ndX, List.getD_eq_getElem?_getD, List.getElem?_map, h]
theorem usQ_len {nd : List (List Int)} {k j x : Nat} : (usQ nd k j x).length ≤ k + 1 := by
 have h1 := List.length_filter_le (fun i => decide ((x : Int) ∈ nd_ nd i)) (List.range k);simp only [usQ, usP, List.length_append, lM];rw [List.length_range] at h1;split <;> simp only [List.length_nil, List.length_cons] <;> omega
theorem fr70 : (inFrame Tryz.f70.ntmps (Tryz.f70.body.getD .skip) && Tryz.f70.results.toList.all (resScope Tryz.f70.ntmps)) = true := by kernel_rfl
theorem usersC (xs : List Task) (hl : xs.length ≤ 10000) (hnl : ∀ x ∈ xs, x.needs.length ≤ 1000) (hok : NdOK (ndX xs)) : PCalls Tryz.prog 70 [.lit true 6 (xs.map Task.enc)] (.lit false 1 ((usL (ndX xs)).map clf)) := by
 refine PCalls.of_code Tryz.func70 rfl rfl (by kernel_rfl) mixed fr70 (by show _ ≤ 38; simp) (.lit _ _ _ fun row hr => pure_map clf_pure row hr) ?_;have hndl := ndX_len (xs := xs);refine pwp_seq_plain rfl fun K1 hK1 => p_e rfl (e_assign (v := .nil) rfl) (p_end (hK1 _ ?_)); clear hK1 K1;refine pwp_seq_plain rfl fun K2 hK2 => p_e rfl (e_move (v := .lit _ _ _) rfl) (p_e rfl (e_len rfl (by kernel_rfl)) (p_new rfl (e_mkV (n := xs.length) rfl rfl (by rw [lM]) (by kernel_rfl) (by kernel_rfl) (by kernel_rfl) (by decide +kernel) (by omega)) trivial (p_e rfl (e_assign (v := .ref _ _ _ _) rfl) (p_end (hK2 _ ?_))))); clear hK2 K2;refine pwp_seq_seq (pwp_seq_plain rfl fun K3 hK3 => p_e rfl (e_move (v := .lit _ _ _) rfl) (p_e rfl (e_len rfl (by kernel_rfl)) (p_mS rfl (p_end (hK3 _ ?_))))); clear hK3 K3;refine pwp_seq_block fun K4 hK4 => pwp_loopR (α := Nat × (List PV)) [3, 11, 12] (fun (a5 : Nat × (List PV)) => [(13, .int (a5.1))]) (fun (a5 : Nat × (List PV)) (h : Heap) (_ : Nat → Nat) => ((a5.1) ≤ xs.length) ∧ (NP h 33 1 ci (a5.2) (usT (ndX xs) (a5.1) 0)) ∧ (h (10, 0) = some (.rows 1 ((a5.2).map cv)))) (fun (a5 : Nat × (List PV)) => xs.length - (a5.1)) (0, List.replicate xs.length .nil) (by exact ⟨rfl, trivial⟩) (by exact ⟨by exact Nat.zero_le _, by rw [usT_0, ndX_len]; exact NP.nils _, (hset_self _ _ _)⟩) fun a5 r6 h7 c8 hj9 => ?_;obtain ⟨k, vs⟩ := a5;obtain ⟨hk, hnp, hihj9_0⟩ := hj9;try dsimp only at hk
 try dsimp only at hnp
 try dsimp only at hihj9_0
 show pwp _ _ (loopQ _ _ _) ⟨sets (mix _ _ _) [(13, .int k)], _, _⟩;refine pwp_seq_plain rfl fun K10 hK10 => p_e rfl (e_lt rfl rfl) (p_end (hK10 _ ?_)); clear hK10 K10;refine pwp_seq_cond rfl fun K11 hK11 => ⟨fun hb12 => ?_, fun hb12 => ?_⟩
 ·have hb12R := hb12; try simp only [zz] at hb12
  obtain ⟨x, hx, hd, ht⟩ := get_lt (xs := xs) (i := k) (by omega);have hxn := hnl x (List.mem_of_getElem? hx);refine pwp_skip (seq_norm (hK11 _ ?_)); clear hK11 K11;refine pwp_seq_block fun K13 hK13 => pwp_seq_plain rfl fun K14 hK14 => p_mS rfl (p_e rfl (e_ixL rfl rfl) (p_e rfl (e_loadA (n := 6) rfl (by kernel_rfl) (by kernel_rfl) (by kernel_rfl) (by first | omega | (simp only [lM]; omega)) (by decide) (by first | exact agg_map hx rfl)) (p_new rfl (e_alloc (cs := [.str ByteArray.empty, .str ByteArray.empty, .int 0, .int 0, .int 0, .nil]) (n := 6) (by kernel_rfl) rfl (by decide)) (ob_alloc (by decide)) (p_aS rfl (p_store rfl (e_storeA rfl (hset_self _ _ _) rfl rfl rfl (by kernel_rfl) rfl (by kernel_rfl)) trivial ?_)))));refine p_end (hK14 _ ?_); clear hK14 K14;refine pwp_seq_plain rfl fun K15 hK15 => p_e rfl (e_faQ pl6 rfl) (p_e rfl (e_lH (v := .lit _ _ _) rfl (hset_self _ _ _) rfl) (p_e rfl (e_len rfl (by kernel_rfl)) (p_mS rfl (p_end (hK15 _ ?_))))); clear hK15 K15;refine pwp_block (pwp_loopR (α := Nat × (List PV)) [3, 4, 11, 12, 13, 19, 20] (fun (a16 : Nat × (List PV)) => [(21, .int (a16.1))]) (fun (a16 : Nat × (List PV)) (h : Heap) (_ : Nat → Nat) => ((a16.1) ≤ x.needs.length) ∧ (NP h 33 1 ci (a16.2) (usT (ndX xs) k (a16.1))) ∧ (h (10, 0) = some (.rows 1 ((a16.2).map cv)))) (fun (a16 : Nat × (List PV)) => x.needs.length - (a16.1)) (0, vs) (by exact ⟨rfl, trivial⟩) (by exact ⟨by exact Nat.zero_le _, by exact hnp.keep fun g => hzM rfl (hset_ne (key_ne rfl)), (hzM rfl (hzM rfl hihj9_0))⟩) fun a16 r17 h18 c19 hj20 => ?_);obtain ⟨j, vs⟩ := a16;obtain ⟨hj, hnp, hihj20_0⟩ := hj20;try dsimp only at hj
  try dsimp only at hnp
  try dsimp only at hihj20_0
  show pwp _ _ (loopQ _ _ _) ⟨sets (mix _ _ _) [(21, .int j)], _, _⟩;refine pwp_seq_plain rfl fun K21 hK21 => p_e rfl (e_lt rfl rfl) (p_end (hK21 _ ?_)); clear hK21 K21;refine pwp_seq_cond rfl fun K22 hK22 => ⟨fun hb23 => ?_, fun hb23 => ?_⟩
  ·have hb23R := hb23; try simp only [zz] at hb23
   refine pwp_skip (seq_norm (hK22 _ ?_)); clear hK22 K22;refine pwp_seq_block fun K24 hK24 => pwp_seq_plain rfl fun K25 hK25 => p_e rfl (e_ixL rfl rfl) (p_e rfl (e_lL (v := .sc _) rfl ((cell_map (at0_get (l := x.needs) (i := j) (by omega)) _).trans rfl)) (p_aS rfl (p_end (hK25 _ ?_)))); clear hK25 K25;have hzr := hok.rng k; rw [ndX_at hx] at hzr;obtain ⟨hz0, hzl⟩ := hzr _ (at0_mem (l := x.needs) (i := j) (by omega));obtain ⟨z, hz⟩ : ∃ z : Nat, at0 x.needs j = (z : Int) := ⟨(at0 x.needs j).toNat, by omega⟩
   have hzl2 : z < (ndX xs).length := by omega
   obtain ⟨u, hu⟩ : ∃ u, vs[z]? = some u := ⟨vs[z]'(by rw [hnp.len, usT_len]; exact hzl2), List.getElem?_eq_getElem _⟩
   rw [hz];refine pwp_plainK rfl fun hkn K26 hK26 => ?_;have hfs := hkn.fresh 33;refine p_e rfl (e_move (v := .ref _ _ _ _) rfl) (p_mS rfl (p_e rfl (e_move (v := .ref _ _ _ _) rfl) (p_mS rfl (p_e rfl (e_ixR rfl rfl) (p_e rfl (e_loadV (v := u) rfl hihj20_0 (by kernel_rfl) (by kernel_rfl) (by kernel_rfl) hu) (p_mS rfl (p_new rfl (e_bslice (rows := [ci (k : Int)]) (zs := [.int 0]) (sz := 1) (by kernel_rfl) (by kernel_rfl) rfl (by kernel_rfl) (by decide) rfl rfl (by exact ⟨by decide, rfl, rfl, trivial⟩) rfl) trivial ?_)))))));have hul := hnp.get hu (usT_get hzl2);refine p_appK (u := u) (sz := 1) (d1 := 33) (rows := (usQ (ndX xs) k j z).map ci) (rows2 := [ci (k : Int)]) rfl rfl rfl (hul.keep fun g => hset_ne (key_ne rfl)) (src_ref (hset_self _ _ _) rfl) (by kernel_rfl) (by have := usQ_len (nd := ndX xs) (k := k) (j := j) (x := z); simp only [lM, List.length_cons, List.length_nil]; omega) (by simp) fun h1 hr1 hf1 => ?_;have ho1 := (hf1 (10, 0) (key_ne rfl) (fun _ _ => key_ne rfl)).trans (hzM rfl hihj20_0);refine p_e rfl (e_ixR rfl rfl) (p_store rfl (e_storeV rfl ho1 rfl rfl rfl (by rw [hnp.len, usT_len]; exact hzl2) (by kernel_rfl) (by kernel_rfl)) trivial ?_);have hnp2 := ((hnp.keep (fun g => hset_ne (key_ne rfl))).app (Fresh.keep (d := 33) hfs (fun g => hset_ne (key_ne rfl)) rfl) (l' := usQ (ndX xs) k j z ++ [(k : Int)]) (v' := .ref (33, _) 1 0 (((usQ (ndX xs) k j z).map ci).length + [ci (k : Int)].length)) hu (usT_get hzl2) (congrArg (PV.ref _ 1 0) (by simp only [lM, List.length_append, List.length_cons, List.length_nil])) (hr1.trans (by rw [List.map_append]; rfl)) (fun k' q1 q2 => hf1 k' q1 (fun g e => q2 g (by rw [e, lM]))))
   rw [usT_step (hok.nodup k) (by rw [ndX_at hx]; omega) (by rw [ndX_at hx]; exact hz) hzl2] at hnp2;refine p_end (hK26 _ ?_); clear hK26 K26;refine block_norm (seq_norm (hK24 _ ?_)); clear hK24 K24;refine pwp_plain rfl fun K27 hK27 => p_e rfl (e_add rfl rfl (by omega)) (p_mS rfl (p_end (hK27 _ ?_))); clear hK27 K27;exact loop_again ((j + 1, _)) (by show _ < _; simp only; omega) ⟨rfl, rfl, rfl, rfl, rfl, rfl, rfl, trivial⟩ ⟨rfl, trivial⟩ (by exact ⟨by show _ + 1 ≤ _; omega, by (show NP _ 33 1 ci _ _; refine hnp2.keep ?_; intro g; exact hset_ne (key_ne rfl)), (hset_self _ _ _)⟩)
  have hb23R := hb23; try simp only [zz] at hb23
  obtain rfl : j = x.needs.length := by omega
  refine pwp_exit (exit_seq ?_);clear hK22 K22;refine exit_loop (exit_here (block_norm (seq_norm (hK13 _ ?_)))); clear hK13 K13;refine pwp_plain rfl fun K28 hK28 => p_e rfl (e_add rfl rfl (by omega)) (p_mS rfl (p_end (hK28 _ ?_))); clear hK28 K28;exact loop_again ((k + 1, vs)) (by show _ < _; simp only; omega) ⟨rfl, rfl, rfl, trivial⟩ ⟨rfl, trivial⟩ (by exact ⟨by show _ + 1 ≤ _; omega, by rw [← usT_end (Nat.le_of_eq (congrArg List.length (ndX_at hx)))]; exact hnp, hihj20_0⟩)
 have hb12R := hb12; try simp only [zz] at hb12
 obtain rfl : k = xs.length := by omega
 refine pwp_exit (exit_seq ?_);clear hK11 K11;refine exit_loop (exit_here (seq_norm (hK4 _ ?_))); clear hK4 K4;refine pwp_seq_plain rfl fun K29 hK29 => p_e rfl (e_move (v := .ref _ _ _ _) rfl) (p_e rfl (e_assign (v := .ref _ _ _ _) rfl) (p_end (hK29 _ ?_))); clear hK29 K29;refine pwp_ret (end1 (v := .ref _ _ _ _) rfl ?_);exact out_np (usT_all (nd := ndX xs) ndX_len.symm ▸ hnp) (by assumption) (by simp [usL])
end Go.Proofs.YtmlhhdiomijpfaaGreatDoor.E7
