import Derived.Test.YtnbcmoaofmkjhaaGreatDoorJ0
import Derived.Test.YtnbcmoaofmkjhaaGreatDoorJ1
set_option linter.unusedSimpArgs false
set_option linter.unusedVariables false
set_option maxRecDepth 100000
namespace Go.Proofs.YtnbcmoaofmkjhaaGreatDoor.E7
open Go Go.Pv Go.Proofs.YtnbcmoaofmkjhaaGreatDoor
theorem zBZ {P : Program} {Q : Exit → PS → Prop} {s : PS} {id : Nat} {ops : Array Oper} (hg : zCn ops = true) (h : Known s → ∀ K : PS → Prop, (∀ s', Q .normal s' → K s') → pOps P K ops.toList s) : pwp P (.region id ops false) Q s := by
 show zBA P ops false (Q .normal) s;unfold zBA;intro hk;rw [hg];exact h hk _ fun _ h => h
section
variable {P : Program} {d : Nat} {t : TypeId} {h : Heap} {key : Key} {ρ : Operand → PV} {x y : Operand}
theorem e_mkV {l c : Operand} {L : Int} {n : Nat} (hx : ρ l = .int L) (hy : ρ c = .int L) (hn : L = (n : Int)) (hz : zAT P (zAu P t) = some [.nil]) (ho : zAN P t = true) (hs : zAr P (zAu P t) = 1) (hb : P.bytesOf (zAu P t) < 2 ^ 15) (hl : n < 2 ^ 32) :
   eff P ρ h key (.makeSlice t l c) = ⟨True, .ref key 1 0 n, [(key, some (.rows 1 ((List.replicate n PV.nil).map cv)))], [], true⟩ := by
 subst hn;have h1 : (List.replicate n PV.nil).map cv = List.replicate n [PV.nil] := by simp [cv]
 simp only [eff, hx, hy, zBJ, hz, ho, hs, hb, h1];simp [PV.cell]; omega
theorem zE7 {k : Key} {zs : List PV} {i : Nat} {v : PV} (hx : ρ x = .ptr k 1 i 0) (hk : h k = some (.rows 1 (zs.map cv))) (hg : tyAgg P t = false) (hs : zAr P t = 1) (ht : tyOk P t = true) (ha : zs[i]? = some v) :
   eff P ρ h key (.load t x) = ⟨True, v, [], [k], false⟩ := by
 have hi : i < zs.length := (List.getElem?_eq_some_iff.1 ha).1;exact zDV hx hk hg hs ht (by simpa using hi) (by omega) ((zAV ha _).trans rfl)
theorem zDD {k : Key} {zs : List PV} {i : Nat} {v : PV} (hx : ρ x = .ptr k 1 i 0) (hk : h k = some (.rows 1 (zs.map cv))) (hy : ρ y = v) (hp : zBf v = [v]) (hc : v.cell = true) (hi : i < zs.length) (hs : zAr P t = 1) (ht : tyOk P t = true) :
   eff P ρ h key (.store t x y) = ⟨True, .dead, [(k, some (.rows 1 ((zs.set i v).map cv)))], [k], false⟩ := by
 have h1 : setRow (zs.map cv) i 0 [v] = (zs.set i v).map cv := by
   unfold setRow setAt;rw [List.map_set];congr 1;simp [List.getD_eq_getElem?_getD, hi, cv]
 simp only [eff, zCw, hx, hk, hy, hp, hs, ht, h1];simp [hi, hc]
end
theorem Fresh.keep {h h' : Heap} {c c' : Nat → Nat} {d : Nat} (hf : Fresh h c d) (hk : ∀ g, h' (d, g) = h (d, g)) (hc : c' d = c d) : Fresh h' c' d := fun g o h1 => by rw [hc]; exact hf g o ((hk g).symm.trans h1)
def clf (l : List Int) : List PV := [.lit false 1 (l.map ci)]
theorem zKc (l : List Int) : ∀ p ∈ clf l, Pure p := fun p hp => by
 simp [clf] at hp; subst hp; exact .lit _ _ _ fun row hr => zBo zDn row hr
theorem out_np {h : Heap} {d e g n : Nat} {vs : List PV} {ls : List (List Int)} (hn : NP h d 1 ci vs ls) (hk : h (e, g) = some (.rows 1 (vs.map cv))) (hl : ls.length = n) : Out h (.ref (e, g) 1 0 n) (.lit false 1 (ls.map clf)) := by
 refine .ref hk (by rw [lM, hn.len]; omega) (by rw [lM, hl]) (fun row hr => by obtain ⟨l, _, rfl⟩ := List.mem_map.1 hr; rfl) (fun i j row row' p p' h1 h2 h3 h4 => ?_) fun row hr p hp => by obtain ⟨l, _, rfl⟩ := List.mem_map.1 hr; simp [clf] at hp; subst hp; rfl
 rw [Nat.zero_add, List.getElem?_map] at h1;rw [List.getElem?_map] at h2;cases hv : vs[i]? with
 | none => rw [hv] at h1; cases h1
 | some v =>
   cases hli : ls[i]? with
   | none => rw [hli] at h2; cases h2
   | some l =>
     rw [hv] at h1; rw [hli] at h2;cases h1; cases h2;cases j with
     | succ j => simp [cv] at h3
     | zero =>
       cases h3; cases h4;exact zDM (hn.at_ i _ l hv hli) rfl (fun _ => rfl) fun a p hp => by simp [ci] at hp; subst hp; exact ⟨.sc _, rfl⟩
def usP (nd : List (List Int)) (k x : Nat) : List Int := ((List.range k).filter fun i => decide ((x : Int) ∈ nd_ nd i)).map fun i : Nat => (i : Int)
def usQ (nd : List (List Int)) (k j x : Nat) : List Int := usP nd k x ++ if (x : Int) ∈ (nd_ nd k).take j then [(k : Int)] else []
def usT (nd : List (List Int)) (k j : Nat) : List (List Int) := (List.range nd.length).map (usQ nd k j)
def usL (nd : List (List Int)) : List (List Int) := (List.range nd.length).map fun x : Nat => usR nd (x : Int)
theorem zKH {nd : List (List Int)} {k j : Nat} : (usT nd k j).length = nd.length := by simp [usT]
theorem zKI {nd : List (List Int)} {k j x : Nat} (h : x < nd.length) : (usT nd k j)[x]? = some (usQ nd k j x) := by
 simp [usT, List.getElem?_range, h]
theorem usT_0 {nd : List (List Int)} : usT nd 0 0 = List.replicate nd.length [] := by
 rw [usT, List.map_congr_left (g := fun _ => ([] : List Int)) (fun x _ => by simp [usQ, usP]), List.map_const', List.length_range]
theorem usP_succ {nd : List (List Int)} {k x : Nat} : usP nd (k + 1) x = usP nd k x ++ if (x : Int) ∈ nd_ nd k then [(k : Int)] else [] := by
 simp only [usP, List.range_succ, List.filter_append, List.map_append];congr 1;by_cases h : (x : Int) ∈ nd_ nd k
 · rw [if_pos h, List.filter_cons_of_pos (by simp only [h, decide_true])]; rfl
 · rw [if_neg h, List.filter_cons_of_neg (by simp only [h, decide_false, Bool.false_eq_true, not_false_eq_true])]; rfl
theorem usT_end {nd : List (List Int)} {k j : Nat} (hj : (nd_ nd k).length ≤ j) : usT nd k j = usT nd (k + 1) 0 := by
 simp only [usT];refine List.map_congr_left fun x _ => ?_;simp only [usQ, usP_succ, List.take_of_length_le hj, List.take_zero, List.not_mem_nil, if_false, List.append_nil]
theorem usT_all {nd : List (List Int)} {k : Nat} (hk : k = nd.length) : usT nd k 0 = usL nd := by
 subst hk;simp only [usT, usL];refine List.map_congr_left fun x _ => ?_;simp only [usQ, usP, usR, List.take_zero, List.not_mem_nil, if_false, List.append_nil]
theorem usT_step {nd : List (List Int)} {k j x : Nat} (hn : (nd_ nd k).Nodup) (hj : j < (nd_ nd k).length) (hx : at0 (nd_ nd k) j = (x : Int)) (hxl : x < nd.length) : (usT nd k j).set x (usQ nd k j x ++ [(k : Int)]) = usT nd k (j + 1) := by
 apply List.ext_getElem (by simp [usT]);intro y h1 h2;rw [List.getElem_set];simp only [usT, List.getElem_map, List.getElem_range]
 have hnt : at0 (nd_ nd k) j ∉ (nd_ nd k).take j := fun hq => by
   obtain ⟨i, hi, e⟩ := List.getElem_of_mem hq;rw [List.length_take] at hi;rw [List.getElem_take, ← zB5 hj] at e;have := (List.getElem_inj hn).1 e;omega
 by_cases e : x = y
 · subst e;rw [if_pos rfl];simp only [usQ];rw [if_neg (by rw [← hx]; exact hnt), if_pos ((zB6 hj).2 (.inr hx.symm)), List.append_nil]
 · rw [if_neg e];simp only [usQ]
   have : (y : Int) ∈ (nd_ nd k).take (j + 1) ↔ (y : Int) ∈ (nd_ nd k).take j := by
     rw [zB6 hj, hx];exact ⟨fun h => h.resolve_right (fun q => e (by omega)), .inl⟩
   simp only [this]
abbrev ndX (xs : List Task) : List (List Int) := xs.map Task.needs
theorem zCV {xs : List Task} : (ndX xs).length = xs.length := lM _
theorem zEI {xs : List Task} {k : Nat} {x : Task} (h : xs[k]? = some x) : nd_ (ndX xs) k = x.needs := by
 simp [nd_, ndX, List.getD_eq_getElem?_getD, List.getElem?_map, h]
theorem usQ_len {nd : List (List Int)} {k j x : Nat} : (usQ nd k j x).length ≤ k + 1 := by
 have h1 := List.length_filter_le (fun i => decide ((x : Int) ∈ nd_ nd i)) (List.range k);simp only [usQ, usP, List.length_append, lM];rw [List.length_range] at h1;split <;> simp only [List.length_nil, List.length_cons] <;> omega
theorem usersC (xs : List Task) (hl : xs.length ≤ 10000) (hnl : ∀ x ∈ xs, x.needs.length ≤ 1000) (hok : NdOK (ndX xs)) : PCalls Tryz.prog 52 [.lit true 6 (xs.map Task.enc)] (.lit false 1 ((usL (ndX xs)).map clf)) := by
 refine pco Tryz.func52 rfl rfl (.lit _ _ _ fun row hr => zBo zKc row hr) ?_;have hndl := zCV (xs := xs);refine zAa rfl fun K1 hK1 => p_e rfl (zAs (v := .nil) rfl) (p_end (hK1 _ ?_));refine zAa rfl fun K2 hK2 => p_e rfl (zAi (v := .lit _ _ _) rfl) (p_e rfl (e_len rfl (by kernel_rfl)) (p_new rfl (e_mkV (n := xs.length) rfl rfl (by rw [lM]) (by kernel_rfl) (by kernel_rfl) (by kernel_rfl) (by decide +kernel) (by omega)) trivial (p_e rfl (zAs (v := .ref _ _ _ _) rfl) (p_end (hK2 _ ?_)))));refine zAf (zAa rfl fun K3 hK3 => p_e rfl (zAi (v := .lit _ _ _) rfl) (p_e rfl (e_len rfl (by kernel_rfl)) (p_mS rfl (p_end (hK3 _ ?_)))));refine zAg fun K4 hK4 => zAE (α := Nat × (List PV)) [3, 11, 12] (fun (a5 : Nat × (List PV)) => [(13, .int (a5.1))]) (fun (a5 : Nat × (List PV)) (h : Heap) (_ : Nat → Nat) => ((a5.1) ≤ xs.length) ∧ (NP h 33 1 ci (a5.2) (usT (ndX xs) (a5.1) 0)) ∧ (h (10, 0) = some (.rows 1 ((a5.2).map cv)))) (fun (a5 : Nat × (List PV)) => xs.length - (a5.1)) (0, List.replicate xs.length .nil) (by exact ⟨rfl, trivial⟩) (by exact ⟨by exact Nat.zero_le _, by rw [usT_0, zCV]; exact NP.nils _, w_⟩) fun a5 r6 h7 c8 hj9 => ?_;obtain ⟨k, vs⟩ := a5;obtain ⟨hk, hnp, hihj9_0⟩ := hj9;try dsimp only at hk
 try dsimp only at hnp
 try dsimp only at hihj9_0
 show pwp _ _ (loopQ _ _ _) ⟨sets (mix _ _ _) [(13, .int k)], _, _⟩;refine zAa rfl fun K10 hK10 => p_e rfl (e_lt rfl rfl) (p_end (hK10 _ ?_));refine zAe rfl fun K11 hK11 => ⟨fun hb12 => ?_, fun hb12 => ?_⟩
 ·try simp only [zz] at hb12
  obtain ⟨x, hx, hd, ht⟩ := zBx (xs := xs) (i := k) (by omega);have hxn := hnl x (List.mem_of_getElem? hx);refine zAl (zAb (hK11 _ ?_));refine zAg fun K13 hK13 => zAa rfl fun K14 hK14 => p_mS rfl (p_e rfl (e_ixL rfl rfl) (p_e rfl (e_lB (n := 6) rfl (by first | exact zBj hx rfl)) (p_new rfl (zAR (cs := [.str ByteArray.empty, .str ByteArray.empty, .int 0, .int 0, .int 0, .nil]) (n := 6) (by kernel_rfl) rfl (by decide)) (zAG (by decide)) (p_aS rfl (zAQ rfl (zAB rfl w_ rfl rfl rfl (by kernel_rfl) rfl (by kernel_rfl)) trivial ?_)))));refine p_end (hK14 _ ?_);refine zAa rfl fun K15 hK15 => p_e rfl (e_faQ pl6 rfl) (p_e rfl (e_lH (v := .lit _ _ _) rfl w_ rfl) (p_e rfl (e_len rfl (by kernel_rfl)) (p_mS rfl (p_end (hK15 _ ?_)))));refine zB2 (zAE (α := Nat × (List PV)) [3, 4, 11, 12, 13, 19, 20] (fun (a16 : Nat × (List PV)) => [(21, .int (a16.1))]) (fun (a16 : Nat × (List PV)) (h : Heap) (_ : Nat → Nat) => ((a16.1) ≤ x.needs.length) ∧ (NP h 33 1 ci (a16.2) (usT (ndX xs) k (a16.1))) ∧ (h (10, 0) = some (.rows 1 ((a16.2).map cv)))) (fun (a16 : Nat × (List PV)) => x.needs.length - (a16.1)) (0, vs) (by exact ⟨rfl, trivial⟩) (by exact ⟨by exact Nat.zero_le _, by exact hnp.keep fun g => h1_ (zAp (zAv rfl)), (h2_ hihj9_0)⟩) fun a16 r17 h18 c19 hj20 => ?_);obtain ⟨j, vs⟩ := a16;obtain ⟨hj, hnp, hihj20_0⟩ := hj20;try dsimp only at hj
  try dsimp only at hnp
  try dsimp only at hihj20_0
  show pwp _ _ (loopQ _ _ _) ⟨sets (mix _ _ _) [(21, .int j)], _, _⟩;refine zAa rfl fun K21 hK21 => p_e rfl (e_lt rfl rfl) (p_end (hK21 _ ?_));refine zAe rfl fun K22 hK22 => ⟨fun hb23 => ?_, fun hb23 => ?_⟩
  ·try simp only [zz] at hb23
   refine zAl (zAb (hK22 _ ?_));refine zAg fun K24 hK24 => zAa rfl fun K25 hK25 => p_e rfl (e_ixL rfl rfl) (p_e rfl (e_lL (v := .sc _) rfl ((zAV (zBt (l := x.needs) (i := j) (by omega)) _).trans rfl)) (p_aS rfl (p_end (hK25 _ ?_))));have hzr := hok.rng k; rw [zEI hx] at hzr;obtain ⟨hz0, hzl⟩ := hzr _ (zHE (l := x.needs) (i := j) (by omega));obtain ⟨z, hz⟩ : ∃ z : Nat, at0 x.needs j = (z : Int) := ⟨(at0 x.needs j).toNat, by omega⟩
   have hzl2 : z < (ndX xs).length := by omega
   obtain ⟨u, hu⟩ : ∃ u, vs[z]? = some u := ⟨vs[z]'(by rw [hnp.len, zKH]; exact hzl2), List.getElem?_eq_getElem _⟩
   rw [hz];refine zBZ rfl fun hkn K26 hK26 => ?_;have hfs := hkn.fresh 33;refine p_e rfl (zAi (v := .ref _ _ _ _) rfl) (p_mS rfl (p_e rfl (zAi (v := .ref _ _ _ _) rfl) (p_mS rfl (p_e rfl (e_ixR rfl rfl) (p_e rfl (zE7 (v := u) rfl hihj20_0 (by kernel_rfl) (by kernel_rfl) (by kernel_rfl) hu) (p_mS rfl (p_new rfl (e_b1 (k : Int)) trivial ?_)))))));have hul := hnp.get hu (zKI hzl2);refine zFW (u := u) (sz := 1) (d1 := 33) (rows := (usQ (ndX xs) k j z).map ci) (rows2 := [ci (k : Int)]) rfl rfl rfl (hul.keep fun g => zAp (zAv rfl)) (zCq w_ rfl) (by kernel_rfl) (by have := usQ_len (nd := ndX xs) (k := k) (j := j) (x := z); simp only [lM, List.length_cons, List.length_nil]; omega) (by simp) fun h1 hr1 hf1 => ?_;have ho1 := (hf1 (10, 0) (zAv rfl) (fun _ _ => zAv rfl)).trans (h1_ hihj20_0);refine p_e rfl (e_ixR rfl rfl) (zAQ rfl (zDD rfl ho1 rfl rfl rfl (by rw [hnp.len, zKH]; exact hzl2) (by kernel_rfl) (by kernel_rfl)) trivial ?_);have hnp2 := ((hnp.keep (fun g => zAp (zAv rfl))).app (Fresh.keep (d := 33) hfs (fun g => zAp (zAv rfl)) rfl) (l' := usQ (ndX xs) k j z ++ [(k : Int)]) (v' := .ref (33, _) 1 0 (((usQ (ndX xs) k j z).map ci).length + [ci (k : Int)].length)) hu (zKI hzl2) (congrArg (PV.ref _ 1 0) (by simp only [lM, List.length_append, List.length_cons, List.length_nil])) (hr1.trans (by rw [List.map_append]; rfl)) (fun k' q1 q2 => hf1 k' q1 (fun g e => q2 g (by rw [e, lM]))))
   rw [usT_step (hok.nodup k) (by rw [zEI hx]; omega) (by rw [zEI hx]; exact hz) hzl2] at hnp2;refine p_end (hK26 _ ?_);refine zAj (zAb (hK24 _ ?_));refine zAn rfl fun K27 hK27 => p_e rfl (e_add rfl rfl (by omega)) (p_mS rfl (p_end (hK27 _ ?_)));exact zAo ((j + 1, _)) (by show _ < _; simp only; omega) ⟨rfl, rfl, rfl, rfl, rfl, rfl, rfl, trivial⟩ ⟨rfl, trivial⟩ (by exact ⟨by show _ + 1 ≤ _; omega, by (show NP _ 33 1 ci _ _; refine hnp2.keep ?_; intro g; exact zAp (zAv rfl)), w_⟩)
  try simp only [zz] at hb23
  obtain rfl : j = x.needs.length := by omega
  refine zAJ (zAK ?_);clear hK22 K22;refine zAC (zAA (zAj (zAb (hK13 _ ?_))));refine zAn rfl fun K28 hK28 => p_e rfl (e_add rfl rfl (by omega)) (p_mS rfl (p_end (hK28 _ ?_)));exact zAo ((k + 1, vs)) (by show _ < _; simp only; omega) ⟨rfl, rfl, rfl, trivial⟩ ⟨rfl, trivial⟩ (by exact ⟨by show _ + 1 ≤ _; omega, by rw [← usT_end (Nat.le_of_eq (congrArg List.length (zEI hx)))]; exact hnp, hihj20_0⟩)
 try simp only [zz] at hb12
 obtain rfl : k = xs.length := by omega
 refine zAJ (zAK ?_);clear hK11 K11;refine zAC (zAA (zAb (hK4 _ ?_)));refine zAa rfl fun K29 hK29 => p_e rfl (zAi (v := .ref _ _ _ _) rfl) (p_e rfl (zAs (v := .ref _ _ _ _) rfl) (p_end (hK29 _ ?_)));refine zAh (end1 (v := .ref _ _ _ _) rfl ?_);exact out_np (usT_all (nd := ndX xs) zCV.symm ▸ hnp) (by assumption) (by simp [usL])
theorem zDJ.len {h : Heap} {d : Nat} {u : PV} {l : List Int} {P : Program} {ρ : Operand → PV} {key : Key} {x : Operand} {t2 : TypeId} (hs : zDJ h d u l) (hx : ρ x = u) (ht : zAN P t2 = true) : eff P ρ h key (.call { callee := .builtin .len, args := #[x], argTypes := #[t2] }) = ⟨True, .int l.length, [], [], false⟩ := by
 rcases hs with ⟨rfl, rfl⟩ | ⟨g, t, rfl, hg⟩
 · exact zLQ hx ht
 · exact zJ8 hx ht
theorem zJq {l : List Int} {i : Nat} {v : Int} (h : i < l.length) : (l.set i v)[i]? = some v := by
 rw [List.getElem?_set_self h]
theorem nd_len {xs : List Task} {b : Nat} (h : ∀ x ∈ xs, x.needs.length ≤ b) (i : Nat) : (nd_ (ndX xs) i).length ≤ b := by
 simp only [nd_, ndX, List.getD_eq_getElem?_getD, List.getElem?_map];cases hx : xs[i]? with
 | none => simp
 | some x => exact h x (List.mem_of_getElem? hx)
theorem usL_get {nd : List (List Int)} {x : Nat} (h : x < nd.length) : (usL nd)[x]? = some (usR nd (x : Int)) := by
 simp [usL, List.getElem?_range, h]
def srtR (nd : List (List Int)) : List Int × Int := if (ordR nd).length < nd.length then ([], 24) else (ordR nd, 0)
theorem srt_1 {nd : List (List Int)} (h : (ordR nd).length < nd.length) : srtR nd = ([], 24) := if_pos h
theorem srt_2 {nd : List (List Int)} (h : ¬ (ordR nd).length < nd.length) : srtR nd = (ordR nd, 0) := if_neg h
theorem zJC {nd : List (List Int)} {D : List Int} (h : OrdAt nd D) : D.length ≤ nd.length := by have := h.len; omega
theorem srt_out0 {h : Heap} {nd : List (List Int)} (hs : (ordR nd).length < nd.length) : Out h (.tup [.nil, .int 24]) (.tup [.lit false 1 ((srtR nd).1.map ci), .int (srtR nd).2]) := by
 rw [srt_1 hs]; exact out_2 (.nil 1) (out_i rfl)
theorem srt_out {h : Heap} {nd : List (List Int)} {d : Nat} {v : PV} {rows : Pv.Rows} (hs : ¬ (ordR nd).length < nd.length) (hv : zAq h d v 1 rows) (he : rows = (ordR nd).map ci) : Out h (.tup [v, .int 0]) (.tup [.lit false 1 ((srtR nd).1.map ci), .int (srtR nd).2]) := by
 rw [srt_2 hs];exact out_2 (zDM hv he (fun _ => rfl) fun a p hp => by simp [ci] at hp; subst hp; exact ⟨.sc _, rfl⟩) (out_i rfl)
theorem zKQ (xs : List Task) (hl : xs.length ≤ 10000) (hnl : ∀ x ∈ xs, x.needs.length ≤ 1000) (hok : NdOK (ndX xs)) : PCalls Tryz.prog 31 [.lit true 6 (xs.map Task.enc)] (.tup [.lit false 1 ((srtR (ndX xs)).1.map ci), .int (srtR (ndX xs)).2]) := by
 refine pco Tryz.func31 rfl rfl (zKs (.lit _ _ _ fun row hr => zBo zDn row hr) (.sc _)) ?_;have hndl := zCV (xs := xs);refine zAa rfl fun K1 hK1 => p_e rfl (zAs (v := .nil) rfl) (p_aS rfl (p_end (hK1 _ ?_)));refine zAa rfl fun K2 hK2 => p_new rfl (zAR (cs := [.nil]) (n := 1) (by kernel_rfl) rfl (by decide)) (zAG (by decide)) (p_end (hK2 _ ?_));refine zAa rfl fun K3 hK3 => p_e rfl (zAi (v := .lit _ _ _) rfl) (p_e rfl (e_len rfl (by kernel_rfl)) (p_new rfl (e_mkI (n := xs.length) rfl rfl (by rw [lM]) (by kernel_rfl) (by kernel_rfl) (by kernel_rfl) (by decide +kernel) (by omega)) trivial (p_e rfl (zAs (v := .ref _ _ _ _) rfl) (p_end (hK3 _ ?_)))));refine zAf (zAa rfl fun K4 hK4 => p_e rfl (zAi (v := .lit _ _ _) rfl) (p_e rfl (e_len rfl (by kernel_rfl)) (p_mS rfl (p_end (hK4 _ ?_)))));refine zAg fun K5 hK5 => zAE (α := Nat × (List Int) × (List Int) × PV) [0, 4, 5, 16, 17] (fun (a6 : Nat × (List Int) × (List Int) × PV) => [(18, .int (a6.1))]) (fun (a6 : Nat × (List Int) × (List Int) × PV) (h : Heap) (_ : Nat → Nat) => ((a6.1) ≤ xs.length) ∧ (K0 (ndX xs) (a6.1) (a6.2.1) (a6.2.2.1)) ∧ (zDJ h 12 (a6.2.2.2) (a6.2.2.1)) ∧ (h (4, 0) = some (.rows 1 [[(a6.2.2.2)]])) ∧ (h (15, 0) = some (.rows 1 ((a6.2.1).map ci)))) (fun (a6 : Nat × (List Int) × (List Int) × PV) => xs.length - (a6.1)) (0, List.replicate xs.length 0, [], .nil) (by exact ⟨rfl, trivial⟩) (by exact ⟨by exact Nat.zero_le _, by exact zCV (xs := xs) ▸ K0.start, by exact zDJ.nil, (h1_ w_), w_⟩) fun a6 r7 h8 c9 hj10 => ?_;obtain ⟨k, op, rd, v⟩ := a6;obtain ⟨hk, hk0, hpt, hihj10_0, hihj10_1⟩ := hj10;try dsimp only at hk
 try dsimp only at hk0
 try dsimp only at hpt
 try dsimp only at hihj10_0
 try dsimp only at hihj10_1
 show pwp _ _ (loopQ _ _ _) ⟨sets (mix _ _ _) [(18, .int k)], _, _⟩;refine zAa rfl fun K11 hK11 => p_e rfl (e_lt rfl rfl) (p_end (hK11 _ ?_));refine zAe rfl fun K12 hK12 => ⟨fun hb13 => ?_, fun hb13 => ?_⟩
 ·have hb13R := hb13; try simp only [zz] at hb13
  obtain ⟨x, hx, hd, ht⟩ := zBx (xs := xs) (i := k) (by omega);have hnx := hnl x (List.mem_of_getElem? hx);refine zAl (zAb (hK12 _ ?_));refine zAg fun K14 hK14 => zAa rfl fun K15 hK15 => p_mS rfl (p_e rfl (e_ixL rfl rfl) (p_e rfl (e_lB (n := 6) rfl (by first | exact zBj hx rfl)) (p_new rfl (zAR (cs := [.str ByteArray.empty, .str ByteArray.empty, .int 0, .int 0, .int 0, .nil]) (n := 6) (by kernel_rfl) rfl (by decide)) (zAG (by decide)) (p_aS rfl (zAQ rfl (zAB rfl w_ rfl rfl rfl (by kernel_rfl) rfl (by kernel_rfl)) trivial ?_)))));refine p_end (hK15 _ ?_);refine zAa rfl fun K16 hK16 => p_e rfl (zAi (v := .ref _ _ _ _) rfl) (p_mS rfl (p_e rfl (e_faQ pl6 rfl) (p_e rfl (e_lH (v := .lit _ _ _) rfl w_ rfl) (p_e rfl (e_len rfl (by kernel_rfl)) (p_e rfl (zAS rfl rfl (by kernel_rfl) (by kernel_rfl) (by (first | omega | (rw [hk0.op.len]; omega)))) (zAQ rfl (zCp (zs := op) (a := ((((x.needs).map ci).length : Nat) : Int)) rfl (h2_ hihj10_1) rfl (by (first | (rw [hk0.op.len]; omega) | (rw [hkj.op.len]; exact hul))) (by kernel_rfl) (by kernel_rfl)) trivial ?_))))));refine p_end (hK16 _ ?_);refine zAa rfl fun K17 hK17 => p_e rfl (zAi (v := .ref _ _ _ _) rfl) (p_mS rfl (p_e rfl (zAS rfl rfl (by kernel_rfl) (by kernel_rfl) (by (first | omega | (rw [hk0.op.len]; omega)))) (p_e rfl (zBC (a := ((((x.needs).map ci).length : Nat) : Int)) rfl w_ (by kernel_rfl) (by kernel_rfl) (by kernel_rfl) (zJq (by rw [hk0.op.len]; omega))) (p_e rfl (e_eq rfl rfl) (p_end (hK17 _ ?_))))));refine zAt rfl (fun hb18 => ?_) (fun hb18 => ?_)
  ·have hb18R := hb18; try simp only [zz] at hb18
   refine zAn rfl fun K19 hK19 => p_mS rfl (zBc rfl (pushH _ _ rd (k : Int) v (h3_ hihj10_0) (hpt.keep fun g => h3_ (rfl)) (by have := hk0.rd.len; omega) hk0.rd.heap) fun v20 h21 c22 hR23 => ?_);obtain ⟨v24, rd25, hb26, hp27, hh28, hpm29, hf30⟩ := hR23;have hhp := hh28; have hpm := hpm29;have ho31 := (hf30 (15, 0) (by decide) (by decide) (by decide)).trans w_;refine p_end (hK19 _ ?_);refine zAj (zAb (hK14 _ ?_));refine zAn rfl fun K32 hK32 => p_e rfl (e_add rfl rfl (by omega)) (p_mS rfl (p_end (hK32 _ ?_)));exact zAo ((k + 1, op.set k ((nd_ (ndX xs) k).length : Int), rd25, v24)) (by show _ < _; simp only; omega) ⟨rfl, rfl, rfl, rfl, rfl, trivial⟩ ⟨rfl, trivial⟩ (by exact ⟨by show _ + 1 ≤ _; omega, by first | exact hk0.step (by omega) (.inl ⟨by rw [zEI hx]; simp only [lM] at *; omega, hhp, hpm⟩) | exact hk0.step (by omega) (.inr ⟨by rw [zEI hx]; simp only [lM] at *; omega, rfl⟩), by exact hp27, hb26, (ho31.trans (by (simp only [lM, zEI hx]; rfl)))⟩)
  have hb18R := hb18; try simp only [zz] at hb18
  refine zAl (zAj (zAb (hK14 _ ?_)));refine zAn rfl fun K33 hK33 => p_e rfl (e_add rfl rfl (by omega)) (p_mS rfl (p_end (hK33 _ ?_)));exact zAo ((k + 1, op.set k ((nd_ (ndX xs) k).length : Int), rd, v)) (by show _ < _; simp only; omega) ⟨rfl, rfl, rfl, rfl, rfl, trivial⟩ ⟨rfl, trivial⟩ (by exact ⟨by show _ + 1 ≤ _; omega, by first | exact hk0.step (by omega) (.inl ⟨by rw [zEI hx]; simp only [lM] at *; omega, hhp, hpm⟩) | exact hk0.step (by omega) (.inr ⟨by rw [zEI hx]; simp only [lM] at *; omega, rfl⟩), by exact (hpt.keep fun g => h3_ (rfl)), (h3_ hihj10_0), (w_.trans (by (simp only [lM, zEI hx]; rfl)))⟩)
 have hb13R := hb13; try simp only [zz] at hb13
 have hki := hk0.stop (by omega);refine zAJ (zAK ?_);clear hK12 K12;refine zAC (zAA (zAb (hK5 _ ?_)));refine zAa rfl fun K34 hK34 => p_e rfl (zAi (v := .lit _ _ _) rfl) (zBs rfl (.cons zBV .nil) (usersC _ hl hnl hok) (p_e rfl (zAs (v := .lit _ _ _) rfl) (p_end (hK34 _ ?_))));refine zAa rfl fun K35 hK35 => p_e rfl (zAs (v := .nil) rfl) (p_end (hK35 _ ?_));refine zAg fun K36 hK36 => zAE (α := (List Int) × PV × (List Int) × (List Int) × PV) [0, 4, 5, 8] (fun (a37 : (List Int) × PV × (List Int) × (List Int) × PV) => [(9, (a37.2.1))]) (fun (a37 : (List Int) × PV × (List Int) × (List Int) × PV) (h : Heap) (_ : Nat → Nat) => (KI (ndX xs) (a37.1) (a37.2.2.1) (a37.2.2.2.1)) ∧ (zDJ h 12 (a37.2.2.2.2) (a37.2.2.2.1)) ∧ (zAq h 46 (a37.2.1) 1 ((a37.1).map ci)) ∧ (h (4, 0) = some (.rows 1 [[(a37.2.2.2.2)]])) ∧ (h (15, 0) = some (.rows 1 ((a37.2.2.1).map ci)))) (fun (a37 : (List Int) × PV × (List Int) × (List Int) × PV) => leftR (ndX xs) (a37.1)) ([], _, _, _, _) (by exact ⟨rfl, trivial⟩) (by exact ⟨by exact hki, by exact hpt, .nil, hihj10_0, hihj10_1⟩) fun a37 r38 h39 c40 hj41 => ?_;obtain ⟨D, w, op, rd, v⟩ := a37;obtain ⟨hki, hpt, hihj41_0, hihj41_1, hihj41_2⟩ := hj41;try dsimp only at hki
 try dsimp only at hpt
 try dsimp only at hihj41_0
 try dsimp only at hihj41_1
 try dsimp only at hihj41_2
 show pwp _ _ (loopQ _ _ _) ⟨sets (mix _ _ _) [(9, w)], _, _⟩;refine zAf (zAa rfl fun K42 hK42 => p_e rfl (zDV (v := v) rfl hihj41_1 (by kernel_rfl) (by kernel_rfl) (by kernel_rfl) (by exact Nat.zero_lt_one) (by decide) rfl) (p_e rfl (zDJ.len hpt rfl (by kernel_rfl)) (p_e rfl (e_gt rfl rfl) (p_end (hK42 _ ?_)))));refine zAe rfl fun K43 hK43 => ⟨fun hb44 => ?_, fun hb44 => ?_⟩
 ·have hb44R := hb44; try simp only [zz] at hb44
  have hrl := hb44;refine zAl (zAb (hK43 _ ?_));refine zB2 (zAa rfl fun K45 hK45 => ?_);have hne : rd ≠ [] := fun e => by rw [e] at hrl; exact absurd hrl (by decide)
  refine zBc rfl (popH _ _ rd v hihj41_1 hpt (by have := hki.rd.len; omega) hki.rd.heap hne) fun v46 h47 c48 hR49 => ?_;obtain ⟨hv42, v50, rd51, hb52, hp53, hh54, hpm55, hf56⟩ := hR49;obtain ⟨x, hxl, hx0, hxr, hord, hleft, hkj0⟩ := hki.top hne hh54 hpm55;rw [hx0] at hv42; subst hv42;have hdl := zJC hki.ord; have hdl2 := zJC hord; have hull : (usL (ndX xs)).length = (ndX xs).length := (by simp [usL])
  have ho57 := (hf56 (15, 0) (by decide) (by decide)).trans hihj41_2;have hs58 := (hihj41_0).keep fun g => hf56 (46, g) (by intro e; cases e) (by show (46 : Nat) ≠ _; decide);refine p_aS rfl (p_end (hK45 _ ?_));refine zAa rfl fun K59 hK59 => p_e rfl (zAi (v := _) rfl) (p_mS rfl (p_new rfl (e_b1 (x : Int)) trivial (p_app rfl rfl rfl (hs58.keep fun _ => h1_ (rfl)) (zCq w_ rfl) (by kernel_rfl) (by simp only [List.length_append, lM, List.length_nil, List.length_cons]; omega) fun v60 h61 c62 hs63 hf64 => ?_)));have ho65 := (hf64 (4, _) (zAv rfl) (fun _ _ => zAv rfl)).trans (h1_ hb52);have ho66 := (hf64 (15, _) (zAv rfl) (fun _ _ => zAv rfl)).trans (h1_ ho57);have ho67 := (hf64 (45, _) (zAv rfl) (fun _ _ => zAv rfl)).trans w_;have hp68 := (hp53.keep fun g => h1_ (rfl)).keep fun g => (hf64 (12, g) (zAv rfl) (fun _ _ => zAv rfl))
  refine p_e rfl (zAs (v := _) rfl) (p_end (hK59 _ ?_));refine zAa rfl fun K69 hK69 => p_e rfl (zAi (v := .lit _ _ _) rfl) (p_mS rfl (p_e rfl (e_ixL rfl rfl) (p_e rfl (e_lL (v := .lit _ _ _) rfl ((zAV (usL_get hxl) _).trans rfl)) (p_e rfl (e_len rfl (by kernel_rfl)) (p_mS rfl (p_end (hK69 _ ?_)))))));refine zB2 (zAE (α := Nat × (List Int) × (List Int) × PV) [0, 4, 5, 8, 9, 50, 51] (fun (a70 : Nat × (List Int) × (List Int) × PV) => [(52, .int (a70.1))]) (fun (a70 : Nat × (List Int) × (List Int) × PV) (h : Heap) (_ : Nat → Nat) => ((a70.1) ≤ (usR (ndX xs) (x : Int)).length) ∧ (KJ (ndX xs) D x (a70.1) (a70.2.1) (a70.2.2.1)) ∧ (zDJ h 12 (a70.2.2.2) (a70.2.2.1)) ∧ (zAq h 46 v60 1 (((D ++ [(x : Int)])).map ci)) ∧ (h (4, 0) = some (.rows 1 [[(a70.2.2.2)]])) ∧ (h (15, 0) = some (.rows 1 ((a70.2.1).map ci)))) (fun (a70 : Nat × (List Int) × (List Int) × PV) => (usR (ndX xs) (x : Int)).length - (a70.1)) (0, _, _, _) (by exact ⟨rfl, trivial⟩) (by exact ⟨by exact Nat.zero_le _, by exact hkj0, by exact hp68, (zAq.to hs63 (by first | rfl | (simp only [List.map_append, List.map_cons, List.map_nil] <;> rfl))), ho65, ho66⟩) fun a70 r71 h72 c73 hj74 => ?_);obtain ⟨j, op, rd, v⟩ := a70;obtain ⟨hj, hkj, hpt, hihj74_0, hihj74_1, hihj74_2⟩ := hj74;try dsimp only at hj
  try dsimp only at hkj
  try dsimp only at hpt
  try dsimp only at hihj74_0
  try dsimp only at hihj74_1
  try dsimp only at hihj74_2
  show pwp _ _ (loopQ _ _ _) ⟨sets (mix _ _ _) [(52, .int j)], _, _⟩;refine zAa rfl fun K75 hK75 => p_e rfl (e_lt rfl rfl) (p_end (hK75 _ ?_));refine zAe rfl fun K76 hK76 => ⟨fun hb77 => ?_, fun hb77 => ?_⟩
  ·have hb77R := hb77; try simp only [zz] at hb77
   have hul0 := usR_len (nd := (ndX xs)) (x := (x : Int));obtain ⟨u, hu1, hul, huv, hun, hur⟩ := hkj.val hok hxr (by simp only [lM] at *; omega);have hgu : (usR (ndX xs) (x : Int))[j]? = some (u : Int) := by rw [zBt (by simp only [lM] at *; omega), hu1]
   have hcb := cntO_le (nd := (ndX xs)) (D := D ++ [(x : Int)]) (i := u);have hnb := nd_len hnl u;refine zAl (zAb (hK76 _ ?_));refine zAg fun K78 hK78 => zAa rfl fun K79 hK79 => p_e rfl (e_ixL rfl rfl) (p_e rfl (e_lL (v := .sc _) rfl ((zAV hgu _).trans rfl)) (p_aS rfl (p_end (hK79 _ ?_))));refine zAa rfl fun K80 hK80 => p_e rfl (zAi (v := .ref _ _ _ _) rfl) (p_mS rfl (p_e rfl (zAS rfl rfl (by kernel_rfl) (by kernel_rfl) (by (first | omega | (rw [hk0.op.len]; omega)))) (p_e rfl (zBC (a := (at0 op u)) rfl hihj74_2 (by kernel_rfl) (by kernel_rfl) (by kernel_rfl) (zBt (by rw [hkj.op.len]; exact hul))) (p_e rfl (e_sub rfl rfl (by omega)) (p_e rfl (zAS rfl rfl (by kernel_rfl) (by kernel_rfl) (by (first | omega | (rw [hk0.op.len]; omega)))) (zAQ rfl (zCp (zs := op) (a := ((at0 op u) - (1))) rfl hihj74_2 rfl (by (first | (rw [hk0.op.len]; omega) | (rw [hkj.op.len]; exact hul))) (by kernel_rfl) (by kernel_rfl)) trivial ?_))))));refine p_end (hK80 _ ?_);refine zAa rfl fun K81 hK81 => p_e rfl (zAi (v := .ref _ _ _ _) rfl) (p_mS rfl (p_e rfl (zAS rfl rfl (by kernel_rfl) (by kernel_rfl) (by (first | omega | (rw [hk0.op.len]; omega)))) (p_e rfl (zBC (a := (at0 op u - (1))) rfl w_ (by kernel_rfl) (by kernel_rfl) (by kernel_rfl) (zJq (by rw [hkj.op.len]; exact hul))) (p_e rfl (e_eq rfl rfl) (p_end (hK81 _ ?_))))));refine zAt rfl (fun hb82 => ?_) (fun hb82 => ?_)
   ·have hb82R := hb82; try simp only [zz] at hb82
    refine zAn rfl fun K83 hK83 => p_mS rfl (zBc rfl (pushH _ _ rd (u : Int) v (h1_ hihj74_1) (hpt.keep fun g => h1_ (rfl)) (by have := hkj.rd.len; omega) hkj.rd.heap) fun v84 h85 c86 hR87 => ?_);obtain ⟨v88, rd89, hb90, hp91, hh92, hpm93, hf94⟩ := hR87;have hhp := hh92; have hpm := hpm93;have ho95 := (hf94 (15, 0) (by decide) (by decide) (by decide)).trans w_;have hs96 := ((hihj74_0.keep fun _ => h1_ (rfl))).keep fun g => hf94 (46, g) (by intro e; cases e) (by show (46 : Nat) ≠ _; decide) (by show (46 : Nat) ≠ _; decide);refine p_end (hK83 _ ?_);refine zAj (zAb (hK78 _ ?_));refine zAn rfl fun K97 hK97 => p_e rfl (e_add rfl rfl (by omega)) (p_mS rfl (p_end (hK97 _ ?_)));exact zAo ((j + 1, op.set u (at0 op u - 1), rd89, v88)) (by show _ < _; simp only; omega) ⟨rfl, rfl, rfl, rfl, rfl, rfl, rfl, trivial⟩ ⟨rfl, trivial⟩ (by exact ⟨by show _ + 1 ≤ _; simp only [lM] at *; omega, by first | exact hkj.step hok hxr (by simp only [lM] at *; omega) hu1 hul huv hun hur (.inl ⟨by omega, hhp, hpm⟩) | exact hkj.step hok hxr (by simp only [lM] at *; omega) hu1 hul huv hun hur (.inr ⟨by omega, rfl⟩), by exact hp91, hs96, hb90, (ho95.trans (by rfl))⟩)
   have hb82R := hb82; try simp only [zz] at hb82
   refine zAl (zAj (zAb (hK78 _ ?_)));refine zAn rfl fun K98 hK98 => p_e rfl (e_add rfl rfl (by omega)) (p_mS rfl (p_end (hK98 _ ?_)));exact zAo ((j + 1, op.set u (at0 op u - 1), rd, v)) (by show _ < _; simp only; omega) ⟨rfl, rfl, rfl, rfl, rfl, rfl, rfl, trivial⟩ ⟨rfl, trivial⟩ (by exact ⟨by show _ + 1 ≤ _; simp only [lM] at *; omega, by first | exact hkj.step hok hxr (by simp only [lM] at *; omega) hu1 hul huv hun hur (.inl ⟨by omega, hhp, hpm⟩) | exact hkj.step hok hxr (by simp only [lM] at *; omega) hu1 hul huv hun hur (.inr ⟨by omega, rfl⟩), by exact (hpt.keep fun g => h1_ (rfl)), (hihj74_0.keep fun _ => h1_ (rfl)), (h1_ hihj74_1), (w_.trans (by rfl))⟩)
  have hb77R := hb77; try simp only [zz] at hb77
  have hki2 := hkj.stop hki.ord hord hxr (by simp only [lM] at *; omega);refine zAJ (zAK ?_);clear hK76 K76;refine zAC (zAA (zAj ?_));exact zAo ((D ++ [(x : Int)], v60, op, rd, v)) (by show _ < _; simp only; exact hleft) ⟨rfl, rfl, rfl, rfl, trivial⟩ ⟨rfl, trivial⟩ (by exact ⟨by exact hki2, by exact hpt, (zAq.to hihj74_0 (by (simp only [List.map_append, List.map_cons, List.map_nil] <;> rfl))), hihj74_1, (hihj74_2.trans (by rfl))⟩)
 have hb44R := hb44; try simp only [zz] at hb44
 have hrl := hb44;obtain rfl : rd = [] := List.eq_nil_of_length_eq_zero (by omega);have hD := hki.stop;have hdl := zJC hki.ord;refine zAJ (zAK ?_);clear hK43 K43;refine zAC (zAA (zAb (hK36 _ ?_)));refine zAf (zAa rfl fun K99 hK99 => p_e rfl (zAi (v := _) rfl) (p_e rfl (zAq.len hihj41_0 rfl (by kernel_rfl)) (p_e rfl (zAi (v := .lit _ _ _) rfl) (p_e rfl (e_len rfl (by kernel_rfl)) (p_e rfl (e_lt rfl rfl) (p_end (hK99 _ ?_)))))));refine zAe rfl fun K100 hK100 => ⟨fun hb101 => ?_, fun hb101 => ?_⟩
 ·have hb101R := hb101; try simp only [zz] at hb101
  refine zAa rfl fun K102 hK102 => p_e rfl (zAs (v := .nil) rfl) (p_aS rfl (p_end (hK102 _ ?_)));refine zAh (zAk (end2 (v := .nil) (w := .sc _) rfl rfl ?_));exact srt_out0 (by rw [← hD]; simp only [lM] at *; omega)
 have hb101R := hb101; try simp only [zz] at hb101
 refine zAl (zAb (hK100 _ ?_));refine zAa rfl fun K103 hK103 => p_e rfl (zAi (v := _) rfl) (p_e rfl (zAs (v := _) rfl) (p_aS rfl (p_end (hK103 _ ?_))));refine zAh (end2 (v := _) (w := .sc _) rfl rfl ?_);exact srt_out (by rw [← hD]; simp only [lM] at *; omega) hihj41_0 (by rw [← hD])
def rngT (t : Task) : Prop := (-1 ≤ t.member ∧ t.member ≤ 3999) ∧ (0 ≤ t.place ∧ t.place ≤ 999) ∧ (0 ≤ t.minutes ∧ t.minutes ≤ 10000)
instance (t : Task) : Decidable (rngT t) := inferInstanceAs (Decidable (_ ∧ _))
def dupB (xs : List Task) (k : Nat) (s : ByteArray) : Bool := (xs.take k).any fun t => decide (t.name = s)
def taskE (xs : List Task) (k : Nat) (t : Task) : Int := if isNm t.name = false ∨ isNm t.trade = false then 4 else if dupB xs k t.name then 5 else if ¬ rngT t then 2 else listE t.needs xs.length
def zBY (xs : List Task) : Nat → List Task → Int
 | _, [] => 0
 | k, t :: l => if taskE xs k t ≠ 0 then taskE xs k t else zBY xs (k + 1) l
def planE (xs : List Task) : Int := if 4000 < xs.length then 8 else if zBY xs 0 xs ≠ 0 then zBY xs 0 xs else if (ordR (ndX xs)).length < xs.length then 24 else 0
section
variable {xs : List Task} {k : Nat} {t : Task}
theorem dupB_succ {s : ByteArray} (ht : xs.take (k + 1) = xs.take k ++ [t]) : dupB xs (k + 1) s = (dupB xs k s || decide (t.name = s)) := by
 simp only [dupB, ht, List.any_append, List.any_cons, List.any_nil, Bool.or_false]
theorem zKM (h : isNm t.name = false ∨ isNm t.trade = false) : 4 = taskE xs k t := (if_pos h).symm
theorem taskE_5 (h1 : isNm t.name = true) (h2 : isNm t.trade = true) (h3 : dupB xs k t.name = true) : 5 = taskE xs k t := by
 rw [taskE, if_neg (by simp [h1, h2]), if_pos h3]
theorem zJi (h1 : isNm t.name = true) (h2 : isNm t.trade = true) (h3 : dupB xs k t.name = false) (h4 : ¬ rngT t) : 2 = taskE xs k t := by
 rw [taskE, if_neg (by simp [h1, h2]), if_neg (by simp [h3]), if_pos h4]
theorem zJh (h1 : isNm t.name = true) (h2 : isNm t.trade = true) (h3 : dupB xs k t.name = false) (h4 : rngT t) : listE t.needs xs.length = taskE xs k t := by
 rw [taskE, if_neg (by simp [h1, h2]), if_neg (by simp [h3]), if_neg (fun h => h h4)]
theorem tasks_hit {t : Task} (hinv : zBY xs 0 xs = zBY xs k (xs.drop k)) (hd : xs.drop k = t :: xs.drop (k + 1)) (h : taskE xs k t ≠ 0) : taskE xs k t = zBY xs 0 xs := by
 rw [hinv, hd, zBY, if_pos h]
theorem tasks_go (hinv : zBY xs 0 xs = zBY xs k (xs.drop k)) (hd : xs.drop k = t :: xs.drop (k + 1)) (h : taskE xs k t = 0) : zBY xs 0 xs = zBY xs (k + 1) (xs.drop (k + 1)) := by
 rw [hinv, hd, zBY, if_neg (fun q => q h)]
theorem tasks_all (hinv : zBY xs 0 xs = zBY xs k (xs.drop k)) (hk : xs.length ≤ k) : zBY xs 0 xs = 0 := by
 rw [hinv, List.drop_eq_nil_of_le hk, zBY]
theorem zGp : ∀ {l : List Task} {k : Nat}, zBY xs k l = 0 → ∀ i t, l[i]? = some t → taskE xs (k + i) t = 0
 | [], _, _, i, t, h => by simp at h
 | t :: l, k, h, i, t', h' => by
   rw [zBY] at h;split at h
   · rename_i h1; exact absurd h h1
   · rename_i h1;cases i with
     | zero => cases h'; exact Decidable.not_not.1 h1
     | succ i =>
       have := zGp h i t' h';rw [show k + (i + 1) = k + 1 + i by omega]; exact this
theorem listE_ok {l : List Int} {n : Int} (h : listE l n = 0) : (∀ z ∈ l, 0 ≤ z ∧ z < n) ∧ ascB l = true := by
 unfold listE at h;split at h
 · cases h
 · rename_i h1;split at h
   · rename_i h2;refine ⟨fun z hz => ?_, h2⟩;have h3 : l.any (outB n) = false := by simpa using h1
     rw [List.any_eq_false] at h3;have := h3 z hz;simp only [outB, Bool.not_eq_true', decide_eq_false_iff_not, Decidable.not_not] at this;omega
   · cases h
theorem zMB {l : List Int} (h : ascB l = true) : ∀ (d i : Nat), i + d + 1 < l.length → at0 l i < at0 l (i + d + 1)
 | 0, i, h1 => by
   simp only [ascB, decide_eq_true_eq] at h;have := h (i + 1) h1 (by omega);simpa using this
 | d + 1, i, h1 => by
   have h2 := zMB h d i (by omega);simp only [ascB, decide_eq_true_eq] at h;have := h (i + (d + 1) + 1) h1 (by omega);have e : i + (d + 1) + 1 - 1 = i + d + 1 := by omega
   rw [e] at this;omega
theorem asc_nodup {l : List Int} (h : ascB l = true) : l.Nodup := by
 rw [List.Nodup, List.pairwise_iff_getElem];intro i j hi hj hij;rw [zB5 hi, zB5 hj];have := zMB h (j - i - 1) i (by omega);rw [show i + (j - i - 1) + 1 = j by omega] at this;omega
theorem task_needs (h : taskE xs k t = 0) : rngT t ∧ isNm t.name = true ∧ isNm t.trade = true ∧ (∀ z ∈ t.needs, 0 ≤ z ∧ z < xs.length) ∧ ascB t.needs = true := by
 unfold taskE at h;split at h
 · cases h
 · rename_i h1;split at h
   · cases h
   · split at h
     · cases h
     · rename_i h3;rw [not_or, Bool.not_eq_false, Bool.not_eq_false] at h1;exact ⟨Decidable.not_not.1 h3, h1.1, h1.2, listE_ok h⟩
theorem zJf (h : zBY xs 0 xs = 0) : NdOK (ndX xs) := by
 have h1 : ∀ i, nd_ (ndX xs) i = [] ∨ ∃ t, xs[i]? = some t ∧ nd_ (ndX xs) i = t.needs := fun i => by
   cases e : xs[i]? with
   | none => left; simp [nd_, ndX, List.getD_eq_getElem?_getD, List.getElem?_map, e]
   | some t => exact .inr ⟨t, rfl, zEI e⟩
 have h2 : ∀ i t, xs[i]? = some t → _ := fun i t e => task_needs (by have := zGp h i t e; rw [Nat.zero_add] at this; exact this);refine ⟨fun i z hz => ?_, fun i => ?_⟩
 · rcases h1 i with h3 | ⟨t, h3, h4⟩
   · rw [h3] at hz; cases hz
   · rw [h4] at hz; rw [zCV]; exact (h2 i t h3).2.2.2.1 z hz
 · rcases h1 i with h3 | ⟨t, h3, h4⟩
   · rw [h3]; exact List.nodup_nil
   · rw [h4]; exact asc_nodup (h2 i t h3).2.2.2.2
end
section
variable {xs : List Task}
theorem planE_8 (h : 4000 < xs.length) : 8 = planE xs := (if_pos h).symm
theorem planE_t (h : ¬ 4000 < xs.length) (h2 : zBY xs 0 xs ≠ 0) : zBY xs 0 xs = planE xs := by rw [planE, if_neg h, if_pos h2]
theorem planE_24 (h : ¬ 4000 < xs.length) (h2 : zBY xs 0 xs = 0) (h3 : (ordR (ndX xs)).length < xs.length) : 24 = planE xs := by rw [planE, if_neg h, if_neg (fun q => q h2), if_pos h3]
theorem planE_0 (h : ¬ 4000 < xs.length) (h2 : zBY xs 0 xs = 0) (h3 : ¬ (ordR (ndX xs)).length < xs.length) : 0 = planE xs := by rw [planE, if_neg h, if_neg (fun q => q h2), if_neg h3]
theorem zK3 (h : ¬ 4000 < xs.length) (h2 : zBY xs 0 xs = 0) : (srtR (ndX xs)).2 = planE xs := by
 rw [srtR, zCV];split
 · rename_i h3; exact planE_24 h h2 h3
 · rename_i h3; exact planE_0 h h2 h3
end
def SeenI (xs : List Task) (k : Nat) (m : List (ByteArray × Bool)) : Prop := ∀ s, (aGet s m).getD false = dupB xs k s
theorem SeenI.nil {xs : List Task} : SeenI xs 0 [] := fun s => by simp [aGet, dupB]
theorem SeenI.step {xs : List Task} {k : Nat} {m : List (ByteArray × Bool)} {t : Task} (h : SeenI xs k m) (ht : xs.take (k + 1) = xs.take k ++ [t]) : SeenI xs (k + 1) (aSet t.name true m) := fun s => by
 rw [zDg, dupB_succ ht, ← h s];by_cases e : s = t.name
 · subst e; simp
 · rw [if_neg e];have : t.name ≠ s := fun q => e q.symm;simp [this]
def kps (s : ByteArray) : PV := .str s
theorem zLK (a b : ByteArray) : keyEq (kps a) (kps b) = decide (a = b) := by
 simp only [kps, keyEq, scEq]
theorem zMi (a : ByteArray) : keyOk Tryz.prog 9 (kps a) := by
 show zAW Tryz.prog 9 = true;kernel_rfl
def NmP (x : Task) : Prop := PCalls Tryz.prog 66 [.str x.name] (.bool (isNm x.name)) ∧ PCalls Tryz.prog 66 [.str x.trade] (.bool (isNm x.trade))
def Fair (xs : List Task) : Prop := ∀ x ∈ xs, x.needs.length ≤ 1000 ∧ x.name.size ≤ 1000 ∧ x.trade.size ≤ 1000 ∧ NmP x
theorem zD2 {xs : List Task} {k : Nat} {t : Task} {c : Int} (h : ¬ 4000 < xs.length) (hinv : zBY xs 0 xs = zBY xs k (xs.drop k)) (hd : xs.drop k = t :: xs.drop (k + 1)) (e : c = taskE xs k t) (hc : c ≠ 0) : c = planE xs := by
 have h1 := tasks_hit hinv hd (e ▸ hc);rw [e, h1];exact planE_t h (h1 ▸ e ▸ hc)
theorem zMF (xs : List Task) (hl : xs.length ≤ 10000) (hq : Fair xs) : PCalls Tryz.prog 30 [.lit true 6 (xs.map Task.enc)] (.int (planE xs)) := by
 refine pco Tryz.func30 rfl rfl (.sc _) (zAa rfl fun K1 hK1 => p_aS rfl (p_end (hK1 _ ?_))); clear hK1 K1;refine zAf (zAa rfl fun K2 hK2 => p_e rfl (zAi (v := .lit _ _ _) rfl) (p_e rfl (e_len rfl (by kernel_rfl)) (p_e rfl (e_gt rfl rfl) (p_end (hK2 _ ?_))))); clear hK2 K2;refine zAe rfl fun K3 hK3 => ⟨fun hb4 => ?_, fun hb4 => ?_⟩
 ·have hb4R := hb4; try simp only [zz] at hb4
  refine zAa rfl fun K5 hK5 => p_aS rfl (p_end (hK5 _ ?_)); clear hK5 K5;refine zAh (zAk (end1 (v := .sc _) rfl ?_));exact out_i (planE_8 (by simp only [lM] at *; omega))
 have hb4R := hb4; try simp only [zz] at hb4
 refine zAl (zAb (hK3 _ ?_)); clear hK3 K3;refine zAa rfl fun K6 hK6 => p_new rfl (zHA) trivial (p_e rfl (zAs (v := .map _) rfl) (p_end (hK6 _ ?_))); clear hK6 K6;refine zAf (zAa rfl fun K7 hK7 => p_e rfl (zAi (v := .lit _ _ _) rfl) (p_e rfl (e_len rfl (by kernel_rfl)) (p_mS rfl (p_end (hK7 _ ?_))))); clear hK7 K7;refine zAg fun K8 hK8 => zAE (α := Nat × (List (ByteArray × Bool))) [0, 3, 13, 14] (fun (a9 : Nat × (List (ByteArray × Bool))) => [(15, .int (a9.1))]) (fun (a9 : Nat × (List (ByteArray × Bool))) (h : Heap) (_ : Nat → Nat) => ((a9.1) ≤ xs.length) ∧ (zBY xs 0 xs = zBY xs (a9.1) (xs.drop (a9.1))) ∧ (SeenI xs (a9.1) (a9.2)) ∧ (MapAt h (12, 0) (zBb kps PV.bool (a9.2)))) (fun (a9 : Nat × (List (ByteArray × Bool))) => xs.length - (a9.1)) (0, []) (by exact ⟨rfl, trivial⟩) (by exact ⟨by exact Nat.zero_le _, by exact rfl, by exact SeenI.nil, MapAt.new⟩) fun a9 r10 h11 c12 hj13 => ?_;obtain ⟨k, m⟩ := a9;obtain ⟨hk, hinv, hsn, hihj13_0⟩ := hj13;try dsimp only at hk
 try dsimp only at hinv
 try dsimp only at hsn
 try dsimp only at hihj13_0
 show pwp _ _ (loopQ _ _ _) ⟨sets (mix _ _ _) [(15, .int k)], _, _⟩;refine zAa rfl fun K14 hK14 => p_e rfl (e_lt rfl rfl) (p_end (hK14 _ ?_)); clear hK14 K14;refine zAe rfl fun K15 hK15 => ⟨fun hb16 => ?_, fun hb16 => ?_⟩
 ·have hb16R := hb16; try simp only [zz] at hb16
  obtain ⟨t, hx, hd, ht⟩ := zBx (xs := xs) (i := k) (by omega);have hqt := hq t (List.mem_of_getElem? hx);refine zAl (zAb (hK15 _ ?_)); clear hK15 K15;refine zAg fun K17 hK17 => zAa rfl fun K18 hK18 => p_e rfl (e_ixL rfl rfl) (p_e rfl (e_lB (n := 6) rfl (by first | exact zBj hx rfl)) (p_new rfl (zAR (cs := [.str ByteArray.empty, .str ByteArray.empty, .int 0, .int 0, .int 0, .nil]) (n := 6) (by kernel_rfl) rfl (by decide)) (zAG (by decide)) (zAQ rfl (zAB rfl w_ rfl rfl rfl (by kernel_rfl) rfl (by kernel_rfl)) trivial (p_end (hK18 _ ?_))))); clear hK18 K18;refine zAg fun K19 hK19 => zAm rfl fun K20 hK20 => zAM (g_e rfl (e_faQ pl6 rfl) (g_e rfl (e_lH (v := .sc _) rfl w_ rfl) (zBd rfl rfl rfl rfl (.cons zAY .nil) hqt.2.2.2.1 (g_e rfl (e_not rfl) (g_mS rfl rfl ?_)))));refine zAw (fun hb21 => ?_) (fun hb21 => ?_)
  ·have hb21R := hb21; try simp only [zz] at hb21
   iterate 2 refine gk_ ?_
   refine zAF rfl rfl rfl (zCO rfl rfl rfl (g_pT rfl rfl rfl (g_aS rfl rfl (g_end (ds := [25, 26, 27, 28]) rfl rfl (hK20 _ ?_))))); clear hK20 K20;refine zAt (t := true) rfl (fun _ => ?_) nofun;refine zAa rfl fun K22 hK22 => p_aS rfl (p_end (hK22 _ ?_)); clear hK22 K22;refine zAh (zAc (zAk (zAc (zAk (zAP (zAc (zAk ?_)))))));refine end1 (v := .sc _) rfl ?_;exact out_i (zD2 (by simp only [lM] at *; omega) hinv hd (zKM (by first | exact .inl (by assumption) | exact .inr (by assumption))) (by decide))
  have hb21R := hb21; try simp only [zz] at hb21
  refine g_e rfl (e_faQ pl6 rfl) (g_e rfl (e_lH (v := .sc _) rfl w_ rfl) (zBd rfl rfl rfl rfl (.cons zAY .nil) hqt.2.2.2.2 (g_e rfl (e_not rfl) (g_pF rfl rfl rfl (g_aS rfl rfl (g_end (ds := [25, 26, 27, 28]) rfl rfl (hK20 _ ?_))))))); clear hK20 K20;refine zAt rfl (fun hb23 => ?_) (fun hb23 => ?_)
  ·have hb23R := hb23; try simp only [zz] at hb23
   refine zAa rfl fun K24 hK24 => p_aS rfl (p_end (hK24 _ ?_)); clear hK24 K24;refine zAh (zAc (zAk (zAc (zAk (zAP (zAc (zAk ?_)))))));refine end1 (v := .sc _) rfl ?_;exact out_i (zD2 (by simp only [lM] at *; omega) hinv hd (zKM (by first | exact .inl (by assumption) | exact .inr (by assumption))) (by decide))
  have hb23R := hb23; try simp only [zz] at hb23
  refine zAa rfl fun K25 hK25 => p_e rfl (zAi (v := .map _) rfl) (p_e rfl (e_faQ pl6 rfl) (p_e rfl (e_lH (v := .sc _) rfl w_ rfl) (p_e rfl (zGW (kt := 9) (et := 4) (f := kps) (g := PV.bool) (a := t.name) (l := m) (z := false) zLK zMi rfl rfl (MapAt.keep hihj13_0 (h2_ (rfl))) (by kernel_rfl) (by kernel_rfl) (by first | rfl | kernel_rfl)) (p_aS rfl (p_end (hK25 _ ?_)))))); clear hK25 K25;refine zAt rfl (fun hb26 => ?_) (fun hb26 => ?_)
  ·have hb26R := hb26; try simp only [zz] at hb26
   refine zAa rfl fun K27 hK27 => p_aS rfl (p_end (hK27 _ ?_)); clear hK27 K27;refine zAh (zAc (zAk (zAc (zAk (zAP (zAc (zAk ?_)))))));refine end1 (v := .sc _) rfl ?_;exact out_i (zD2 (by simp only [lM] at *; omega) hinv hd (taskE_5 (by assumption) (by assumption) (by rw [← hsn]; assumption)) (by decide))
  have hb26R := hb26; try simp only [zz] at hb26
  refine zAm rfl fun K28 hK28 => zAM (g_e rfl (e_faQ pl6 rfl) (g_e rfl (e_lH (v := .sc _) rfl w_ rfl) (zBd rfl rfl rfl rfl (.cons zAY (.cons zAY (.cons zAY .nil))) (zHH _ _ _) (g_e rfl (e_not rfl) (g_mS rfl rfl ?_)))));refine zAw (fun hb29 => ?_) (fun hb29 => ?_)
  ·have hb29R := hb29; try simp only [zz] at hb29
   iterate 2 refine gk_ ?_
   refine zAF rfl rfl rfl (zCO rfl rfl rfl (g_pT rfl rfl rfl (g_mS rfl rfl ?_)));iterate 2 refine gk_ ?_
   refine zAF rfl rfl rfl (zCO rfl rfl rfl (g_pT rfl rfl rfl (g_aS rfl rfl (g_end (ds := [41, 42, 43, 44, 47, 48, 49, 50]) rfl rfl (hK28 _ ?_))))); clear hK28 K28;refine zAt (t := true) rfl (fun _ => ?_) nofun;refine zAa rfl fun K30 hK30 => p_aS rfl (p_end (hK30 _ ?_)); clear hK30 K30;refine zAh (zAc (zAk (zAc (zAk (zAP (zAc (zAk ?_)))))));refine end1 (v := .sc _) rfl ?_;exact out_i (zD2 (by simp only [lM] at *; omega) hinv hd (zJi (by assumption) (by assumption) (by rw [← hsn]; assumption) (by unfold rngT; omega)) (by decide))
  have hb29R := hb29; try simp only [zz] at hb29
  refine g_e rfl (e_faQ pl6 rfl) (g_e rfl (e_lH (v := .sc _) rfl w_ rfl) (zBd rfl rfl rfl rfl (.cons zAY (.cons zAY (.cons zAY .nil))) (zHH _ _ _) (g_e rfl (e_not rfl) (g_pF rfl rfl rfl (g_mS rfl rfl ?_)))));refine zAw (fun hb31 => ?_) (fun hb31 => ?_)
  ·have hb31R := hb31; try simp only [zz] at hb31
   iterate 2 refine gk_ ?_
   refine zAF rfl rfl rfl (zCO rfl rfl rfl (g_pT rfl rfl rfl (g_aS rfl rfl (g_end (ds := [41, 42, 43, 44, 47, 48, 49, 50]) rfl rfl (hK28 _ ?_))))); clear hK28 K28;refine zAt (t := true) rfl (fun _ => ?_) nofun;refine zAa rfl fun K32 hK32 => p_aS rfl (p_end (hK32 _ ?_)); clear hK32 K32;refine zAh (zAc (zAk (zAc (zAk (zAP (zAc (zAk ?_)))))));refine end1 (v := .sc _) rfl ?_;exact out_i (zD2 (by simp only [lM] at *; omega) hinv hd (zJi (by assumption) (by assumption) (by rw [← hsn]; assumption) (by unfold rngT; omega)) (by decide))
  have hb31R := hb31; try simp only [zz] at hb31
  refine g_e rfl (e_faQ pl6 rfl) (g_e rfl (e_lH (v := .sc _) rfl w_ rfl) (zBd rfl rfl rfl rfl (.cons zAY (.cons zAY (.cons zAY .nil))) (zHH _ _ _) (g_e rfl (e_not rfl) (g_pF rfl rfl rfl (g_aS rfl rfl (g_end (ds := [41, 42, 43, 44, 47, 48, 49, 50]) rfl rfl (hK28 _ ?_))))))); clear hK28 K28;refine zAt rfl (fun hb33 => ?_) (fun hb33 => ?_)
  ·have hb33R := hb33; try simp only [zz] at hb33
   refine zAa rfl fun K34 hK34 => p_aS rfl (p_end (hK34 _ ?_)); clear hK34 K34;refine zAh (zAc (zAk (zAc (zAk (zAP (zAc (zAk ?_)))))));refine end1 (v := .sc _) rfl ?_;exact out_i (zD2 (by simp only [lM] at *; omega) hinv hd (zJi (by assumption) (by assumption) (by rw [← hsn]; assumption) (by unfold rngT; omega)) (by decide))
  have hb33R := hb33; try simp only [zz] at hb33
  refine zAl (zAj (zAb (hK19 _ ?_))); clear hK19 K19;refine zAf (zAa rfl fun K35 hK35 => p_e rfl (e_faQ pl6 rfl) (p_e rfl (e_lH (v := .lit _ _ _) rfl w_ rfl) (p_e rfl (zAi (v := .lit _ _ _) rfl) (p_e rfl (e_len rfl (by kernel_rfl)) (zBs rfl (.cons zBV (.cons zAY .nil)) (listedC _ _ (by omega) (by simp only [lM]; omega)) (p_aS rfl ?_))))));refine p_end (hK35 _ ?_); clear hK35 K35;refine zAf (zAa rfl fun K36 hK36 => p_mS rfl (p_e rfl (e_ne rfl rfl) (p_end (hK36 _ ?_)))); clear hK36 K36;refine zAe rfl fun K37 hK37 => ⟨fun hb38 => ?_, fun hb38 => ?_⟩
  ·have hb38R := hb38; try simp only [zz] at hb38
   refine zAa rfl fun K39 hK39 => p_mS rfl (p_aS rfl (p_end (hK39 _ ?_))); clear hK39 K39;refine zAh (zAk (zAc (zAk (zAP (zAc (zAk (end1 (v := .sc _) rfl ?_)))))));exact out_i (by simp only [lM] at *; exact zD2 (by omega) hinv hd (zJh (by assumption) (by assumption) (by rw [← hsn]; assumption) (by unfold rngT; omega)) (by assumption))
  have hb38R := hb38; try simp only [zz] at hb38
  refine zAl (zAb (hK37 _ ?_)); clear hK37 K37;refine zAn rfl fun K40 hK40 => p_e rfl (zAi (v := .map _) rfl) (p_e rfl (e_faQ pl6 rfl) (p_e rfl (e_lH (v := .sc _) rfl w_ rfl) (zAQ rfl (zH1 (kt := 9) (et := 4) (f := kps) (g := PV.bool) (a := t.name) (b := true) (l := m) zLK zMi rfl rfl rfl rfl (MapAt.keep hihj13_0 (h2_ (rfl))) (by kernel_rfl)) trivial (p_end (hK40 _ ?_))))); clear hK40 K40;refine zAj (zAb (hK17 _ ?_)); clear hK17 K17;refine zAn rfl fun K41 hK41 => p_e rfl (e_add rfl rfl (by first | omega | (simp only [lM]; omega))) (p_mS rfl (p_end (hK41 _ ?_))); clear hK41 K41;exact zAo ((k + 1, aSet t.name true m)) (by show _ < _; simp only; omega) ⟨rfl, rfl, rfl, rfl, trivial⟩ ⟨rfl, trivial⟩ (by exact ⟨by show _ + 1 ≤ _; omega, by exact tasks_go hinv hd ((zJh (by assumption) (by assumption) (by rw [← hsn]; assumption) (by unfold rngT; omega)).symm.trans (by simp only [lM] at *; assumption)), by exact hsn.step ht, (MapAt.set zLK (MapAt.keep hihj13_0 (h2_ (rfl))) t.name true)⟩)
 have hb16R := hb16; try simp only [zz] at hb16
 have hT := tasks_all hinv (by simp only [lM] at *; omega);refine zAJ (zAK ?_);clear hK15 K15;refine zAC (zAA (zAb (hK8 _ ?_))); clear hK8 K8;refine zAf (zAa rfl fun K42 hK42 => p_e rfl (zAi (v := .lit _ _ _) rfl) (zBs rfl (.cons zBV .nil) (zKQ _ (by omega) (fun x hx => (hq x hx).1) (zJf hT)) (p_e rfl (zAi (v := .tup _) rfl) (p_e rfl (e_ext (v := .lit _ _ _) rfl (by simp) rfl) (p_e rfl (e_ext (v := .sc _) rfl (by simp) rfl) (p_e rfl (zAs (v := .lit _ _ _) rfl) ?_))))));refine p_aS rfl (p_end (hK42 _ ?_)); clear hK42 K42;refine zAf (zAa rfl fun K43 hK43 => p_mS rfl (p_e rfl (e_ne rfl rfl) (p_end (hK43 _ ?_)))); clear hK43 K43;refine zAe rfl fun K44 hK44 => ⟨fun hb45 => ?_, fun hb45 => ?_⟩
 ·have hb45R := hb45; try simp only [zz] at hb45
  refine zAa rfl fun K46 hK46 => p_mS rfl (p_aS rfl (p_end (hK46 _ ?_))); clear hK46 K46;refine zAh (zAk (end1 (v := .sc _) rfl ?_));exact out_i (zK3 (by simp only [lM] at *; omega) hT)
 have hb45R := hb45; try simp only [zz] at hb45
 refine zAl (zAb (hK44 _ ?_)); clear hK44 K44;refine zAa rfl fun K47 hK47 => p_aS rfl (p_end (hK47 _ ?_)); clear hK47 K47;refine zAh (end1 (v := .sc _) rfl ?_);exact out_i ((by simp_all : (0 : Int) = (srtR (ndX xs)).2).trans (zK3 (by simp only [lM] at *; omega) hT))
end Go.Proofs.YtnbcmoaofmkjhaaGreatDoor.E7
