import Derived.Test.YtnbcmoaofmkjhaaGreatDoorJ14
set_option linter.unusedSimpArgs false
set_option linter.unusedVariables false
set_option maxRecDepth 100000
namespace Go.Proofs.YtnbcmoaofmkjhaaGreatDoor.E7
open Go Go.Pv Go.Proofs.YtnbcmoaofmkjhaaGreatDoor
section
variable {P : Program} {K : PS → Prop} {d d2 : Nat} {t : TypeId} {ty ty2 : TypeId} {pos pos2 : String} {aft aft2 : Array Edge} {gd gd2 : Option (Nat × Bool)} {rest : List Oper} {r : Nat → PV} {h : Heap} {cnt : Nat → Nat} {x y : Operand}
theorem p_renK (e : Nat) {k : Key} {sz n : Nat} {rows : Pv.Rows} (hx : ev r x = .ref k sz 0 n) (hg : h k = some (.rows sz rows))
   (hk : pOps P K rest ⟨setT r d (.ref (e, cnt e) sz 0 n), fun k' => if k' = (e, cnt e) then some (.rows sz rows) else if k' = k then none else h k', cset cnt e⟩) : pOps P K (⟨some d, .assign x, ty, pos, aft, gd⟩ :: rest) ⟨r, h, cnt⟩ := by
 unfold pOps;refine .inr (.inr (.inl ⟨x, d, e, k, sz, n, rows, rfl, rfl, hx, hg, ?_⟩));rw [zBg];exact hk
theorem p_appE (e : Nat) (hde : Nat.beq e d = false) {ts : Array TypeId} {t2 : TypeId} {u u2 : PV} {sz d1 : Nat} {rows rows2 : Pv.Rows} (hts : ts.toList = [t, t2]) (hx : ev r x = u) (hy : ev r y = u2) (hs : zAq h d1 u sz rows) (hsr : (zAU h sz u2).1 ∧ (zAU h sz u2).2.1 = rows2)
   (hok : (zAN P t && (decide (P.bytesOf (zAu P t) < 2 ^ 15) && (decide (zBm P t2 = none) && (zEg P (zAu P t) && ((P.underlying t2).isSome && decide (zAr P (zAu P t) = sz)))))) = true) (hlen : rows.length + rows2.length < 2 ^ 32) (hne : rows2 ≠ [])
   (hk : ∀ h', h' (e, cnt e) = some (.rows sz (rows ++ rows2)) → (∀ k' : Key, k' ≠ (e, cnt e) → k' ≠ (d, cnt d) → (∀ g, u = .ref (d1, g) sz 0 rows.length → k' ≠ (d1, g)) → h' k' = h k') → pOps P K rest ⟨setT (setT r d (.ref (d, cnt d) sz 0 (rows.length + rows2.length))) d2 (.ref (e, cnt e) sz 0 (rows.length + rows2.length)), h', cset (cset cnt d) e⟩) :
   pOps P K (⟨some d, .call { callee := .builtin .append, args := #[x, y], argTypes := ts }, ty, pos, aft, gd⟩ :: ⟨some d2, .assign (.tmp d), ty2, pos2, aft2, gd2⟩ :: rest) ⟨r, h, cnt⟩ := by
 refine zFW hts hx hy hs hsr hok hlen hne fun h1 hr1 hf1 => ?_
 have hce : cset cnt d e = cnt e := by
   unfold cset;rw [if_neg]
   rintro rfl; simp at hde
 refine p_renK e (x := .tmp d) (sz := sz) (n := rows.length + rows2.length) (k := (d, cnt d)) (rows := rows ++ rows2) (by simp [ev, setT]) hr1 ?_;rw [hce];refine hk _ (if_pos rfl) fun k' q1 q2 q3 => ?_;show (if _ then _ else if _ then _ else _) = _;rw [if_neg q1, if_neg q2, hf1 k' q2 q3]
end
theorem sl_pc {h : Heap} {d sz : Nat} {v : PV} {rows : Pv.Rows} (hs : zAq h d v sz rows) : zBf v = [v] ∧ (zBf v).all PV.cell = true := by
 rcases hs with ⟨_, rfl⟩ | ⟨g, rfl, _⟩ <;> exact ⟨rfl, rfl⟩
theorem NL.len {ρ : Operand → PV} {h : Heap} {key : Key} {u : PV} {l : List Int} {x : Operand} {t2 : TypeId} (hs : NL u l) (hx : ρ x = u) (ht : zAN Tryz.prog t2 = true) : eff Tryz.prog ρ h key (.call { callee := .builtin .len, args := #[x], argTypes := #[t2] }) = ⟨True, .int (((l.map ci).length : Nat) : Int), [], [], false⟩ := by
 rcases hs with ⟨rfl, rfl⟩ | rfl
 · exact zLQ hx ht
 · exact e_len hx ht
theorem NL.lit {u : PV} {l : List Int} (hs : NL u l) (h : 0 < l.length) : u = .lit false 1 (l.map ci) := by
 rcases hs with ⟨_, rfl⟩ | rfl
 · cases h
 · rfl
def mG (s : Scaffold) (z : Int) : Member := s.members.getD z.toNat default
theorem mG_at {s : Scaffold} {z : Int} (h : 0 ≤ z ∧ z < (s.members.length : Int)) : s.members[z.toNat]? = some (mG s z) := by
 rw [mG, List.getD_eq_getElem?_getD, List.getElem?_eq_getElem (by omega)]; rfl
def pA (s : Scaffold) (m : Member) (z : Int) : Bool := decide (zA s (mG s z).a ≤ zA s m.a)
def pB (s : Scaffold) (m : Member) (z : Int) : Bool := decide (zA s (mG s z).a < zA s m.a)
theorem ft_t {p : Int → Bool} {l : List Int} {j : Nat} {z : Int} (hz : l[j]? = some z) (h : p z = true) : (l.take j).filter p ++ [z] = (l.take (j + 1)).filter p := by
 rw [List.take_add_one, hz, List.filter_append];simp [h]
theorem ft_f {p : Int → Bool} {l : List Int} {j : Nat} {z : Int} (hz : l[j]? = some z) (h : p z = false) : (l.take j).filter p = (l.take (j + 1)).filter p := by
 rw [List.take_add_one, hz, List.filter_append];simp [h]
theorem zI6 {p : Int → Bool} {l : List Int} {j : Nat} : ((l.take j).filter p).length ≤ l.length := Nat.le_trans (List.length_filter_le _ _) (by rw [List.length_take]; omega)
theorem innS {h : Heap} {k : Key} {d1 : Nat} {v : PV} {A : List Int} {ls : List (List Int)} {rs : Pv.Rows} (hk : h k = some (.rows 1 rs)) (hv : zAq h d1 v 1 (A.map ci)) (hrs : rs = [v] :: ls.map fun l => [.lit false 1 (l.map ci)]) : ∃ ks, InnsX h ks [.ref k 1 0 (ls.length + 1)] [.lit true 1 ((A :: ls).map cl)] := by
 subst hrs
 have hin : Inn0 h v (.lit true 1 (A.map ci)) := by
   rcases hv with ⟨h1, rfl⟩ | ⟨g, rfl, hg⟩
   · rw [h1]; exact .nil _ _
   · exact .ref hg (by omega) (by rw [List.drop_zero, List.take_length]) fun row hr => zBo zDn row hr
 refine ⟨k :: Go.Pv.keyOf v, .cons (.rows hk List.mem_cons_self (by simp) (by simp) fun i row row' h1 h2 => ?_) .nil⟩
 match i with
 | 0 =>
   cases h1; cases h2;refine ⟨rfl, fun j p q h3 h4 => ?_⟩
   match j with
   | 0 => cases h3; cases h4; exact ⟨hin, .lit _ _ _ (fun row hr => zBo zDn row hr), rfl, fun k hk => List.mem_cons_of_mem _ hk⟩
   | j + 1 => cases h3
 | i + 1 =>
   rw [List.getElem?_cons_succ, List.getElem?_map, Option.map_eq_some_iff] at h1;rw [List.map_cons, List.getElem?_cons_succ, List.getElem?_map, Option.map_eq_some_iff] at h2;obtain ⟨l, g1, rfl⟩ := h1;obtain ⟨l', g2, rfl⟩ := h2;rw [g1] at g2; cases g2;refine ⟨rfl, fun j p q h3 h4 => ?_⟩
   match j with
   | 0 => cases h3; cases h4; exact ⟨.lit (fun h => (by cases h)), .lit _ _ _ (fun row hr => zBo zDn row hr), rfl, fun k hk => (by cases hk)⟩
   | j + 1 => cases h3
theorem OldK.ap2 {c0 c : Nat → Nat} {h0 h h1 : Heap} {d e d1 sz n : Nat} {u : PV} (ho : OldK c0 h0 h) (hc : CLe c0 c) (hv : VN c0 u) (hf : ∀ k' : Key, k' ≠ (e, c e) → k' ≠ (d, c d) → (∀ g, u = .ref (d1, g) sz 0 n → k' ≠ (d1, g)) → h1 k' = h k') : OldK c0 h0 h1 := fun k hk => by
 rw [hf k (fun e => ?_) (fun e => ?_) (fun g e1 e => ?_), ho k hk]
 · subst e; exact absurd hk (Nat.not_lt.2 (hc _))
 · subst e; exact absurd hk (Nat.not_lt.2 (hc _))
 · subst e; exact absurd hk (Nat.not_lt.2 (hv _ _ _ _ e1))
def StQ (s : Scaffold) (m : Member) (hl le lm lq rl : List Int) (z : Int) : Prop := (z ∈ hl ∧ pA s m z = true) ∨ (0 < le.length ∧ (z ∈ le ∨ z ∈ lm ∨ z ∈ lq)) ∨ (z ∈ rl ∧ pB s m z = true)
theorem st_t {s : Scaffold} {m : Member} {hl le lm lq rl : List Int} {j k : Nat} (hj : j = hl.length) (hk : k = rl.length) (h : 0 < le.length) (z : Int) : z ∈ [(hl.take j).filter (pA s m), le, lm, lq].flatten ++ (rl.take k).filter (pB s m) ↔ StQ s m hl le lm lq rl z := by
 subst hj; subst hk;simp only [List.take_length, List.flatten_cons, List.flatten_nil, List.append_nil, List.mem_append, List.mem_filter, StQ, h, true_and, or_assoc]
theorem st_f {s : Scaffold} {m : Member} {hl le lm lq rl : List Int} {j k : Nat} (hj : j = hl.length) (hk : k = rl.length) (h : ¬ 0 < le.length) (z : Int) : z ∈ (hl.take j).filter (pA s m) ++ (rl.take k).filter (pB s m) ↔ StQ s m hl le lm lq rl z := by
 subst hj; subst hk;simp only [List.take_length, List.mem_append, List.mem_filter, StQ, h, false_and, false_or]
theorem zFl {p : Int → Bool} {A l : List Int} {j : Nat} {z : Int} (hz : l[j]? = some z) (h : p z = true) : (A ++ (l.take j).filter p) ++ [z] = A ++ (l.take (j + 1)).filter p := by
 rw [List.append_assoc, ft_t hz h]
theorem standardH (h0 : Heap) (c0 : Nat → Nat) (s : Scaffold) (q gh gl : Nat) (xe xb xm xr : List (List Int)) (hF : h0 (31, q) = some (.rows 8 [frow s (fzX xe xb xm xr gh gl)])) (m : Member) (lh lr : List ((Int × Int) × PV)) (hl le lm lq rl : List Int) (hm1 : MapAt h0 (28, gh) (zBb kl id lh)) (hm2 : MapAt h0 (29, gl) (zBb kl id lr)) (hn1 : NL ((aGet (lnA s m.a) lh).getD .nil) hl) (hn2 : NL ((aGet (lnA s m.a) lr).getD .nil) rl) (hhr : ∀ z ∈ hl, 0 ≤ z ∧ z < (s.members.length : Int)) (hrr : ∀ z ∈ rl, 0 ≤ z ∧ z < (s.members.length : Int)) (hxe : xe.length = s.nodes.length) (hxm : xm.length = s.nodes.length) (hxr : xr.length = s.nodes.length) (hle : xe[m.a.toNat]? = some le) (hlm : xm[m.a.toNat]? = some lm) (hlq : xr[m.a.toNat]? = some lq) (hll : hl.length ≤ 80 ∧ rl.length ≤ 80 ∧ le.length ≤ 80 ∧ lm.length ≤ 80 ∧ lq.length ≤ 80) (hgh : gh < c0 28) (hgl : gl < c0 29) (hq : q < c0 31) (hsc : scfE s = 0) (hs2 : s.members.length ≤ 40) (hma : 0 ≤ m.a ∧ m.a < (s.nodes.length : Int)) (hmb : 0 ≤ m.b ∧ m.b < (s.nodes.length : Int)) : zAy Tryz.prog 57 [.ptr (31, q) 8 0 0, .agg m.enc] h0 c0 (fun v h' _ => ∃ xs, zFb c0 xs v h' ∧ OldK c0 h0 h' ∧ xs.length ≤ 1000 ∧ ∀ z, z ∈ xs ↔ StQ s m hl le lm lq rl z) := by
 refine hco Tryz.func57 rfl rfl ?_;obtain ⟨bs1, clk1, hM1, hx1⟩ := hm1;obtain ⟨bs2, clk2, hM2, hx2⟩ := hm2;have hc3 : c0 3 < cset c0 3 3 := by simp [cset]
 refine zAa rfl fun K1 hK1 => p_new rfl (e_box (n := 3) rfl rfl) ⟨rfl, by decide⟩ (p_e rfl (zAs (v := .nil) rfl) (p_end (hK1 _ ?_)));refine zAa rfl fun K2 hK2 => p_e rfl (zAs (v := .nil) rfl) (p_end (hK2 _ ?_));refine zAf (zB9 rfl fun hkn K3 hK3 => zA0 (s_e rfl (zAi (v := .ptr (31, q) 8 0 0) rfl) (s_e rfl (zBe rfl) (s_e rfl (e_faQ plF rfl) (s_eR [31] rfl (e_lH (v := .map (28, gh)) rfl (h1_ hF) rfl) (s_e rfl (zAi (v := .ptr (31, q) 8 0 0) rfl) ?_))))));refine s_e rfl (e_faQ pl3 rfl) (s_eR [3] rfl (e_lH (v := .sc _) rfl w_ rfl) (zBr [(31, q)] [31] (by simp) rfl rfl rfl rfl (fun h' hh c' => lineM h' c' s q m.a _ ((hh _ (by simp)).trans (h1_ hF)) hma) (s_eR [28] rfl (zGW (kt := 87) (et := 33) (f := kl) (g := id) (a := (lnA s m.a)) (l := lh) (z := .nil) kl_eq kl_ok rfl rfl ⟨_, _, (h1_ hM1), hx1⟩ (by kernel_rfl) (by kernel_rfl) (by first | rfl | kernel_rfl)) (s_e rfl (NL.len hn1 rfl (by kernel_rfl)) (s_e rfl (zAi (v := .sc _) rfl) (s_end (ds := []) (by kernel_rfl) (by kernel_rfl) (hK3 _ ?_)))))));refine zAg fun K4 hK4 => ?_;refine zAE (α := Nat × PV) [0, 3, 19, 20] (fun (a5 : Nat × PV) => [(5, (a5.2)), (21, .int (a5.1))]) (fun (a5 : Nat × PV) (h : Heap) (c : Nat → Nat) => ((a5.1) ≤ hl.length) ∧ (OldK c0 h0 h) ∧ (VN c0 (a5.2)) ∧ (CLe c0 c) ∧ (CLe (cset c0 3) c) ∧ (zAq h 110 (a5.2) 1 (((hl.take (a5.1)).filter (pA s m)).map ci)) ∧ (h (31, q) = some (.rows 8 [frow s (fzX xe xb xm xr gh gl)])) ∧ (h (3, c0 3) = some (.rows 3 [Member.enc m])) ∧ (h (28, gh) = some (.map (zBb kl id lh) bs1 clk1)) ∧ (h (29, gl) = some (.map (zBb kl id lr) bs2 clk2))) (fun (a5 : Nat × PV) => hl.length - (a5.1)) (0, .nil) (by exact ⟨rfl, rfl, trivial⟩) (by exact ⟨by exact Nat.zero_le _, by exact (by repeat (first | exact OldK.refl | refine OldK.set ?_ (by repeat (first | exact CLe.refl _ | apply CLe.set)))), by exact VN.nil, by exact (by repeat (first | exact CLe.refl _ | apply CLe.set)), by exact CLe.refl _, .nil, (h1_ hF), w_, (h1_ hM1), (h1_ hM2)⟩) fun a5 r6 h7 c8 hj9 => ?_;obtain ⟨j, v⟩ := a5;obtain ⟨hj, hold, hvn, hcle, hcl3, hihj9_0, hihj9_1, hihj9_2, hihj9_3, hihj9_4⟩ := hj9;try dsimp only at hj
 try dsimp only at hold
 try dsimp only at hvn
 try dsimp only at hcle
 try dsimp only at hcl3
 try dsimp only at hihj9_0
 try dsimp only at hihj9_1
 try dsimp only at hihj9_2
 try dsimp only at hihj9_3
 try dsimp only at hihj9_4
 show pwp _ _ (loopQ _ _ _) ⟨sets (mix _ _ _) [(5, v), (21, .int j)], _, _⟩;refine zAa rfl fun K10 hK10 => p_e rfl (e_lt rfl rfl) (p_end (hK10 _ ?_));refine zAe rfl fun K11 hK11 => ⟨fun hb12 => ?_, fun hb12 => ?_⟩
 ·have hb12R := hb12; try simp only [zz] at hb12
  have hjl : j < hl.length := by simp only [lM] at *; omega
  obtain ⟨z, hz⟩ : ∃ z, hl[j]? = some z := ⟨_, List.getElem?_eq_getElem hjl⟩
  have hzr := hhr z (List.mem_of_getElem? hz);have hy := mG_at hzr;obtain ⟨hza, hzb⟩ := zDj hsc hy;have hul := NL.lit hn1 (Nat.lt_of_le_of_lt (Nat.zero_le _) hjl);have hfl := zI6 (p := pA s m) (l := hl) (j := j);refine zAl (zAb (hK11 _ ?_));refine zAg fun K13 hK13 => zAa rfl fun K14 hK14 => p_e rfl (e_ixa (i := (j : Int)) hul rfl (by kernel_rfl) (by kernel_rfl) (by simp only [lM]; omega)) (p_e rfl (zBD (v := .int z) rfl (by kernel_rfl) (by kernel_rfl) (by kernel_rfl) (by simp only [lM]; omega) (by decide) ((zAV hz _).trans rfl)) (p_aS rfl (p_end (hK14 _ ?_))));refine zAm rfl fun K15 hK15 => zA0 (s_e rfl (zAi (v := .ptr _ _ _ _) rfl) (s_e rfl (zAi (v := .ptr _ _ _ _) rfl) (s_e rfl (zBe rfl) (s_e rfl (e_faQ plF rfl) (s_e rfl (e_faQ pl2 rfl) (s_eR [31] rfl (e_lH (v := .lit _ _ _) rfl hihj9_1 rfl) ?_))))));refine s_e rfl (zAi (v := .sc _) rfl) (s_e rfl (e_ixL rfl rfl) (s_e rfl (e_fb pl3 rfl) (s_e rfl (e_lL (v := .sc _) rfl ((zAV hy _).trans rfl)) (zBr [(31, q)] [31] (by simp) rfl rfl rfl rfl (fun h' hh c' => zM h' c' s q (mG s z).a _ ((hh _ (by simp)).trans hihj9_1) hza) (s_e rfl (zAi (v := .ptr _ _ _ _) rfl) (s_e rfl (e_faQ pl3 rfl) (s_eR [3] rfl (e_lH (v := .sc _) rfl hihj9_2 rfl) ?_)))))));refine zBr [(31, q)] [31] (by simp) rfl rfl rfl rfl (fun h' hh c' => zM h' c' s q m.a _ ((hh _ (by simp)).trans hihj9_1) hma) (s_e rfl (e_le rfl rfl) (s_end (ds := []) (by kernel_rfl) (by kernel_rfl) (hK15 _ ?_)));refine zAt rfl (fun hb16 => ?_) (fun hb16 => ?_)
  ·have hb16T := hb16; try simp only [zz] at hb16
   refine zBZ rfl fun hkn K17 hK17 => p_e rfl (zAi (v := v) rfl) (p_mS rfl (p_new rfl (e_b1 z) trivial (p_appE 110 rfl (u := v) (sz := 1) (d1 := 110) (rows := ((hl.take j).filter (pA s m)).map ci) (rows2 := [ci z]) rfl rfl rfl (hihj9_0.keep fun g => zAp (zAv rfl)) (zCq w_ rfl) (by kernel_rfl) (by simp only [List.length_append, lM, List.length_cons, List.length_nil, List.flatten_cons, List.flatten_nil]; omega) (by simp) fun h1 hr1 hf1 => ?_)));have ho31 := (hf1 (31, q) (zAv rfl) (zAv rfl) (fun _ _ => zAv rfl)).trans (h1_ hihj9_1);have ho3 := (hf1 (3, _) (zAv rfl) (zAv rfl) (fun _ _ => zAv rfl)).trans (h1_ hihj9_2);have ho28 := (hf1 (28, gh) (zAv rfl) (zAv rfl) (fun _ _ => zAv rfl)).trans (h1_ hihj9_3);have ho29 := (hf1 (29, gl) (zAv rfl) (zAv rfl) (fun _ _ => zAv rfl)).trans (h1_ hihj9_4);have hO1 := OldK.ap2 (h0 := h0) (by repeat (first | exact hold | refine OldK.set ?_ (by repeat (first | exact hcle | apply CLe.set)))) (by repeat (first | exact hcle | apply CLe.set)) hvn hf1;have hn1 : zAq h1 110 (.ref (110, _) 1 0 ((((hl.take j).filter (pA s m)).map ci).length + [ci z].length)) 1 (((hl.take (j + 1)).filter (pA s m)).map ci) := .inr ⟨_, congrArg (PV.ref _ 1 0) (by rw [← ft_t hz (decide_eq_true (by omega))]; simp only [lM, List.length_append, List.length_cons, List.length_nil]), hr1.trans (by rw [← ft_t hz (decide_eq_true (by omega))]; simp only [List.map_append]; rfl)⟩;refine p_end (hK17 _ ?_);refine zAj (zAb (hK13 _ ?_));refine zAn rfl fun K18 hK18 => p_e rfl (e_adL rfl rfl) (p_mS rfl (p_end (hK18 _ ?_)));exact zAo ((j + 1, _)) (by show _ < _; simp only; omega) ⟨rfl, rfl, rfl, rfl, trivial⟩ ⟨rfl, rfl, trivial⟩ (by exact ⟨by show _ + 1 ≤ _; omega, by first | exact hO1 | (repeat (first | exact hold | refine OldK.set ?_ (by repeat (first | exact hcle | apply CLe.set)))), by first | exact VN.new (by repeat (first | exact hcle | apply CLe.set)) | exact hvn, by exact (by repeat (first | exact hcle | apply CLe.set)), by exact (by repeat (first | exact hcl3 | apply CLe.set)), (zAq.to hn1 (by first | rfl | (rw [← ft_f hz (decide_eq_false (by omega))]))), ho31, ho3, ho28, ho29⟩)
  have hb16F := hb16; try simp only [zz] at hb16
  refine zAl (zAj (zAb (hK13 _ ?_)));refine zAn rfl fun K19 hK19 => p_e rfl (e_adL rfl rfl) (p_mS rfl (p_end (hK19 _ ?_)));exact zAo ((j + 1, v)) (by show _ < _; simp only; omega) ⟨rfl, rfl, rfl, rfl, trivial⟩ ⟨rfl, rfl, trivial⟩ (by exact ⟨by show _ + 1 ≤ _; omega, by first | exact hO1 | (repeat (first | exact hold | refine OldK.set ?_ (by repeat (first | exact hcle | apply CLe.set)))), by first | exact VN.new (by repeat (first | exact hcle | apply CLe.set)) | exact hvn, by exact (by repeat (first | exact hcle | apply CLe.set)), by exact (by repeat (first | exact hcl3 | apply CLe.set)), (zAq.to hihj9_0 (by first | rfl | (rw [← ft_f hz (decide_eq_false (by omega))]))), hihj9_1, hihj9_2, hihj9_3, hihj9_4⟩)
 have hb12R := hb12; try simp only [zz] at hb12
 have hj1 : j = hl.length := by simp only [lM] at *; omega
 have hfl := zI6 (p := pA s m) (l := hl) (j := j);refine zAJ (zAK ?_);clear hK11 K11;refine zAC (zAA (zAb (hK4 _ ?_)));refine zAf (zAm rfl fun K20 hK20 => zAM (g_e rfl (zAi (v := .ptr _ _ _ _) rfl) (g_e rfl (zBe rfl) (g_e rfl (e_faQ plF rfl) (g_e rfl (e_lH (v := .lit _ _ _) rfl hihj9_1 rfl) (g_e rfl (e_faQ pl3 rfl) ?_))))));refine g_e rfl (e_lH (v := .sc _) rfl hihj9_2 rfl) (g_e rfl (e_ixL rfl rfl) (g_e rfl (e_lL (v := .lit _ _ _) rfl ((zAV hle _).trans rfl)) (g_e rfl (zAs (v := .lit _ _ _) rfl) (g_end (ds := []) (by kernel_rfl) rfl (hK20 _ ?_)))));refine zAf (zAa rfl fun K21 hK21 => p_e rfl (zAi (v := .lit _ _ _) rfl) (p_e rfl (e_len rfl (by kernel_rfl)) (p_e rfl (e_gt rfl rfl) (p_end (hK21 _ ?_)))));refine zAe rfl fun K22 hK22 => ⟨fun hb23 => ?_, fun hb23 => ?_⟩
 ·have hb23T := hb23; try simp only [zz] at hb23
  refine zBw rfl fun K24 hK24 => zA0 (s_e rfl (zAi (v := _) rfl) (s_e rfl (zAi (v := .lit _ _ _) rfl) (s_e rfl (zAi (v := .ptr _ _ _ _) rfl) (s_e rfl (zBe rfl) (s_e rfl (e_faQ plF rfl) (s_eR [31] rfl (e_lH (v := .lit _ _ _) rfl hihj9_1 rfl) ?_))))));refine s_e rfl (e_faQ pl3 rfl) (s_eR [3] rfl (e_lH (v := .sc _) rfl hihj9_2 rfl) (s_e rfl (e_ixL rfl rfl) (s_e rfl (e_lL (v := .lit _ _ _) rfl ((zAV hlm _).trans rfl)) (s_e rfl (zAi (v := .ptr _ _ _ _) rfl) (s_e rfl (zBe rfl) (s_e rfl (e_faQ plF rfl) (s_eR [31] rfl (e_lH (v := .lit _ _ _) rfl hihj9_1 rfl) ?_)))))));refine s_e rfl (e_faQ pl3 rfl) (s_eR [3] rfl (e_lH (v := .sc _) rfl hihj9_2 rfl) (s_e rfl (e_ixL rfl rfl) (s_e rfl (e_lL (v := .lit _ _ _) rfl ((zAV hlq _).trans rfl)) ?_)));obtain ⟨hpc, hpa⟩ := sl_pc hihj9_0;refine s_new [] (by simp) rfl rfl rfl rfl (zB4 (ps := [(0, v), (1, .lit false 1 (le.map ci)), (2, .lit false 1 (lm.map ci)), (3, .lit false 1 (lq.map ci))]) (rows := [[v], [.lit false 1 (le.map ci)], [.lit false 1 (lm.map ci)], [.lit false 1 (lq.map ci)]]) (zs := [.nil]) (sz := 1) (by kernel_rfl) (by kernel_rfl) rfl (by kernel_rfl) (by decide) rfl rfl ⟨by decide, by rw [hpc]; rfl, hpa, by decide, rfl, rfl, by decide, rfl, rfl, by decide, rfl, rfl, trivial⟩ (by show zCP [[.nil], [.nil], [.nil], [.nil]] _ = _; simp only [zCP, hpc]; rfl)) trivial (zFo (by kernel_rfl) rfl rfl rfl rfl (match innS (A := ((hl.take j).filter (pA s m))) (ls := [le, lm, lq]) (d1 := 110) w_ (hihj9_0.keep fun g => zAp (zAv rfl)) rfl with | ⟨_, hin⟩ => zHB 110 (ls := [((hl.take j).filter (pA s m)), le, lm, lq]) (by simp) (by simp only [List.flatten_cons, List.flatten_nil, List.append_nil, List.length_append]; omega) hin) fun v76 h76 c76 hR76 => ?_);obtain ⟨hs76, hv76, ho76, hc76⟩ := hR76;have hold76 := OldK.trans (c0 := c0) (h0 := h0) (by repeat (first | exact hold | refine OldK.set ?_ (by repeat (first | exact hcle | apply CLe.set)))) (by repeat (first | exact hcle | apply CLe.set)) ho76;have hvn76 := hv76.mono (c0 := c0) (by repeat (first | exact hcle | apply CLe.set));have hcle76 := CLe.trans (c0 := c0) (by repeat (first | exact hcle | apply CLe.set)) hc76;have hy31 := (ho76 (31, q) (Nat.lt_of_lt_of_le hq ((show CLe _ _ from (by repeat (first | exact hcle | apply CLe.set))) _))).trans (h1_ hihj9_1);have hy28 := (ho76 (28, gh) (Nat.lt_of_lt_of_le hgh ((show CLe _ _ from (by repeat (first | exact hcle | apply CLe.set))) _))).trans (h1_ hihj9_3);have hy29 := (ho76 (29, gl) (Nat.lt_of_lt_of_le hgl ((show CLe _ _ from (by repeat (first | exact hcle | apply CLe.set))) _))).trans (h1_ hihj9_4);have hy3 := (ho76 (3, c0 3) (Nat.lt_of_lt_of_le hc3 ((show CLe _ _ from (by repeat (first | exact hcl3 | apply CLe.set))) _))).trans (h1_ hihj9_2);have hold := hold76;have hvn := hvn76;have hcle := hcle76;refine s_e rfl (zAs (v := _) rfl) (s_end (ds := []) (by kernel_rfl) (by kernel_rfl) (hK24 _ ?_));refine zAb (hK22 _ ?_);refine zAf (zB9 rfl fun hkn K25 hK25 => zA0 (s_e rfl (zAi (v := .ptr (31, q) 8 0 0) rfl) (s_e rfl (zBe rfl) (s_e rfl (e_faQ plF rfl) (s_eR [31] rfl (e_lH (v := .map (29, gl)) rfl hy31 rfl) (s_e rfl (zAi (v := .ptr (31, q) 8 0 0) rfl) ?_))))));refine s_e rfl (e_faQ pl3 rfl) (s_eR [3] rfl (e_lH (v := .sc _) rfl hy3 rfl) (zBr [(31, q)] [31] (by simp) rfl rfl rfl rfl (fun h' hh c' => lineM h' c' s q m.a _ ((hh _ (by simp)).trans hy31) hma) (s_eR [29] rfl (zGW (kt := 87) (et := 33) (f := kl) (g := id) (a := (lnA s m.a)) (l := lr) (z := .nil) kl_eq kl_ok rfl rfl ⟨_, _, hy29, hx2⟩ (by kernel_rfl) (by kernel_rfl) (by first | rfl | kernel_rfl)) (s_e rfl (NL.len hn2 rfl (by kernel_rfl)) (s_e rfl (zAi (v := .sc _) rfl) (s_end (ds := []) (by kernel_rfl) (by kernel_rfl) (hK25 _ ?_)))))));refine zAg fun K26 hK26 => zAE (α := Nat × PV) [0, 3, 85, 86] (fun (a27 : Nat × PV) => [(5, (a27.2)), (87, .int (a27.1))]) (fun (a27 : Nat × PV) (h : Heap) (c : Nat → Nat) => ((a27.1) ≤ rl.length) ∧ (OldK c0 h0 h) ∧ (VN c0 (a27.2)) ∧ (CLe c0 c) ∧ (zAq h 110 (a27.2) 1 (([((hl.take j).filter (pA s m)), le, lm, lq].flatten ++ (rl.take (a27.1)).filter (pB s m)).map ci)) ∧ (h (31, q) = some (.rows 8 [frow s (fzX xe xb xm xr gh gl)])) ∧ (h (3, c0 3) = some (.rows 3 [Member.enc m])) ∧ (h (28, gh) = some (.map (zBb kl id lh) bs1 clk1)) ∧ (h (29, gl) = some (.map (zBb kl id lr) bs2 clk2))) (fun (a27 : Nat × PV) => rl.length - (a27.1)) (0, v76) (by exact ⟨rfl, rfl, trivial⟩) (by exact ⟨by exact Nat.zero_le _, by exact hold, by exact hvn, by exact hcle, (zAq.to hs76 (by simp)), hy31, hy3, hy28, hy29⟩) fun a27 r28 h29 c30 hj31 => ?_;obtain ⟨k, v⟩ := a27;obtain ⟨hk, hold, hvn, hcle, hihj31_0, hihj31_1, hihj31_2, hihj31_3, hihj31_4⟩ := hj31;try dsimp only at hk
  try dsimp only at hold
  try dsimp only at hvn
  try dsimp only at hcle
  try dsimp only at hihj31_0
  try dsimp only at hihj31_1
  try dsimp only at hihj31_2
  try dsimp only at hihj31_3
  try dsimp only at hihj31_4
  show pwp _ _ (loopQ _ _ _) ⟨sets (mix _ _ _) [(5, v), (87, .int k)], _, _⟩;refine zAa rfl fun K32 hK32 => p_e rfl (e_lt rfl rfl) (p_end (hK32 _ ?_));refine zAe rfl fun K33 hK33 => ⟨fun hb34 => ?_, fun hb34 => ?_⟩
  ·have hb34R := hb34; try simp only [zz] at hb34
   have hjl : k < rl.length := by simp only [lM] at *; omega
   obtain ⟨z, hz⟩ : ∃ z, rl[k]? = some z := ⟨_, List.getElem?_eq_getElem hjl⟩
   have hzr := hrr z (List.mem_of_getElem? hz);have hy := mG_at hzr;obtain ⟨hza, hzb⟩ := zDj hsc hy;have hul := NL.lit hn2 (Nat.lt_of_le_of_lt (Nat.zero_le _) hjl);have hfk := zI6 (p := pB s m) (l := rl) (j := k);refine zAl (zAb (hK33 _ ?_));refine zAg fun K35 hK35 => zAa rfl fun K36 hK36 => p_e rfl (e_ixa (i := (k : Int)) hul rfl (by kernel_rfl) (by kernel_rfl) (by simp only [lM]; omega)) (p_e rfl (zBD (v := .int z) rfl (by kernel_rfl) (by kernel_rfl) (by kernel_rfl) (by simp only [lM]; omega) (by decide) ((zAV hz _).trans rfl)) (p_aS rfl (p_end (hK36 _ ?_))));refine zAm rfl fun K37 hK37 => zA0 (s_e rfl (zAi (v := .ptr _ _ _ _) rfl) (s_e rfl (zAi (v := .ptr _ _ _ _) rfl) (s_e rfl (zBe rfl) (s_e rfl (e_faQ plF rfl) (s_e rfl (e_faQ pl2 rfl) (s_eR [31] rfl (e_lH (v := .lit _ _ _) rfl hihj31_1 rfl) ?_))))));refine s_e rfl (zAi (v := .sc _) rfl) (s_e rfl (e_ixL rfl rfl) (s_e rfl (e_fb pl3 rfl) (s_e rfl (e_lL (v := .sc _) rfl ((zAV hy _).trans rfl)) (zBr [(31, q)] [31] (by simp) rfl rfl rfl rfl (fun h' hh c' => zM h' c' s q (mG s z).a _ ((hh _ (by simp)).trans hihj31_1) hza) (s_e rfl (zAi (v := .ptr _ _ _ _) rfl) (s_e rfl (e_faQ pl3 rfl) (s_eR [3] rfl (e_lH (v := .sc _) rfl hihj31_2 rfl) ?_)))))));refine zBr [(31, q)] [31] (by simp) rfl rfl rfl rfl (fun h' hh c' => zM h' c' s q m.a _ ((hh _ (by simp)).trans hihj31_1) hma) (s_e rfl (e_lt rfl rfl) (s_end (ds := []) (by kernel_rfl) (by kernel_rfl) (hK37 _ ?_)));refine zAt rfl (fun hb38 => ?_) (fun hb38 => ?_)
   ·have hb38T := hb38; try simp only [zz] at hb38
    refine zBZ rfl fun hkn K39 hK39 => p_e rfl (zAi (v := v) rfl) (p_mS rfl (p_new rfl (e_b1 z) trivial (zFW (u := v) (sz := 1) (d1 := 110) (rows := ([((hl.take j).filter (pA s m)), le, lm, lq].flatten ++ (rl.take k).filter (pB s m)).map ci) (rows2 := [ci z]) rfl rfl rfl (hihj31_0.keep fun g => zAp (zAv rfl)) (zCq w_ rfl) (by kernel_rfl) (by simp only [List.length_append, lM, List.length_cons, List.length_nil, List.flatten_cons, List.flatten_nil]; omega) (by simp) fun h1 hr1 hf1 => ?_)));have ho31 := (hf1 (31, q) (zAv rfl) (fun _ _ => zAv rfl)).trans (h1_ hihj31_1);have ho3 := (hf1 (3, _) (zAv rfl) (fun _ _ => zAv rfl)).trans (h1_ hihj31_2);have ho28 := (hf1 (28, _) (zAv rfl) (fun _ _ => zAv rfl)).trans (h1_ hihj31_3);have ho29 := (hf1 (29, _) (zAv rfl) (fun _ _ => zAv rfl)).trans (h1_ hihj31_4);have hO1 := OldK.app (h0 := h0) (by repeat (first | exact hold | refine OldK.set ?_ (by repeat (first | exact hcle | apply CLe.set)))) (by repeat (first | exact hcle | apply CLe.set)) hvn hf1;have hn1 : zAq h1 110 (.ref (110, _) 1 0 ((([((hl.take j).filter (pA s m)), le, lm, lq].flatten ++ (rl.take k).filter (pB s m)).map ci).length + [ci z].length)) 1 (([((hl.take j).filter (pA s m)), le, lm, lq].flatten ++ (rl.take (k + 1)).filter (pB s m)).map ci) := .inr ⟨_, congrArg (PV.ref _ 1 0) (by rw [← zFl hz (decide_eq_true (by omega))]; simp only [lM, List.length_append, List.length_cons, List.length_nil]; try omega), hr1.trans (by rw [← zFl hz (decide_eq_true (by omega))]; simp only [List.map_append, List.append_assoc]; rfl)⟩;refine p_e rfl (zAs (v := .ref _ _ _ _) rfl) (p_end (hK39 _ ?_));refine zAj (zAb (hK35 _ ?_));refine zAn rfl fun K40 hK40 => p_e rfl (e_adL rfl rfl) (p_mS rfl (p_end (hK40 _ ?_)));exact zAo ((k + 1, _)) (by show _ < _; simp only; omega) ⟨rfl, rfl, rfl, rfl, trivial⟩ ⟨rfl, rfl, trivial⟩ (by exact ⟨by show _ + 1 ≤ _; omega, by first | exact hO1 | (repeat (first | exact hold | refine OldK.set ?_ (by repeat (first | exact hcle | apply CLe.set)))), by first | exact VN.new (by repeat (first | exact hcle | apply CLe.set)) | exact hvn, by exact (by repeat (first | exact hcle | apply CLe.set)), (zAq.to hn1 (by first | rfl | (rw [← ft_f hz (decide_eq_false (by omega))]))), ho31, ho3, ho28, ho29⟩)
   have hb38F := hb38; try simp only [zz] at hb38
   refine zAl (zAj (zAb (hK35 _ ?_)));refine zAn rfl fun K41 hK41 => p_e rfl (e_adL rfl rfl) (p_mS rfl (p_end (hK41 _ ?_)));exact zAo ((k + 1, v)) (by show _ < _; simp only; omega) ⟨rfl, rfl, rfl, rfl, trivial⟩ ⟨rfl, rfl, trivial⟩ (by exact ⟨by show _ + 1 ≤ _; omega, by first | exact hO1 | (repeat (first | exact hold | refine OldK.set ?_ (by repeat (first | exact hcle | apply CLe.set)))), by first | exact VN.new (by repeat (first | exact hcle | apply CLe.set)) | exact hvn, by exact (by repeat (first | exact hcle | apply CLe.set)), (zAq.to hihj31_0 (by first | rfl | (rw [← ft_f hz (decide_eq_false (by omega))]))), hihj31_1, hihj31_2, hihj31_3, hihj31_4⟩)
  have hb34R := hb34; try simp only [zz] at hb34
  have hk1 : k = rl.length := by simp only [lM] at *; omega
  have hfk := zI6 (p := pB s m) (l := rl) (j := k);refine zAJ (zAK ?_);clear hK33 K33;refine zAC (zAA (zAb (hK26 _ ?_)));refine zAa rfl fun K42 hK42 => p_e rfl (zAi (v := _) rfl) (p_e rfl (zAs (v := _) rfl) (p_end (hK42 _ ?_)));refine zAh (end1 (v := _) rfl ?_);exact ⟨_, zEc hihj31_0 hvn, hold, by (simp only [List.length_append, List.flatten_cons, List.flatten_nil, List.length_nil]; omega), st_t hj1 hk1 (by simp only [lM] at *; omega)⟩
 have hb23F := hb23; try simp only [zz] at hb23
 refine zAl (zAb (hK22 _ ?_));refine zAf (zB9 rfl fun hkn K43 hK43 => zA0 (s_e rfl (zAi (v := .ptr (31, q) 8 0 0) rfl) (s_e rfl (zBe rfl) (s_e rfl (e_faQ plF rfl) (s_eR [31] rfl (e_lH (v := .map (29, gl)) rfl hihj9_1 rfl) (s_e rfl (zAi (v := .ptr (31, q) 8 0 0) rfl) ?_))))));refine s_e rfl (e_faQ pl3 rfl) (s_eR [3] rfl (e_lH (v := .sc _) rfl hihj9_2 rfl) (zBr [(31, q)] [31] (by simp) rfl rfl rfl rfl (fun h' hh c' => lineM h' c' s q m.a _ ((hh _ (by simp)).trans hihj9_1) hma) (s_eR [29] rfl (zGW (kt := 87) (et := 33) (f := kl) (g := id) (a := (lnA s m.a)) (l := lr) (z := .nil) kl_eq kl_ok rfl rfl ⟨_, _, hihj9_4, hx2⟩ (by kernel_rfl) (by kernel_rfl) (by first | rfl | kernel_rfl)) (s_e rfl (NL.len hn2 rfl (by kernel_rfl)) (s_e rfl (zAi (v := .sc _) rfl) (s_end (ds := []) (by kernel_rfl) (by kernel_rfl) (hK43 _ ?_)))))));refine zAg fun K44 hK44 => zAE (α := Nat × PV) [0, 3, 85, 86] (fun (a45 : Nat × PV) => [(5, (a45.2)), (87, .int (a45.1))]) (fun (a45 : Nat × PV) (h : Heap) (c : Nat → Nat) => ((a45.1) ≤ rl.length) ∧ (OldK c0 h0 h) ∧ (VN c0 (a45.2)) ∧ (CLe c0 c) ∧ (zAq h 110 (a45.2) 1 ((((hl.take j).filter (pA s m)) ++ (rl.take (a45.1)).filter (pB s m)).map ci)) ∧ (h (31, q) = some (.rows 8 [frow s (fzX xe xb xm xr gh gl)])) ∧ (h (3, c0 3) = some (.rows 3 [Member.enc m])) ∧ (h (28, gh) = some (.map (zBb kl id lh) bs1 clk1)) ∧ (h (29, gl) = some (.map (zBb kl id lr) bs2 clk2))) (fun (a45 : Nat × PV) => rl.length - (a45.1)) (0, v) (by exact ⟨rfl, rfl, trivial⟩) (by exact ⟨by exact Nat.zero_le _, by exact hold, by exact hvn, by exact hcle, (zAq.to hihj9_0 (by simp)), hihj9_1, hihj9_2, hihj9_3, hihj9_4⟩) fun a45 r46 h47 c48 hj49 => ?_;obtain ⟨k, v⟩ := a45;obtain ⟨hk, hold, hvn, hcle, hihj49_0, hihj49_1, hihj49_2, hihj49_3, hihj49_4⟩ := hj49;try dsimp only at hk
 try dsimp only at hold
 try dsimp only at hvn
 try dsimp only at hcle
 try dsimp only at hihj49_0
 try dsimp only at hihj49_1
 try dsimp only at hihj49_2
 try dsimp only at hihj49_3
 try dsimp only at hihj49_4
 show pwp _ _ (loopQ _ _ _) ⟨sets (mix _ _ _) [(5, v), (87, .int k)], _, _⟩;refine zAa rfl fun K50 hK50 => p_e rfl (e_lt rfl rfl) (p_end (hK50 _ ?_));refine zAe rfl fun K51 hK51 => ⟨fun hb52 => ?_, fun hb52 => ?_⟩
 ·have hb52R := hb52; try simp only [zz] at hb52
  have hjl : k < rl.length := by simp only [lM] at *; omega
  obtain ⟨z, hz⟩ : ∃ z, rl[k]? = some z := ⟨_, List.getElem?_eq_getElem hjl⟩
  have hzr := hrr z (List.mem_of_getElem? hz);have hy := mG_at hzr;obtain ⟨hza, hzb⟩ := zDj hsc hy;have hul := NL.lit hn2 (Nat.lt_of_le_of_lt (Nat.zero_le _) hjl);have hfk := zI6 (p := pB s m) (l := rl) (j := k);refine zAl (zAb (hK51 _ ?_));refine zAg fun K53 hK53 => zAa rfl fun K54 hK54 => p_e rfl (e_ixa (i := (k : Int)) hul rfl (by kernel_rfl) (by kernel_rfl) (by simp only [lM]; omega)) (p_e rfl (zBD (v := .int z) rfl (by kernel_rfl) (by kernel_rfl) (by kernel_rfl) (by simp only [lM]; omega) (by decide) ((zAV hz _).trans rfl)) (p_aS rfl (p_end (hK54 _ ?_))));refine zAm rfl fun K55 hK55 => zA0 (s_e rfl (zAi (v := .ptr _ _ _ _) rfl) (s_e rfl (zAi (v := .ptr _ _ _ _) rfl) (s_e rfl (zBe rfl) (s_e rfl (e_faQ plF rfl) (s_e rfl (e_faQ pl2 rfl) (s_eR [31] rfl (e_lH (v := .lit _ _ _) rfl hihj49_1 rfl) ?_))))));refine s_e rfl (zAi (v := .sc _) rfl) (s_e rfl (e_ixL rfl rfl) (s_e rfl (e_fb pl3 rfl) (s_e rfl (e_lL (v := .sc _) rfl ((zAV hy _).trans rfl)) (zBr [(31, q)] [31] (by simp) rfl rfl rfl rfl (fun h' hh c' => zM h' c' s q (mG s z).a _ ((hh _ (by simp)).trans hihj49_1) hza) (s_e rfl (zAi (v := .ptr _ _ _ _) rfl) (s_e rfl (e_faQ pl3 rfl) (s_eR [3] rfl (e_lH (v := .sc _) rfl hihj49_2 rfl) ?_)))))));refine zBr [(31, q)] [31] (by simp) rfl rfl rfl rfl (fun h' hh c' => zM h' c' s q m.a _ ((hh _ (by simp)).trans hihj49_1) hma) (s_e rfl (e_lt rfl rfl) (s_end (ds := []) (by kernel_rfl) (by kernel_rfl) (hK55 _ ?_)));refine zAt rfl (fun hb56 => ?_) (fun hb56 => ?_)
  ·have hb56T := hb56; try simp only [zz] at hb56
   refine zBZ rfl fun hkn K57 hK57 => p_e rfl (zAi (v := v) rfl) (p_mS rfl (p_new rfl (e_b1 z) trivial (zFW (u := v) (sz := 1) (d1 := 110) (rows := (((hl.take j).filter (pA s m)) ++ (rl.take k).filter (pB s m)).map ci) (rows2 := [ci z]) rfl rfl rfl (hihj49_0.keep fun g => zAp (zAv rfl)) (zCq w_ rfl) (by kernel_rfl) (by simp only [List.length_append, lM, List.length_cons, List.length_nil, List.flatten_cons, List.flatten_nil]; omega) (by simp) fun h1 hr1 hf1 => ?_)));have ho31 := (hf1 (31, q) (zAv rfl) (fun _ _ => zAv rfl)).trans (h1_ hihj49_1);have ho3 := (hf1 (3, _) (zAv rfl) (fun _ _ => zAv rfl)).trans (h1_ hihj49_2);have ho28 := (hf1 (28, _) (zAv rfl) (fun _ _ => zAv rfl)).trans (h1_ hihj49_3);have ho29 := (hf1 (29, _) (zAv rfl) (fun _ _ => zAv rfl)).trans (h1_ hihj49_4);have hO1 := OldK.app (h0 := h0) (by repeat (first | exact hold | refine OldK.set ?_ (by repeat (first | exact hcle | apply CLe.set)))) (by repeat (first | exact hcle | apply CLe.set)) hvn hf1;have hn1 : zAq h1 110 (.ref (110, _) 1 0 (((((hl.take j).filter (pA s m)) ++ (rl.take k).filter (pB s m)).map ci).length + [ci z].length)) 1 ((((hl.take j).filter (pA s m)) ++ (rl.take (k + 1)).filter (pB s m)).map ci) := .inr ⟨_, congrArg (PV.ref _ 1 0) (by rw [← zFl hz (decide_eq_true (by omega))]; simp only [lM, List.length_append, List.length_cons, List.length_nil]; try omega), hr1.trans (by rw [← zFl hz (decide_eq_true (by omega))]; simp only [List.map_append, List.append_assoc]; rfl)⟩;refine p_e rfl (zAs (v := .ref _ _ _ _) rfl) (p_end (hK57 _ ?_));refine zAj (zAb (hK53 _ ?_));refine zAn rfl fun K58 hK58 => p_e rfl (e_adL rfl rfl) (p_mS rfl (p_end (hK58 _ ?_)));exact zAo ((k + 1, _)) (by show _ < _; simp only; omega) ⟨rfl, rfl, rfl, rfl, trivial⟩ ⟨rfl, rfl, trivial⟩ (by exact ⟨by show _ + 1 ≤ _; omega, by first | exact hO1 | (repeat (first | exact hold | refine OldK.set ?_ (by repeat (first | exact hcle | apply CLe.set)))), by first | exact VN.new (by repeat (first | exact hcle | apply CLe.set)) | exact hvn, by exact (by repeat (first | exact hcle | apply CLe.set)), (zAq.to hn1 (by first | rfl | (rw [← ft_f hz (decide_eq_false (by omega))]))), ho31, ho3, ho28, ho29⟩)
  have hb56F := hb56; try simp only [zz] at hb56
  refine zAl (zAj (zAb (hK53 _ ?_)));refine zAn rfl fun K59 hK59 => p_e rfl (e_adL rfl rfl) (p_mS rfl (p_end (hK59 _ ?_)));exact zAo ((k + 1, v)) (by show _ < _; simp only; omega) ⟨rfl, rfl, rfl, rfl, trivial⟩ ⟨rfl, rfl, trivial⟩ (by exact ⟨by show _ + 1 ≤ _; omega, by first | exact hO1 | (repeat (first | exact hold | refine OldK.set ?_ (by repeat (first | exact hcle | apply CLe.set)))), by first | exact VN.new (by repeat (first | exact hcle | apply CLe.set)) | exact hvn, by exact (by repeat (first | exact hcle | apply CLe.set)), (zAq.to hihj49_0 (by first | rfl | (rw [← ft_f hz (decide_eq_false (by omega))]))), hihj49_1, hihj49_2, hihj49_3, hihj49_4⟩)
 have hb52R := hb52; try simp only [zz] at hb52
 have hk1 : k = rl.length := by simp only [lM] at *; omega
 have hfk := zI6 (p := pB s m) (l := rl) (j := k);refine zAJ (zAK ?_);clear hK51 K51;refine zAC (zAA (zAb (hK44 _ ?_)));refine zAa rfl fun K60 hK60 => p_e rfl (zAi (v := _) rfl) (p_e rfl (zAs (v := _) rfl) (p_end (hK60 _ ?_)));refine zAh (end1 (v := _) rfl ?_);exact ⟨_, zEc hihj49_0 hvn, hold, by (simp only [List.length_append]; omega), st_f hj1 hk1 (by simp only [lM] at *; omega)⟩
section
variable {s : Scaffold} {m o : Member} {P Q : Member → Prop} {z : Int} {t : Nat}
def NdZ (s : Scaffold) (m : Member) (z : Int) : Prop := memP s s.members.length (fun o => ndB s m o = true) z
theorem zCe (h : s.members[t]? = some o) : memP s s.members.length P (t : Int) ↔ P o := by
 constructor
 · rintro ⟨t', o', h1, h2, h3, h4⟩
   have : t' = t := by omega
   subst this; rw [h] at h2; cases h2; exact h3
 · intro hp;exact ⟨t, o, (List.getElem?_eq_some_iff.1 h).1, h, hp, rfl⟩
theorem zJa {A B : Int → Prop} (hA : ∀ z, A z → ∃ (t : Nat) (o : Member), s.members[t]? = some o ∧ z = (t : Int)) (hB : ∀ z, B z → ∃ (t : Nat) (o : Member), s.members[t]? = some o ∧ z = (t : Int))
   (h : ∀ (t : Nat) (o : Member), s.members[t]? = some o → (A (t : Int) ↔ B (t : Int))) (z : Int) : A z ↔ B z := by
 constructor
 · intro ha; obtain ⟨t, o, h1, rfl⟩ := hA z ha; exact (h t o h1).1 ha
 · intro hb; obtain ⟨t, o, h1, rfl⟩ := hB z hb; exact (h t o h1).2 hb
theorem zB0 {z : Int} (h : memP s s.members.length P z) : ∃ (t : Nat) (o : Member), s.members[t]? = some o ∧ z = (t : Int) := by
 obtain ⟨t, o, _, h2, _, h4⟩ := h; exact ⟨t, o, h2, h4⟩
theorem zEJ (hs : scfE s = 0) {a b : Int} (ha : 0 ≤ a ∧ a < (s.nodes.length : Int)) (hb : 0 ≤ b ∧ b < (s.nodes.length : Int)) : nA s a = nA s b ↔ a.toNat = b.toNat := by
 constructor
 · intro h
   have key : ∀ i j : Nat, i < j → j < s.nodes.length → s.nodes.getD i default = s.nodes.getD j default → False := fun i j hij hj he => by
     have h1 : s.nodes[j]? = some (s.nodes.getD j default) := by rw [List.getD_eq_getElem?_getD, List.getElem?_eq_getElem hj]; rfl
     have h2 : s.nodes[i]? = some (s.nodes.getD i default) := by rw [List.getD_eq_getElem?_getD, List.getElem?_eq_getElem (by omega)]; rfl
     refine (zKp hs h1).2 ?_;rw [← he];exact List.mem_of_getElem? (i := i) (by rw [List.getElem?_take, if_pos hij]; exact h2)
   rcases Nat.lt_trichotomy a.toNat b.toNat with h1 | h1 | h1
   · exact (key _ _ h1 (by omega) h).elim
   · exact h1
   · exact (key _ _ h1 (by omega) h.symm).elim
 · intro h; rw [nA, nA, h]
theorem lnA_eq {a b : Int} : lnA s a = lnA s b ↔ inL (nA s a) (nA s b) := by
 show ((nA s a).px, (nA s a).py) = ((nA s b).px, (nA s b).py) ↔ _;rw [Prod.mk.injEq]; rfl
theorem zJW {a : Int × Int} {z : Int} : z ∈ hldL s s.members.length a ↔ memP s s.members.length (fun o => (o.kind = 9 ∨ o.kind = 8) ∧ lnA s o.a = a) z := by
 simp only [hldL, List.mem_map, List.mem_filter, List.mem_range, hldB, decide_eq_true_eq];constructor
 · rintro ⟨t, ⟨h1, h2⟩, rfl⟩
   exact ⟨t, _, h1, by rw [List.getD_eq_getElem?_getD, List.getElem?_eq_getElem h1]; rfl, h2, rfl⟩
 · rintro ⟨t, o, h1, h2, h3, rfl⟩
   exact ⟨t, ⟨h1, by rw [zCG h2]; exact h3⟩, rfl⟩
theorem zHK (hs : scfE s = 0) {a : Int} (ha : 0 ≤ a ∧ a < (s.nodes.length : Int)) {le : List Int} (hle : ∀ z, z ∈ le ↔ (csA s s.members.length).e a.toNat z) : 0 < le.length ↔ stdE s (nA s a) = true := by
 constructor
 · intro h;obtain ⟨z, hz⟩ := List.exists_mem_of_length_pos h;obtain ⟨t, o, h1, h2, h3, _⟩ := (hle z).1 hz;refine List.any_eq_true.2 ⟨o, List.mem_of_getElem? h2, ?_⟩;rw [decide_eq_true h3.1, decide_eq_true ((zEJ hs (zDj hs h2).2 ha).2 h3.2)]; rfl
 · intro h;obtain ⟨o, ho, h2⟩ := List.any_eq_true.1 h;obtain ⟨t, ht⟩ := List.mem_iff_getElem?.1 ho;simp only [Bool.and_eq_true, decide_eq_true_eq] at h2;exact List.length_pos_of_mem ((hle t).2 ⟨t, o, (List.getElem?_eq_some_iff.1 ht).1, ht, ⟨h2.1, (zEJ hs (zDj hs ht).2 ha).1 h2.2⟩, rfl⟩)
end
section
variable {s : Scaffold} {m : Member} {le lm lq lb rl la : List Int}
theorem zJP {k : Int} (h : 0 ≤ k ∧ k ≤ 9) : k = 0 ∨ k = 1 ∨ k = 2 ∨ k = 3 ∨ k = 4 ∨ k = 5 ∨ k = 6 ∨ k = 7 ∨ k = 8 ∨ k = 9 := by omega
theorem nd_0 (hs : scfE s = 0) (hm : GeoM s m) (hk : m.kind = 0) (hle : ∀ z, z ∈ le ↔ (csA s s.members.length).e m.a.toNat z) (hlm : ∀ z, z ∈ lm ↔ (csA s s.members.length).m m.a.toNat z) (hlq : ∀ z, z ∈ lq ↔ (csA s s.members.length).r m.a.toNat z) (hrl : ∀ z, z ∈ rl ↔ (csA s s.members.length).l (lnA s m.a) z) (z : Int) :
   StQ s m (hldL s s.members.length (lnA s m.a)) le lm lq rl z ↔ NdZ s m z := by
 refine zJa (s := s) (A := StQ s m (hldL s s.members.length (lnA s m.a)) le lm lq rl) (B := NdZ s m) (fun z h => ?_) (fun z h => zB0 h) (fun t o ho => ?_) z
 · rcases h with ⟨h, _⟩ | ⟨_, h | h | h⟩ | ⟨h, _⟩
   · exact zB0 (zJW.1 h)
   · exact zB0 ((hle z).1 h)
   · exact zB0 ((hlm z).1 h)
   · exact zB0 ((hlq z).1 h)
   · exact zB0 ((hrl z).1 h)
 · have hg := zDk hs ho;have e1 : (t : Int) ∈ hldL s s.members.length (lnA s m.a) ↔ _ := zJW.trans (zCe ho);have e2 : (t : Int) ∈ le ↔ _ := (hle t).trans (zCe ho);have e3 : (t : Int) ∈ lm ↔ _ := (hlm t).trans (zCe ho);have e4 : (t : Int) ∈ lq ↔ _ := (hlq t).trans (zCe ho);have e5 : (t : Int) ∈ rl ↔ _ := (hrl t).trans (zCe ho);have e6 : NdZ s m (t : Int) ↔ _ := zCe ho;have e7 := zHK hs hm.ra hle
   have eA : pA s m (t : Int) = decide ((nA s o.a).pz ≤ (nA s m.a).pz) := by
     show decide (zA s (s.members.getD t default).a ≤ zA s m.a) = _;rw [zCG ho]; rfl
   have eB : pB s m (t : Int) = decide ((nA s o.a).pz < (nA s m.a).pz) := by
     show decide (zA s (s.members.getD t default).a < zA s m.a) = _;rw [zCG ho]; rfl
   have i1 : ∀ x, inL (nA s x) (nA s m.a) ↔ inL (nA s m.a) (nA s x) := fun x => ⟨fun h => ⟨h.1.symm, h.2.symm⟩, fun h => ⟨h.1.symm, h.2.symm⟩⟩
   have j1 := zEJ hs hg.ra hm.ra;have j2 := zEJ hs hg.rb hm.ra;rw [StQ, e1, e2, e3, e4, e5, e6, e7, eA, eB];simp only [lnA_eq, decide_eq_true_eq, i1, ← j1, ← j2];have h45 : (o.kind = 4 ∨ o.kind = 5) → (nA s o.a).pz = (nA s o.b).pz := fun h => (hg.k12 (by omega)).1;unfold ndB;rw [if_pos hk];rcases zJP hg.kd with h | h | h | h | h | h | h | h | h | h <;> simp only [h] at h45 ⊢ <;> simp <;> first | (intro h1 h2; exact ⟨h2, h1⟩) | skip
   · exact fun e => List.any_eq_true.2 ⟨o, List.mem_of_getElem? ho, by rw [decide_eq_true h, decide_eq_true e]; rfl⟩
   · exact And.comm
   · exact And.comm
   · exact And.comm
   · rw [← h45 (by simp)]; exact or_and_right
   · rw [← h45 (by simp)]; exact or_and_right
theorem zLF {ea eb ba bb : List Int} (hs : scfE s = 0) (hm : GeoM s m) (hk : m.kind = 1 ∨ m.kind = 2 ∨ m.kind = 3) (h1 : ∀ z, z ∈ ea ↔ (csA s s.members.length).e m.a.toNat z) (h2 : ∀ z, z ∈ eb ↔ (csA s s.members.length).e m.b.toNat z) (h3 : ∀ z, z ∈ ba ↔ (csA s s.members.length).b m.a.toNat z) (h4 : ∀ z, z ∈ bb ↔ (csA s s.members.length).b m.b.toNat z) (z : Int) :
   z ∈ (if 0 < ea.length then ea else ba) ++ (if 0 < eb.length then eb else bb) ↔ NdZ s m z := by
 have s1 := zHK hs hm.ra h1;have s2 := zHK hs hm.rb h2;refine zJa (s := s) (A := fun z => z ∈ (if 0 < ea.length then ea else ba) ++ (if 0 < eb.length then eb else bb)) (B := NdZ s m) (fun z h => ?_) (fun z h => zB0 h) (fun t o ho => ?_) z
 · rcases List.mem_append.1 h with h | h
   · split at h
     · exact zB0 ((h1 z).1 h)
     · exact zB0 ((h3 z).1 h)
   · split at h
     · exact zB0 ((h2 z).1 h)
     · exact zB0 ((h4 z).1 h)
 · have hg := zDk hs ho;have e1 : (t : Int) ∈ ea ↔ _ := (h1 t).trans (zCe ho);have e2 : (t : Int) ∈ eb ↔ _ := (h2 t).trans (zCe ho);have e3 : (t : Int) ∈ ba ↔ _ := (h3 t).trans (zCe ho);have e4 : (t : Int) ∈ bb ↔ _ := (h4 t).trans (zCe ho);have e6 : NdZ s m (t : Int) ↔ _ := zCe ho;have hstd : ∀ n, o.kind = 0 → nA s o.b = n → stdE s n = true := fun n h e => List.any_eq_true.2 ⟨o, List.mem_of_getElem? ho, by rw [decide_eq_true h, decide_eq_true e]; rfl⟩;show (t : Int) ∈ _ ++ _ ↔ _;rw [List.mem_append, e6]
   have ha : (t : Int) ∈ (if 0 < ea.length then ea else ba) ↔ o.kind = 0 ∧ (nA s o.b = nA s m.a ∨ nA s o.a = nA s m.a ∧ stdE s (nA s m.a) = false) := by
     rw [← zEJ hs hg.rb hm.ra] at e1;rw [← zEJ hs hg.ra hm.ra] at e3;split
     · rename_i h;rw [e1, s1.1 h]; simp
     · rename_i h;have hf : stdE s (nA s m.a) = false := by rw [← Bool.not_eq_true]; exact fun q => h (s1.2 q)
       rw [e3, hf];constructor
       · rintro ⟨q1, q2⟩; exact ⟨q1, .inr ⟨q2, rfl⟩⟩
       · rintro ⟨q1, q2 | q2⟩
         · rw [hstd _ q1 q2] at hf; cases hf
         · exact ⟨q1, q2.1⟩
   have hb : (t : Int) ∈ (if 0 < eb.length then eb else bb) ↔ o.kind = 0 ∧ (nA s o.b = nA s m.b ∨ nA s o.a = nA s m.b ∧ stdE s (nA s m.b) = false) := by
     rw [← zEJ hs hg.rb hm.rb] at e2;rw [← zEJ hs hg.ra hm.rb] at e4;split
     · rename_i h;rw [e2, s2.1 h]; simp
     · rename_i h;have hf : stdE s (nA s m.b) = false := by rw [← Bool.not_eq_true]; exact fun q => h (s2.2 q)
       rw [e4, hf];constructor
       · rintro ⟨q1, q2⟩; exact ⟨q1, .inr ⟨q2, rfl⟩⟩
       · rintro ⟨q1, q2 | q2⟩
         · rw [hstd _ q1 q2] at hf; cases hf
         · exact ⟨q1, q2.1⟩
   rw [ha, hb];unfold ndB;rw [if_neg (by omega), if_pos hk];simp only [Bool.and_eq_true, Bool.or_eq_true, decide_eq_true_eq, Bool.not_eq_true'];constructor
   · rintro (⟨q1, q2 | q2⟩ | ⟨q1, q2 | q2⟩)
     · exact ⟨q1, .inl (.inl q2)⟩
     · exact ⟨q1, .inr (.inl q2)⟩
     · exact ⟨q1, .inl (.inr q2)⟩
     · exact ⟨q1, .inr (.inr q2)⟩
   · rintro ⟨q1, (q2 | q2) | (q2 | q2)⟩
     · exact .inl ⟨q1, .inl q2⟩
     · exact .inr ⟨q1, .inl q2⟩
     · exact .inl ⟨q1, .inr q2⟩
     · exact .inr ⟨q1, .inr q2⟩
theorem nd_6 (hs : scfE s = 0) (hk : m.kind = 6) (z : Int) : z ∈ flP (dkB s m) s.members.length ↔ NdZ s m z := by
 refine zJa (s := s) (A := fun z => z ∈ flP (dkB s m) s.members.length) (B := NdZ s m) (fun z h => ?_) (fun z h => zB0 h) (fun t o ho => ?_) z
 · obtain ⟨i, rfl, h1, _⟩ := zLk.1 h;exact ⟨i, _, List.getElem?_eq_getElem h1, rfl⟩
 · have e6 : NdZ s m (t : Int) ↔ _ := zCe ho
   have h1 : (t : Int) ∈ flP (dkB s m) s.members.length ↔ dkB s m t = true := by
     rw [zLk];constructor
     · rintro ⟨i, h1, h2, h3⟩
       have : i = t := by omega
       subst this; exact h3
     · intro h; exact ⟨t, rfl, (List.getElem?_eq_some_iff.1 ho).1, h⟩
   show (t : Int) ∈ _ ↔ _;rw [h1, e6, dkB, zCG ho];unfold ndB;rw [if_neg (by omega), if_neg (by omega), if_pos hk];simp only [Bool.and_eq_true, decide_eq_true_eq]
theorem nd_7 (hs : scfE s = 0) (hm : GeoM s m) (hk : m.kind = 7) (hlm : ∀ z, z ∈ lm ↔ (csA s s.members.length).m m.b.toNat z) (z : Int) : z ∈ lm ↔ NdZ s m z := by
 refine zJa (s := s) (A := fun z => z ∈ lm) (B := NdZ s m) (fun z h => zB0 ((hlm z).1 h)) (fun z h => zB0 h) (fun t o ho => ?_) z;have hg := zDk hs ho;have e3 : (t : Int) ∈ lm ↔ _ := (hlm t).trans (zCe ho);have e6 : NdZ s m (t : Int) ↔ _ := zCe ho;rw [← zEJ hs hg.ra hm.rb, ← zEJ hs hg.rb hm.rb] at e3;rw [e3, e6];unfold ndB;rw [if_neg (by omega), if_neg (by omega), if_neg (by omega), if_neg (by omega), if_pos hk];simp only [decide_eq_true_eq]
theorem nd_8 (hs : scfE s = 0) (hm : GeoM s m) (hk : m.kind = 8) (hle : ∀ z, z ∈ le ↔ (csA s s.members.length).e m.a.toNat z) (z : Int) : z ∈ le ↔ NdZ s m z := by
 refine zJa (s := s) (A := fun z => z ∈ le) (B := NdZ s m) (fun z h => zB0 ((hle z).1 h)) (fun z h => zB0 h) (fun t o ho => ?_) z;have hg := zDk hs ho;have e3 : (t : Int) ∈ le ↔ _ := (hle t).trans (zCe ho);have e6 : NdZ s m (t : Int) ↔ _ := zCe ho;rw [← zEJ hs hg.rb hm.ra] at e3;rw [e3, e6];unfold ndB;rw [if_neg (by omega), if_neg (by omega), if_neg (by omega), if_neg (by omega), if_neg (by omega), if_pos hk];simp only [decide_eq_true_eq]
theorem nd_9 (hk : m.kind = 9) (z : Int) : z ∈ ([] : List Int) ↔ NdZ s m z := by
 constructor
 · intro h; cases h
 · rintro ⟨t, o, _, _, h3, _⟩
   unfold ndB at h3;rw [if_neg (by omega), if_neg (by omega), if_neg (by omega), if_neg (by omega), if_neg (by omega), if_neg (by omega)] at h3;cases h3
theorem zMy {p r n : Node} (h1 : p.px < r.px) (h2 : p.py < r.py) (h3 : p.pz = r.pz) : ∀ k, k < 4 → (n = (crn p r).getD k default ↔ corI (crn p r) n = (k : Int)) := by
 intro k hk;have hx : (crn p r)[k]? = some ((crn p r).getD k default) := by rw [List.getD_eq_getElem?_getD, List.getElem?_eq_getElem (show k < 4 from hk)]; rfl
 have hd : ∀ i j : Nat, i < j → j < 4 → (crn p r).getD i default ≠ (crn p r).getD j default := by
   intro i j hij hj he;have hj2 : j = 1 ∨ j = 2 ∨ j = 3 := by omega
   have hi2 : i = 0 ∨ i = 1 ∨ i = 2 := by omega
   have e1 := congrArg Node.px he;have e2 := congrArg Node.py he;rcases hi2 with rfl | rfl | rfl <;> rcases hj2 with rfl | rfl | rfl <;> first | omega | (simp [crn] at e1 e2; omega)
 constructor
 · intro he;refine (zHv (K := fun y => decide (y = n)) hx (fun i hi y hy => decide_eq_false fun e => ?_) (decide_eq_true he.symm)).symm;have hy2 : y = (crn p r).getD i default := (zLT hy).symm;exact hd i k hi hk (by rw [← hy2, e, he])
 · intro he;unfold corI ixA at he;split at he
   · rename_i i hi;obtain ⟨hlt, h4, _⟩ := List.findIdx?_eq_some_iff_getElem.1 hi;have : i = k := by omega
     subst this;have h5 := of_decide_eq_true h4;rw [← h5, List.getD_eq_getElem?_getD, List.getElem?_eq_getElem hlt]; rfl
   · omega
theorem side_par {i j : Int} (hi : -1 ≤ i ∧ i ≤ 3) (hj : -1 ≤ j ∧ j ≤ 3) : ((i = 0 ∧ j = 1) ∨ (i = 1 ∧ j = 0) ∨ (i = 1 ∧ j = 2) ∨ (i = 2 ∧ j = 1) ∨ (i = 2 ∧ j = 3) ∨ (i = 3 ∧ j = 2) ∨ (i = 3 ∧ j = 0) ∨ (i = 0 ∧ j = 3)) ↔ (0 ≤ i ∧ 0 ≤ j ∧ (i - j).tmod 2 ≠ 0) := by
 have hi2 : i = -1 ∨ i = 0 ∨ i = 1 ∨ i = 2 ∨ i = 3 := by omega
 have hj2 : j = -1 ∨ j = 0 ∨ j = 1 ∨ j = 2 ∨ j = 3 := by omega
 rcases hi2 with rfl | rfl | rfl | rfl | rfl <;> rcases hj2 with rfl | rfl | rfl | rfl | rfl <;> decide
theorem side_iff {p r a b : Node} (h1 : p.px < r.px) (h2 : p.py < r.py) (h3 : p.pz = r.pz) : (∃ j, j < 4 ∧ mtB a b p r j = true) ↔ (0 ≤ corI (crn p r) a ∧ 0 ≤ corI (crn p r) b ∧ (corI (crn p r) a - corI (crn p r) b).tmod 2 ≠ 0) := by
 rw [← side_par zET zET];have ha := zMy (n := a) h1 h2 h3;have hb := zMy (n := b) h1 h2 h3
 have key : ∀ j, j < 4 → (mtB a b p r j = true ↔ (corI (crn p r) a = (j : Int) ∧ corI (crn p r) b = (((j + 1) % 4 : Nat) : Int)) ∨ (corI (crn p r) a = (((j + 1) % 4 : Nat) : Int) ∧ corI (crn p r) b = (j : Int))) := fun j hj => by
   rw [mtB, Bool.or_eq_true, decide_eq_true_eq, decide_eq_true_eq, ha j hj, ha _ (Nat.mod_lt _ (by decide)), hb j hj, hb _ (Nat.mod_lt _ (by decide))]
 have k0 : mtB a b p r 0 = true ↔ (corI (crn p r) a = 0 ∧ corI (crn p r) b = 1) ∨ (corI (crn p r) a = 1 ∧ corI (crn p r) b = 0) := key 0 (by decide);have k1 : mtB a b p r 1 = true ↔ (corI (crn p r) a = 1 ∧ corI (crn p r) b = 2) ∨ (corI (crn p r) a = 2 ∧ corI (crn p r) b = 1) := key 1 (by decide);have k2 : mtB a b p r 2 = true ↔ (corI (crn p r) a = 2 ∧ corI (crn p r) b = 3) ∨ (corI (crn p r) a = 3 ∧ corI (crn p r) b = 2) := key 2 (by decide);have k3 : mtB a b p r 3 = true ↔ (corI (crn p r) a = 3 ∧ corI (crn p r) b = 0) ∨ (corI (crn p r) a = 0 ∧ corI (crn p r) b = 3) := key 3 (by decide);clear key ha hb;generalize corI (crn p r) a = x at k0 k1 k2 k3 ⊢;generalize corI (crn p r) b = y at k0 k1 k2 k3 ⊢;constructor
 · rintro ⟨j, hj, h⟩
   have hj2 : j = 0 ∨ j = 1 ∨ j = 2 ∨ j = 3 := by clear k0 k1 k2 k3; omega
   rcases hj2 with rfl | rfl | rfl | rfl
   · rcases k0.1 h with h | h
     · exact .inl h
     · exact .inr (.inl h)
   · rcases k1.1 h with h | h
     · exact .inr (.inr (.inl h))
     · exact .inr (.inr (.inr (.inl h)))
   · rcases k2.1 h with h | h
     · exact .inr (.inr (.inr (.inr (.inl h))))
     · exact .inr (.inr (.inr (.inr (.inr (.inl h)))))
   · rcases k3.1 h with h | h
     · exact .inr (.inr (.inr (.inr (.inr (.inr (.inl h))))))
     · exact .inr (.inr (.inr (.inr (.inr (.inr (.inr h))))))
 · intro h;rcases h with h | h | h | h | h | h | h | h
   · exact ⟨0, by decide, k0.2 (.inl h)⟩
   · exact ⟨0, by decide, k0.2 (.inr h)⟩
   · exact ⟨1, by decide, k1.2 (.inl h)⟩
   · exact ⟨1, by decide, k1.2 (.inr h)⟩
   · exact ⟨2, by decide, k2.2 (.inl h)⟩
   · exact ⟨2, by decide, k2.2 (.inr h)⟩
   · exact ⟨3, by decide, k3.2 (.inl h)⟩
   · exact ⟨3, by decide, k3.2 (.inr h)⟩
theorem nd_45 (hs : scfE s = 0) (hm : GeoM s m) (hk : m.kind = 4 ∨ m.kind = 5) (h1 : ∀ z, z ∈ la ↔ (csA s s.members.length).b m.a.toNat z) (h2 : ∀ z, z ∈ lb ↔ (csA s s.members.length).b m.b.toNat z) (z : Int) : z ∈ [la, lb].flatten ++ rlP s (nA s m.a) (nA s m.b) s.members.length ↔ NdZ s m z := by
 have n0 : ¬ m.kind = 0 := by omega
 have n1 : ¬ (m.kind = 1 ∨ m.kind = 2 ∨ m.kind = 3) := by omega
 have n6 : ¬ m.kind = 6 := by omega
 refine zJa (s := s) (A := fun z => z ∈ [la, lb].flatten ++ rlP s (nA s m.a) (nA s m.b) s.members.length) (B := NdZ s m) (fun z h => ?_) (fun z h => zB0 h) (fun t o ho => ?_) z
 · simp only [List.flatten_cons, List.flatten_nil, List.append_nil, List.mem_append] at h;rcases h with (h | h) | h
   · exact zB0 ((h1 z).1 h)
   · exact zB0 ((h2 z).1 h)
   · obtain ⟨i, rfl, h4, _⟩ := zKV.1 h;exact ⟨i, _, List.getElem?_eq_getElem h4, rfl⟩
 · have hg := zDk hs ho;have e1 : (t : Int) ∈ la ↔ _ := (h1 t).trans (zCe ho);have e2 : (t : Int) ∈ lb ↔ _ := (h2 t).trans (zCe ho);have e6 : NdZ s m (t : Int) ↔ _ := zCe ho;rw [← zEJ hs hg.ra hm.ra] at e1;rw [← zEJ hs hg.ra hm.rb] at e2
   have e7 : (t : Int) ∈ rlP s (nA s m.a) (nA s m.b) s.members.length ↔ o.kind = 6 ∧ ∃ j, j < 4 ∧ mtB (nA s m.a) (nA s m.b) (nA s o.a) (nA s o.b) j = true := by
     rw [zKV];constructor
     · rintro ⟨i, q1, q2, q3⟩
       have : i = t := by omega
       subst this; rw [zCG ho] at q3; exact q3
     · intro q; exact ⟨t, rfl, (List.getElem?_eq_some_iff.1 ho).1, by rw [zCG ho]; exact q⟩
   show (t : Int) ∈ _ ↔ _;simp only [List.flatten_cons, List.flatten_nil, List.append_nil, List.mem_append];rw [e1, e2, e6, e7];unfold ndB;rw [if_neg n0, if_neg n1, if_neg n6, if_pos hk];by_cases h6 : o.kind = 6
   · have hg6 := hg.k6 h6;rw [if_pos h6, side_iff hg6.2.1 hg6.2.2 hg6.1, decide_eq_true_eq, zH4];constructor
     · rintro ((q | q) | q)
       · exact absurd (h6.symm.trans q.1) (by decide)
       · exact absurd (h6.symm.trans q.1) (by decide)
       · exact q.2
     · intro q; exact .inr ⟨h6, q⟩
   · rw [if_neg h6, decide_eq_true_eq];constructor
     · rintro ((q | q) | q)
       · exact ⟨q.1, .inl q.2⟩
       · exact ⟨q.1, .inr q.2⟩
       · exact absurd q.1 h6
     · rintro ⟨q1, q2 | q2⟩
       · exact .inl (.inl ⟨q1, q2⟩)
       · exact .inl (.inr ⟨q1, q2⟩)
end
end Go.Proofs.YtnbcmoaofmkjhaaGreatDoor.E7
