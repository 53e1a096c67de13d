import Derived.Test.YtjmjiegplnfiiaaShA
import Derived.Test.YtjmjiegplnfiiaaSchA
/- The schedule of the reference. No conditions. -/
set_option linter.unusedSimpArgs false
set_option linter.unusedVariables false
set_option maxRecDepth 100000
namespace Go.Proofs.Ytjmjiegplnfiiaa
open Go Go.Pv
section
variable {P : Program} {ρ : Operand → PV} {h : Heap} {key : Key} {t : TypeId}
theorem e_mkS {l c : Operand} {L : Int} {n : Nat} (hx : ρ l = .int L) (hy : ρ c = .int L) (hn : L = (n : Int)) (hz : zeroCellsOf P (elemTy P t) = some [.int 0, .int 0, .int 0]) (ho : sliceOk P t = true) (hs : tySize P (elemTy P t) = 3) (hb : P.bytesOf (elemTy P t) < 2 ^ 15) (hl : n < 2 ^ 32) :
   eff P ρ h key (.makeSlice t l c) = ⟨True, .ref key 3 0 n, [(key, some (.rows 3 ((List.replicate n (⟨0, 0, 0⟩ : Slot)).map Slot.enc)))], [], true⟩ := by
 subst hn
 have h1 : (List.replicate n (⟨0, 0, 0⟩ : Slot)).map Slot.enc = List.replicate n [PV.int 0, .int 0, .int 0] := by simp [Slot.enc]
 simp only [eff, hx, hy, makeSliceEff, hz, ho, hs, hb, h1]
 simp [PV.cell]; omega
end
def lastG (gs : List Gang) : Nat → Int
 | 0 => 0
 | k + 1 => max (lastG gs k) (gs.getD k default).til
theorem lastG_b {gs : List Gang} (h : ∀ g ∈ gs, grng g) : ∀ {k : Nat}, k ≤ gs.length → 0 ≤ lastG gs k ∧ lastG gs k ≤ 1000000
 | 0, _ => by simp [lastG]
 | k + 1, hk => by
   have h1 := lastG_b h (k := k) (by omega)
   have e : gs.getD k default = gs[k] := by rw [List.getD_eq_getElem?_getD, List.getElem?_eq_getElem (by omega)]; rfl
   have h2 := h (gs.getD k default) (by rw [e]; exact List.getElem_mem _)
   unfold grng at h2
   rw [lastG]; omega
theorem lastG_ge {gs : List Gang} {i : Nat} {g : Gang} (hg : gs[i]? = some g) : ∀ {k : Nat}, i < k → g.til ≤ lastG gs k
 | 0, hi => absurd hi (Nat.not_lt_zero _)
 | k + 1, hi => by
   rw [lastG]
   by_cases e : i = k
   · subst e
     rw [List.getD_eq_getElem?_getD, hg]; simp only [Option.getD_some]; omega
   · have := lastG_ge hg (k := k) (by omega); omega
theorem lastG_at {gs : List Gang} {k : Nat} {g : Gang} (hg : gs[k]? = some g) : max (lastG gs k) g.til = lastG gs (k + 1) := by
 rw [lastG, List.getD_eq_getElem?_getD, hg]; rfl
/-- What the search for a slot has found ahead of the time z and the gang i. -/
def FI (xs : List Task) (c : Crew) (D : List Slot) (T f m z i : Int) (fd : Bool) (D2 : List Slot) : Prop :=
 (fd = false ∧ D2 = D ∧ ∀ y : Slot, y.task = T → 0 ≤ y.gang ∧ y.gang < m → f ≤ y.start → fitsB xs c D y = true → z < y.start ∨ z = y.start ∧ i ≤ y.gang) ∨ (fd = true ∧ ∃ x, PkN xs c D T f m x ∧ D2 = D ++ [x])
section
variable {xs : List Task} {c : Crew} {D D2 : List Slot} {T f m z i : Int} {fd : Bool} {O : List Int} {k : Nat}
theorem FI.start : FI xs c D T f m f 0 false D := .inl ⟨rfl, rfl, fun y _ h1 h2 _ => by omega⟩
theorem FI.eq (h : FI xs c D T f m z i false D2) : D2 = D := by
 rcases h with ⟨_, h, _⟩ | ⟨h, _⟩
 · exact h
 · cases h
theorem FI.next (h : FI xs c D T f m z i false D) (h2 : fitsB xs c D ⟨T, i, z⟩ = false) : FI xs c D T f m z (i + 1) false D := by
 rcases h with ⟨_, _, h⟩ | ⟨h, _⟩
 · refine .inl ⟨rfl, rfl, fun y h3 h4 h5 h6 => ?_⟩
   rcases h y h3 h4 h5 h6 with h7 | ⟨h7, h8⟩
   · exact .inl h7
   · by_cases e : i = y.gang
     · have : y = ⟨T, i, z⟩ := by cases y; simp only at h3 h7 e; rw [h3, ← e, ← h7]
       rw [this, h2] at h6; cases h6
     · exact .inr ⟨h7, by omega⟩
 · cases h
theorem FI.hit (h : FI xs c D T f m z i false D) (h2 : fitsB xs c D ⟨T, i, z⟩ = true) (hi : 0 ≤ i ∧ i < m) (hz : f ≤ z) : FI xs c D T f m z (i + 1) true (D ++ [⟨T, i, z⟩]) := by
 rcases h with ⟨_, _, h⟩ | ⟨h, _⟩
 · exact .inr ⟨rfl, _, ⟨rfl, hi, hz, h2, fun y h3 h4 h5 h6 => h y h3 h4 h5 h6⟩, rfl⟩
 · cases h
theorem FI.row (h : FI xs c D T f m z i fd D2) (hi : fd = false → m ≤ i) : FI xs c D T f m (z + 1) 0 fd D2 := by
 rcases h with ⟨h1, h2, h⟩ | h
 · refine .inl ⟨h1, h2, fun y h3 h4 h5 h6 => ?_⟩
   have := hi h1
   have := h y h3 h4 h5 h6
   omega
 · exact .inr h
theorem FI.found (h : FI xs c D T f m z i true D2) : ∃ x, PkN xs c D T f m x ∧ D2 = D ++ [x] := by
 rcases h with ⟨h, _⟩ | ⟨_, h⟩
 · cases h
 · exact h
theorem FI.none {last : Int} (h : FI xs c D T f m z i false D2) (hz : last < z) (hl : ∀ y : Slot, y.task = T → 0 ≤ y.gang ∧ y.gang < m → fitsB xs c D y = true → y.start ≤ last) : NoN xs c D T f m := by
 rcases h with ⟨_, _, h⟩ | ⟨h, _⟩
 · intro y h3 h4 h5
   cases q : fitsB xs c D y with
   | false => rfl
   | true =>
     have h6 := h y h3 h4 h5 q
     have h7 := hl y h3 h4 q
     omega
 · cases h
theorem fits_in {y : Slot} (h : fitsB xs c D y = true) : inG xs c y := by
 rw [fitsB, Bool.and_eq_true, decide_eq_true_eq] at h; exact h.1
theorem fits_last {x : Task} {y : Slot} (hx : xs[T.toNat]? = some x) (hm : 0 ≤ x.minutes) (h1 : y.task = T) (h2 : 0 ≤ y.gang ∧ y.gang < c.gangs.length) (h3 : fitsB xs c D y = true) : y.start ≤ lastG c.gangs c.gangs.length := by
 obtain ⟨g, hg, hg2⟩ := gng_of (c := c) (x := y) (by omega)
 have h4 := fits_in h3
 rw [inG, hg2, tsk_at (by rw [h1]; exact hx)] at h4
 have := lastG_ge hg (k := c.gangs.length) (by omega)
 omega
/-- The facts of a slot that has been found. -/
theorem pk_ok {x : Task} {y : Slot} (h : PkN xs c D T f c.gangs.length y) (hx : xs[T.toNat]? = some x) (hf : 0 ≤ f) (hm : 0 ≤ x.minutes) (hc : ∀ g ∈ c.gangs, grng g) : (0 ≤ y.gang ∧ y.gang < c.gangs.length) ∧ 0 ≤ y.start ∧ y.start ≤ 1000000 ∧ endY xs y ≤ 1000000 := by
 obtain ⟨g, hg, hg2⟩ := gng_of (c := c) (x := y) (by have := h.gang; omega)
 have h4 := fits_in h.fit
 have e1 := tsk_at (x := y) (by rw [h.task]; exact hx)
 rw [inG, hg2, e1] at h4
 have h5 := hc g (List.mem_of_getElem? hg)
 unfold grng at h5
 have h6 := h.fro
 refine ⟨h.gang, by omega, by omega, by rw [endY, e1]; omega⟩
theorem schQ_none (h : schO xs c = none) : schQ xs c = ([], false) := by rw [schQ, h]
theorem schQ_some (h : schO xs c = some D) : schQ xs c = (SLx xs.length D, true) := by rw [schQ, h]
end
theorem slots_out {h : Heap} {d g n : Nat} {l : List Slot} (hk : h (d, g) = some (.rows 3 (l.map Slot.enc))) (hl : l.length = n) : Out h (.ref (d, g) 3 0 n) (.lit false 3 (l.map Slot.enc)) := by
 refine out_slice (.ofRef hk (by rw [List.length_map]; exact hl)) rfl (fun _ => rfl) fun a p hp => ?_
 simp only [Slot.enc, List.mem_cons, List.not_mem_nil, or_false] at hp
 rcases hp with rfl | rfl | rfl <;> exact ⟨.sc _, rfl⟩
theorem schQ_out0 {h : Heap} {xs : List Task} {c : Crew} (hs : schO xs c = none) : Out h (.tup [.nil, .bool false]) (.tup [.lit false 3 ((schQ xs c).1.map Slot.enc), .bool (schQ xs c).2]) := by
 rw [schQ_none hs]; exact out_2 (.nil 3) (out_b rfl)
theorem schQ_out {h : Heap} {xs : List Task} {c : Crew} {D : List Slot} {d g k : Nat} (hs : schO xs c = some D) (hk : h (d, g) = some (.rows 3 ((SLx xs.length (D.take k)).map Slot.enc))) (hkl : k = D.length) : Out h (.tup [.ref (d, g) 3 0 xs.length, .bool true]) (.tup [.lit false 3 ((schQ xs c).1.map Slot.enc), .bool (schQ xs c).2]) := by
 subst hkl
 rw [List.take_length] at hk
 rw [schQ_some hs]; exact out_2 (slots_out hk SLx_len) (out_b rfl)

theorem frmT_b {xs : List Task} {c : Crew} {O : List Int} {k j : Nat} {D : List Slot} (h : DInv xs c O k D) {l : List Int} : 0 ≤ frmD xs l (D.take j) ∧ frmD xs l (D.take j) ≤ 1000000 := by
 refine ⟨(frmD_ge (D.take j) 0).1, ?_⟩
 rcases frmD_is (xs := xs) (l := l) (D.take j) 0 with h1 | ⟨y, hy, _, h1⟩
 · show (D.take j).foldl _ 0 ≤ _
   rw [h1]; omega
 · show (D.take j).foldl _ 0 ≤ _
   rw [h1]; exact (h.ok y (List.mem_of_mem_take hy)).2.2.2
theorem frm_t {l : List Int} {a b e f : Int} {z : Int} (h : b = if z ∈ l then max a e else a) (hf : f = a) (hh : hasI l z = true) : max f e = b := by
 rw [h, if_pos (of_decide_eq_true hh), hf]
theorem frm_f {l : List Int} {a b e f : Int} {z : Int} (h : b = if z ∈ l then max a e else a) (hf : f = a) (hh : hasI l z = false) : f = b := by
 rw [h, if_neg (of_decide_eq_false hh), hf]

theorem take_nin {D : List Slot} {i : Nat} {y : Slot} (hn : (D.map (·.task)).Nodup) (ht : D.take (i + 1) = D.take i ++ [y]) : y.task ∉ (D.take i).map (·.task) := by
 have h1 : ((D.take (i + 1)).map (·.task)).Nodup := List.Nodup.sublist ((List.take_sublist _ _).map _) hn
 rw [ht, List.map_append, List.nodup_append] at h1
 exact fun h => h1.2.2 _ h _ (List.mem_singleton.2 rfl) rfl
theorem FI.noneF {xs : List Task} {c : Crew} {D D2 : List Slot} {T f m z i last : Int} {fd : Bool} (hfd : fd = false) (h : FI xs c D T f m z i fd D2) (hz : last < z) (hl : ∀ y : Slot, y.task = T → 0 ≤ y.gang ∧ y.gang < m → fitsB xs c D y = true → y.start ≤ last) : NoN xs c D T f m := by
 subst hfd; exact h.none hz hl
theorem FI.foundT {xs : List Task} {c : Crew} {D D2 : List Slot} {T f m z i : Int} {fd : Bool} (hfd : fd = true) (h : FI xs c D T f m z i fd D2) : ∃ x, PkN xs c D T f m x ∧ D2 = D ++ [x] := by
 subst hfd; exact h.found
theorem two_fd {fd : Bool} {p : Prop} (h1 : fd = true) (h2 : fd = false) : p := by rw [h1] at h2; cases h2

theorem fr53 : (inFrame Try.f53.ntmps (Try.f53.body.getD .skip) && Try.f53.results.toList.all (resScope Try.f53.ntmps)) = true := by kernel_rfl
theorem refSchedC (xs : List Task) (c : Crew) (hp : planE xs = 0) (hf : Fair xs) (hxl : xs.length ≤ 15) (hc : crewE c = 0) (hcf : GFair c.gangs) : PCalls Try.prog 53 [.lit true 6 (xs.map Task.enc), .agg c.enc] (.tup [.lit false 3 ((schQ xs c).1.map Slot.enc), .bool (schQ xs c).2]) := by
 refine PCalls.of_code Try.func53 rfl rfl (by kernel_rfl) mixed fr53 (by show _ ≤ 138; simp) (pure_2 (.lit _ _ _ fun row hr => pure_map Slot.pure row hr) (.sc _)) ?_
 have hct : ∀ g ∈ c.gangs, g.trades.length ≤ 6 := fun g hg => (hcf g hg).1
 have hco := crew_ok hc
 have hO := ordR_acc (nd := ndX xs)
 have hOr : ∀ z ∈ (ordR (ndX xs)), 0 ≤ z ∧ z < (xs.length : Int) := fun z hz => by have := AccOK.rng hO z hz; rw [ndX_len] at this; exact this
 refine pwp_seq_plain rfl fun K1 hK1 => ?_
 refine p_new rfl (e_box (n := 2) rfl rfl) ⟨rfl, by decide⟩ ?_
 refine p_e rfl (e_assign (v := .nil) rfl) ?_
 refine p_aS rfl ?_
 refine p_end (hK1 _ ?_); clear hK1 K1
 refine pwp_seq_plain rfl fun K2 hK2 => ?_
 refine p_e rfl (e_assign (v := .nil) rfl) ?_
 refine p_end (hK2 _ ?_); clear hK2 K2
 refine pwp_seq_plain rfl fun K3 hK3 => ?_
 refine p_e rfl (e_move (v := .lit _ _ _) rfl) ?_
 refine p_call rfl (.cons inn_lit .nil) (refOrder _ (by omega) (fun x hx => (hf x hx).1) (tasks_nd (planE_ok hp))) ?_
 refine p_e rfl (e_assign (v := .lit _ _ _) rfl) ?_
 refine p_end (hK3 _ ?_); clear hK3 K3
 refine pwp_seq_plain rfl fun K4 hK4 => ?_
 refine p_aS rfl ?_
 refine p_end (hK4 _ ?_); clear hK4 K4
 refine pwp_seq_seq ?_
 refine pwp_seq_plain rfl fun K5 hK5 => ?_
 refine p_aS rfl ?_
 refine p_end (hK5 _ ?_); clear hK5 K5
 refine pwp_seq_block fun K6 hK6 => ?_
 refine pwp_loopR (α := Nat × Int) [0, 3, 6, 7] (fun (a7 : Nat × Int) => [(8, .int (a7.2)), (9, .int (a7.1))]) (fun (a7 : Nat × Int) (h : Heap) (_ : Nat → Nat) => ((a7.1) ≤ c.gangs.length) ∧ ((a7.2) = lastG c.gangs (a7.1)) ∧ (h (3, 0) = some (.rows 2 [Crew.enc c]))) (fun (a7 : Nat × Int) => c.gangs.length - (a7.1)) (0, 0) (by exact ⟨rfl, rfl, trivial⟩) (by exact ⟨by exact Nat.zero_le _, by exact rfl, (hset_self _ _ _)⟩) fun a7 r8 h9 c10 hj11 => ?_
 obtain ⟨k, m⟩ := a7
 obtain ⟨hk, hm, hihj11_0⟩ := hj11
 try dsimp only at hk
 try dsimp only at hm
 try dsimp only at hihj11_0
 show pwp _ _ (loopQ _ _ _) ⟨sets (mix _ _ _) [(8, .int m), (9, .int k)], _, _⟩
 refine pwp_seq_seq ?_
 refine pwp_seq_plain rfl fun K12 hK12 => ?_
 refine p_mS rfl ?_
 refine p_e rfl (e_faQ pl2 rfl) ?_
 refine p_e rfl (e_lH (v := .lit _ _ _) rfl hihj11_0 rfl) ?_
 refine p_e rfl (e_len rfl (by kernel_rfl)) ?_
 refine p_e rfl (e_lt rfl rfl) ?_
 refine p_end (hK12 _ ?_); clear hK12 K12
 refine pwp_seq_cond rfl fun K13 hK13 => ⟨fun hb14 => ?_, fun hb14 => ?_⟩
 ·have hb14R := hb14; try simp only [zz] at hb14
  obtain ⟨g, hg, hd, ht⟩ := get_lt (xs := c.gangs) (i := k) (by omega)
  refine pwp_skip ?_
  refine seq_norm (hK13 _ ?_); clear hK13 K13
  refine pwp_seq_block fun K15 hK15 => ?_
  refine pwp_plain rfl fun K16 hK16 => ?_
  refine p_mS rfl ?_
  refine p_e rfl (e_faQ pl2 rfl) ?_
  refine p_e rfl (e_lH (v := .lit _ _ _) rfl hihj11_0 rfl) ?_
  refine p_mS rfl ?_
  refine p_e rfl (e_ixL rfl rfl) ?_
  refine p_e rfl (e_fb pl4 rfl) ?_
  refine p_e rfl (e_load (v := .sc _) rfl (by kernel_rfl) (by kernel_rfl) (by kernel_rfl) (by first | omega | (simp only [List.length_map]; omega)) (by decide) ((cell_map hg _).trans rfl)) ?_
  refine p_e rfl (e_max rfl rfl) ?_
  refine p_aS rfl ?_
  refine p_end (hK16 _ ?_); clear hK16 K16
  refine block_norm ?_
  refine seq_norm (hK15 _ ?_); clear hK15 K15
  refine pwp_plain rfl fun K17 hK17 => ?_
  refine p_mS rfl ?_
  refine p_e rfl (e_adL rfl rfl) ?_
  refine p_aS rfl ?_
  refine p_end (hK17 _ ?_); clear hK17 K17
  exact loop_again ((k + 1, (max m g.til))) (by show _ < _; simp only; omega) ⟨rfl, rfl, rfl, rfl, trivial⟩ ⟨rfl, rfl, trivial⟩ (by exact ⟨by show _ + 1 ≤ _; simp only [List.length_map] at *; omega, by (rw [hm, lastG_at hg]), hihj11_0⟩)
 have hb14R := hb14; try simp only [zz] at hb14
 obtain rfl : k = c.gangs.length := by simp only [List.length_map] at *; omega
 have hlb := lastG_b hco.2.1 (Nat.le_refl c.gangs.length)
 refine pwp_exit ?_
 refine exit_seq ?_
 clear hK13 K13
 refine exit_loop ?_
 refine exit_here ?_
 refine seq_norm (hK6 _ ?_); clear hK6 K6
 refine pwp_seq_seq ?_
 refine pwp_seq_plain rfl fun K18 hK18 => ?_
 refine p_aS rfl ?_
 refine p_end (hK18 _ ?_); clear hK18 K18
 refine pwp_seq_block fun K19 hK19 => ?_
 refine pwp_loopR (α := Nat × (List Slot) × PV) [0, 3, 7, 8] (fun (a20 : Nat × (List Slot) × PV) => [(6, (a20.2.2)), (10, .int (a20.1))]) (fun (a20 : Nat × (List Slot) × PV) (h : Heap) (_ : Nat → Nat) => ((a20.1) ≤ (ordR (ndX xs)).length) ∧ (goS xs c (ordR (ndX xs)) [] = goS xs c ((ordR (ndX xs)).drop (a20.1)) (a20.2.1)) ∧ (DInv xs c (ordR (ndX xs)) (a20.1) (a20.2.1)) ∧ (SliceAt h 114 (a20.2.2) 3 ((a20.2.1).map Slot.enc)) ∧ (h (3, 0) = some (.rows 2 [Crew.enc c]))) (fun (a20 : Nat × (List Slot) × PV) => (ordR (ndX xs)).length - (a20.1)) (0, [], .nil) (by exact ⟨rfl, rfl, trivial⟩) (by exact ⟨by exact Nat.zero_le _, by exact rfl, by exact DInv.nil, .nil, hihj11_0⟩) fun a20 r21 h22 c23 hj24 => ?_
 obtain ⟨k, D, v⟩ := a20
 obtain ⟨hk, hgo, hdi, hihj24_0, hihj24_1⟩ := hj24
 try dsimp only at hk
 try dsimp only at hgo
 try dsimp only at hdi
 try dsimp only at hihj24_0
 try dsimp only at hihj24_1
 show pwp _ _ (loopQ _ _ _) ⟨sets (mix _ _ _) [(6, v), (10, .int k)], _, _⟩
 refine pwp_seq_seq ?_
 refine pwp_seq_plain rfl fun K25 hK25 => ?_
 refine p_mS rfl ?_
 refine p_e rfl (e_move (v := .lit _ _ _) rfl) ?_
 refine p_e rfl (e_len rfl (by kernel_rfl)) ?_
 refine p_e rfl (e_lt rfl rfl) ?_
 refine p_end (hK25 _ ?_); clear hK25 K25
 refine pwp_seq_cond rfl fun K26 hK26 => ⟨fun hb27 => ?_, fun hb27 => ?_⟩
 ·have hb27R := hb27; try simp only [zz] at hb27
  have hkO : k < (ordR (ndX xs)).length := by simp only [List.length_map] at *; omega
  obtain ⟨hr0, hr1⟩ := AccOK.rng hO _ (at0_mem hkO)
  rw [ndX_len] at hr1
  obtain ⟨x, hx, _, _⟩ := get_lt (xs := xs) (i := (at0 (ordR (ndX xs)) k).toNat) (by omega)
  have hxm := (task_ok hp hx).1.2.2
  have hxl1 := (hf x (List.mem_of_getElem? hx)).1
  have hDl := hdi.len (by omega)
  have hOl := ordR_len hO
  have hdk := hdi.dok hOr
  have hxd : xs.getD (at0 (ordR (ndX xs)) k).toNat default = x := by rw [List.getD_eq_getElem?_getD, hx]; rfl
  have hdr := drop_at0 hkO
  refine pwp_skip ?_
  refine seq_norm (hK26 _ ?_); clear hK26 K26
  refine pwp_seq_block fun K28 hK28 => ?_
  refine pwp_seq_plain rfl fun K29 hK29 => ?_
  refine p_e rfl (e_move (v := .lit _ _ _) rfl) ?_
  refine p_mS rfl ?_
  refine p_e rfl (e_ixL rfl rfl) ?_
  refine p_e rfl (e_load (v := .sc _) rfl (by kernel_rfl) (by kernel_rfl) (by kernel_rfl) (by first | omega | (simp only [List.length_map]; omega)) (by decide) ((cell_map (at0_get (l := (ordR (ndX xs))) (i := k) hkO) _).trans rfl)) ?_
  refine p_aS rfl ?_
  refine p_end (hK29 _ ?_); clear hK29 K29
  refine pwp_seq_plain rfl fun K30 hK30 => ?_
  refine p_aS rfl ?_
  refine p_end (hK30 _ ?_); clear hK30 K30
  refine pwp_seq_seq ?_
  refine pwp_seq_plain rfl fun K31 hK31 => ?_
  refine p_aS rfl ?_
  refine p_end (hK31 _ ?_); clear hK31 K31
  refine pwp_seq_block fun K32 hK32 => ?_
  refine pwp_loopR (α := Nat × Int) [0, 3, 6, 7, 8, 10, 11] (fun (a33 : Nat × Int) => [(12, .int (a33.2)), (13, .int (a33.1))]) (fun (a33 : Nat × Int) (h : Heap) (_ : Nat → Nat) => ((a33.1) ≤ D.length) ∧ ((a33.2) = frmD xs x.needs (D.take (a33.1))) ∧ (SliceAt h 114 v 3 (D.map Slot.enc)) ∧ (h (3, 0) = some (.rows 2 [Crew.enc c]))) (fun (a33 : Nat × Int) => D.length - (a33.1)) (0, 0) (by exact ⟨rfl, rfl, trivial⟩) (by exact ⟨by exact Nat.zero_le _, by exact rfl, hihj24_0, hihj24_1⟩) fun a33 r34 h35 c36 hj37 => ?_
  obtain ⟨j, f⟩ := a33
  obtain ⟨hj, hfe, hihj37_0, hihj37_1⟩ := hj37
  try dsimp only at hj
  try dsimp only at hfe
  try dsimp only at hihj37_0
  try dsimp only at hihj37_1
  show pwp _ _ (loopQ _ _ _) ⟨sets (mix _ _ _) [(12, .int f), (13, .int j)], _, _⟩
  refine pwp_seq_seq ?_
  refine pwp_seq_plain rfl fun K38 hK38 => ?_
  refine p_mS rfl ?_
  refine p_e rfl (e_move (v := _) rfl) ?_
  refine p_e rfl (SliceAt.len hihj37_0 rfl (by kernel_rfl)) ?_
  refine p_e rfl (e_lt rfl rfl) ?_
  refine p_end (hK38 _ ?_); clear hK38 K38
  refine pwp_seq_cond rfl fun K39 hK39 => ⟨fun hb40 => ?_, fun hb40 => ?_⟩
  ·have hb40R := hb40; try simp only [zz] at hb40
   obtain ⟨y, hy, hdy, hty⟩ := get_lt (xs := D) (i := j) (by omega)
   have hyk := hdk y (List.mem_of_getElem? hy)
   obtain ⟨u, hu, _, _⟩ := get_lt (xs := xs) (i := y.task.toNat) (by omega)
   have hum := (task_ok hp hu).1.2.2
   have hsn := frmD_snoc (xs := xs) (l := x.needs) (D := D.take j) (x := y)
   rw [← hty, endY, tsk_at hu] at hsn
   have hfb := frmT_b hdi (l := x.needs) (j := j)
   refine pwp_skip ?_
   refine seq_norm (hK39 _ ?_); clear hK39 K39
   refine pwp_seq_block fun K41 hK41 => ?_
   obtain ⟨g42, ev44, hg43⟩ := SliceAt.isRef hihj37_0 (by (intro q; have q2 := congrArg List.length q; simp only [List.length_map, List.length_nil] at q2; omega))
   subst ev44
   refine pwp_seq_gops rfl fun K45 hK45 => ?_
   refine g_begin ?_
   refine g_e rfl (e_move (v := .lit _ _ _) rfl) ?_
   refine g_mS rfl rfl ?_
   refine g_e rfl (e_ixL rfl rfl) ?_
   refine g_e rfl (e_fb pl6 rfl) ?_
   refine g_e rfl (e_load (v := .lit _ _ _) rfl (by kernel_rfl) (by kernel_rfl) (by kernel_rfl) (by first | omega | (simp only [List.length_map]; omega)) (by decide) ((cell_map hx _).trans rfl)) ?_
   refine g_e rfl (e_move (v := .ref _ _ _ _) rfl) ?_
   refine g_mS rfl rfl ?_
   refine g_e rfl (e_ixaR0 rfl rfl (by kernel_rfl) (by kernel_rfl) (by first | omega | (simp only [List.length_map]; omega))) ?_
   refine g_e rfl (e_faQ pl3 rfl) ?_
   refine g_e rfl (e_loadH (v := .sc _) rfl hg43 (by kernel_rfl) (by kernel_rfl) (by kernel_rfl) (by first | omega | (simp only [List.length_map]; omega)) (by decide) ((cell_map hy _).trans rfl)) ?_
   refine g_call rfl rfl rfl rfl (.cons inn_lit (.cons inn_sc .nil)) (HasC _ _ (by omega)) ?_
   refine g_end (ds := []) (by kernel_rfl) rfl (hK45 _ ?_); clear hK45 K45
   refine pwp_cond rfl (fun hb46 => ?_) (fun hb46 => ?_)
   ·have hb46R := hb46; try simp only [zz] at hb46
    refine pwp_gops rfl fun K47 hK47 => ?_
    refine g_begin ?_
    refine g_mS rfl rfl ?_
    refine g_e rfl (e_move (v := .ref _ _ _ _) rfl) ?_
    refine g_mS rfl rfl ?_
    refine g_e rfl (e_ixaR0 rfl rfl (by kernel_rfl) (by kernel_rfl) (by first | omega | (simp only [List.length_map]; omega))) ?_
    refine g_e rfl (e_faQ pl3 rfl) ?_
    refine g_e rfl (e_loadH (v := .sc _) rfl hg43 (by kernel_rfl) (by kernel_rfl) (by kernel_rfl) (by first | omega | (simp only [List.length_map]; omega)) (by decide) ((cell_map hy _).trans rfl)) ?_
    refine g_e rfl (e_move (v := .lit _ _ _) rfl) ?_
    refine g_e rfl (e_move (v := .ref _ _ _ _) rfl) ?_
    refine g_mS rfl rfl ?_
    refine g_e rfl (e_ixaR0 rfl rfl (by kernel_rfl) (by kernel_rfl) (by first | omega | (simp only [List.length_map]; omega))) ?_
    refine g_e rfl (e_faQ pl3 rfl) ?_
    refine g_e rfl (e_loadH (v := .sc _) rfl hg43 (by kernel_rfl) (by kernel_rfl) (by kernel_rfl) (by first | omega | (simp only [List.length_map]; omega)) (by decide) ((cell_map hy _).trans rfl)) ?_
    refine g_e rfl (e_ixL rfl rfl) ?_
    refine g_e rfl (e_fb pl6 rfl) ?_
    refine g_e rfl (e_load (v := .sc _) rfl (by kernel_rfl) (by kernel_rfl) (by kernel_rfl) (by first | omega | (simp only [List.length_map]; omega)) (by decide) ((cell_map hu _).trans rfl)) ?_
    refine g_e rfl (e_adL rfl rfl) ?_
    refine g_e rfl (e_max rfl rfl) ?_
    refine g_aS rfl rfl ?_
    refine g_end (ds := []) (by kernel_rfl) rfl (hK47 _ ?_); clear hK47 K47
    refine block_norm ?_
    refine seq_norm (hK41 _ ?_); clear hK41 K41
    refine pwp_plain rfl fun K48 hK48 => ?_
    refine p_mS rfl ?_
    refine p_e rfl (e_adL rfl rfl) ?_
    refine p_aS rfl ?_
    refine p_end (hK48 _ ?_); clear hK48 K48
    exact loop_again ((j + 1, (max f (y.start + u.minutes)))) (by show _ < _; simp only; omega) ⟨rfl, rfl, rfl, rfl, rfl, rfl, rfl, trivial⟩ ⟨rfl, rfl, trivial⟩ (by exact ⟨by show _ + 1 ≤ _; simp only [List.length_map] at *; omega, by first | exact frm_t hsn hfe (by assumption) | exact frm_f hsn hfe (by assumption), (.ofRef hg43 (by simp)), hihj37_1⟩)
   have hb46R := hb46; try simp only [zz] at hb46
   refine pwp_skip ?_
   refine block_norm ?_
   refine seq_norm (hK41 _ ?_); clear hK41 K41
   refine pwp_plain rfl fun K49 hK49 => ?_
   refine p_mS rfl ?_
   refine p_e rfl (e_adL rfl rfl) ?_
   refine p_aS rfl ?_
   refine p_end (hK49 _ ?_); clear hK49 K49
   exact loop_again ((j + 1, f)) (by show _ < _; simp only; omega) ⟨rfl, rfl, rfl, rfl, rfl, rfl, rfl, trivial⟩ ⟨rfl, rfl, trivial⟩ (by exact ⟨by show _ + 1 ≤ _; simp only [List.length_map] at *; omega, by first | exact frm_t hsn hfe (by assumption) | exact frm_f hsn hfe (by assumption), (.ofRef hg43 (by simp)), hihj37_1⟩)
  have hb40R := hb40; try simp only [zz] at hb40
  obtain rfl : j = D.length := by simp only [List.length_map] at *; omega
  rw [List.take_length] at hfe
  have hfb := hdi.frm (l := x.needs)
  refine pwp_exit ?_
  refine exit_seq ?_
  clear hK39 K39
  refine exit_loop ?_
  refine exit_here ?_
  refine seq_norm (hK32 _ ?_); clear hK32 K32
  refine pwp_seq_plain rfl fun K50 hK50 => ?_
  refine p_aS rfl ?_
  refine p_end (hK50 _ ?_); clear hK50 K50
  refine pwp_seq_seq ?_
  refine pwp_seq_plain rfl fun K51 hK51 => ?_
  refine p_mS rfl ?_
  refine p_aS rfl ?_
  refine p_end (hK51 _ ?_); clear hK51 K51
  refine pwp_seq_block fun K52 hK52 => ?_
  refine pwp_loopR (α := Int × Bool × (List Slot) × PV) [0, 3, 7, 8, 10, 11] (fun (a53 : Int × Bool × (List Slot) × PV) => [(6, (a53.2.2.2)), (14, .bool (a53.2.1)), (15, .int (a53.1))]) (fun (a53 : Int × Bool × (List Slot) × PV) (h : Heap) (_ : Nat → Nat) => (f ≤ (a53.1) ∧ (a53.1) ≤ 1000001) ∧ (FI xs c D (at0 (ordR (ndX xs)) k) f c.gangs.length (a53.1) 0 (a53.2.1) (a53.2.2.1)) ∧ (SliceAt h 114 (a53.2.2.2) 3 ((a53.2.2.1).map Slot.enc)) ∧ (h (3, 0) = some (.rows 2 [Crew.enc c]))) (fun (a53 : Int × Bool × (List Slot) × PV) => (1000001 - (a53.1)).toNat) (f, false, D, v) (by exact ⟨rfl, rfl, rfl, trivial⟩) (by exact ⟨by omega, by exact FI.start, hihj37_0, hihj37_1⟩) fun a53 r54 h55 c56 hj57 => ?_
  obtain ⟨z, fd, D2, v2⟩ := a53
  obtain ⟨hz, hfi, hihj57_0, hihj57_1⟩ := hj57
  try dsimp only at hz
  try dsimp only at hfi
  try dsimp only at hihj57_0
  try dsimp only at hihj57_1
  show pwp _ _ (loopQ _ _ _) ⟨sets (mix _ _ _) [(6, v2), (14, .bool fd), (15, .int z)], _, _⟩
  refine pwp_seq_seq ?_
  refine pwp_seq_gops rfl fun K58 hK58 => ?_
  refine g_begin ?_
  refine g_mS rfl rfl ?_
  refine g_mS rfl rfl ?_
  refine g_e rfl (e_le rfl rfl) ?_
  refine g_mS rfl rfl ?_
  refine g_cases (fun hb59 => ?_) (fun hb59 => ?_)
  ·have hb59R := hb59; try simp only [zz] at hb59
   refine g_mS rfl rfl ?_
   refine g_e rfl (e_not rfl) ?_
   refine g_pT rfl rfl rfl ?_
   refine g_end (ds := [86, 87]) rfl rfl (hK58 _ ?_); clear hK58 K58
   refine pwp_seq_cond rfl fun K60 hK60 => ⟨fun hb61 => ?_, fun hb61 => ?_⟩
   ·have hb61R := hb61; try simp only [zz] at hb61
    refine pwp_skip ?_
    refine seq_norm (hK60 _ ?_); clear hK60 K60
    refine pwp_seq_block fun K62 hK62 => ?_
    refine pwp_seq_plain rfl fun K63 hK63 => ?_
    refine p_aS rfl ?_
    refine p_end (hK63 _ ?_); clear hK63 K63
    refine pwp_block ?_
    refine pwp_loopR (α := Nat × Bool × (List Slot) × PV) [0, 3, 7, 8, 10, 11, 15] (fun (a64 : Nat × Bool × (List Slot) × PV) => [(6, (a64.2.2.2)), (14, .bool (a64.2.1)), (16, .int (a64.1))]) (fun (a64 : Nat × Bool × (List Slot) × PV) (h : Heap) (_ : Nat → Nat) => ((a64.1) ≤ c.gangs.length) ∧ (FI xs c D (at0 (ordR (ndX xs)) k) f c.gangs.length z (a64.1) (a64.2.1) (a64.2.2.1)) ∧ (SliceAt h 114 (a64.2.2.2) 3 ((a64.2.2.1).map Slot.enc)) ∧ (h (3, 0) = some (.rows 2 [Crew.enc c]))) (fun (a64 : Nat × Bool × (List Slot) × PV) => c.gangs.length - (a64.1)) (0, _, _, _) (by exact ⟨rfl, rfl, rfl, trivial⟩) (by exact ⟨by exact Nat.zero_le _, by exact hfi, hihj57_0, hihj57_1⟩) fun a64 r65 h66 c67 hj68 => ?_
    obtain ⟨i, fd, D2, v2⟩ := a64
    obtain ⟨hi, hfi2, hihj68_0, hihj68_1⟩ := hj68
    try dsimp only at hi
    try dsimp only at hfi2
    try dsimp only at hihj68_0
    try dsimp only at hihj68_1
    show pwp _ _ (loopQ _ _ _) ⟨sets (mix _ _ _) [(6, v2), (14, .bool fd), (16, .int i)], _, _⟩
    refine pwp_seq_seq ?_
    refine pwp_seq_gops rfl fun K69 hK69 => ?_
    refine g_begin ?_
    refine g_mS rfl rfl ?_
    refine g_e rfl (e_faQ pl2 rfl) ?_
    refine g_e rfl (e_lH (v := .lit _ _ _) rfl hihj68_1 rfl) ?_
    refine g_e rfl (e_len rfl (by kernel_rfl)) ?_
    refine g_e rfl (e_lt rfl rfl) ?_
    refine g_mS rfl rfl ?_
    refine g_cases (fun hb70 => ?_) (fun hb70 => ?_)
    ·have hb70R := hb70; try simp only [zz] at hb70
     refine g_mS rfl rfl ?_
     refine g_e rfl (e_not rfl) ?_
     refine g_pT rfl rfl rfl ?_
     refine g_end (ds := [97, 98]) rfl rfl (hK69 _ ?_); clear hK69 K69
     refine pwp_seq_cond rfl fun K71 hK71 => ⟨fun hb72 => ?_, fun hb72 => ?_⟩
     ·have hb72R := hb72; try simp only [zz] at hb72
      refine pwp_skip ?_
      refine seq_norm (hK71 _ ?_); clear hK71 K71
      refine pwp_seq_block fun K73 hK73 => ?_
      have hfd : fd = false := (by assumption)
      subst hfd
      have hDD := hfi2.eq.symm
      subst hDD
      refine pwp_seq_plain rfl fun K74 hK74 => ?_
      refine p_mS rfl ?_
      refine p_mS rfl ?_
      refine p_mS rfl ?_
      refine p_e rfl (e_build (cs := Slot.enc (⟨(at0 (ordR (ndX xs)) k), (i : Int), z⟩ : Slot)) (zs := [.int 0, .int 0, .int 0]) (pl := [(0, 1, false), (1, 1, false), (2, 1, false)]) (by kernel_rfl) (by kernel_rfl) (by kernel_rfl) rfl rfl (by exact ⟨by decide, rfl, Nat.le_of_ble_eq_true rfl, rfl, ⟨by decide, rfl, Nat.le_of_ble_eq_true rfl, rfl, ⟨by decide, rfl, Nat.le_of_ble_eq_true rfl, rfl, trivial⟩⟩⟩) rfl) ?_
      refine p_new rfl (e_alloc (cs := [.int 0, .int 0, .int 0]) (n := 3) (by kernel_rfl) rfl (by decide)) (ob_alloc (by decide)) ?_
      refine p_store rfl (e_storeA rfl (hset_self _ _ _) rfl rfl rfl (by kernel_rfl) rfl (by kernel_rfl)) trivial ?_
      refine p_end (hK74 _ ?_); clear hK74 K74
      refine pwp_seq_plain rfl fun K75 hK75 => ?_
      refine p_e rfl (e_move (v := .lit _ _ _) rfl) ?_
      refine p_e rfl (e_loadHA (cs := Crew.enc (c)) (n := 2) rfl ((hset_ne (key_ne rfl)).trans ((hset_ne (key_ne rfl)).trans hihj68_1)) (by kernel_rfl) (by kernel_rfl) (by kernel_rfl) (by exact Nat.zero_lt_one) (by decide) rfl) ?_
      refine p_e rfl (e_move (v := _) rfl) ?_
      refine p_e rfl (e_loadHA (cs := Slot.enc ((⟨(at0 (ordR (ndX xs)) k), (i : Int), z⟩ : Slot))) (n := 3) rfl (hset_self _ _ _) (by kernel_rfl) (by kernel_rfl) (by kernel_rfl) (by exact Nat.zero_lt_one) (by decide) rfl) ?_
      refine p_call rfl (.cons inn_lit (.cons (inn_agg (Crew.pure _)) (.cons (SliceAt.inn (rows' := (D).map Slot.enc) (hihj68_0.keep fun _ => (hset_ne (key_ne rfl)).trans ((hset_ne (key_ne rfl)).trans (rfl))) (by simp) (by first | exact pure_map Slot.pure | (simp only [← List.map_append, List.nil_append]; exact pure_map Slot.pure))) (.cons (inn_agg (Slot.pure _)) .nil)))) (fitsC _ _ _ _ hp hc (fun g hg => by have := hct g hg; omega) (by omega) (by omega) (by dsimp only; omega) (by dsimp only; omega) (by dsimp only; omega) hdk) ?_
      refine p_end (hK75 _ ?_); clear hK75 K75
      refine pwp_cond rfl (fun hb76 => ?_) (fun hb76 => ?_)
      ·have hb76R := hb76; try simp only [zz] at hb76
       refine pwp_plain rfl fun K77 hK77 => ?_
       refine p_e rfl (e_move (v := _) rfl) ?_
       refine p_e rfl (e_loadHA (cs := Slot.enc ((⟨(at0 (ordR (ndX xs)) k), (i : Int), z⟩ : Slot))) (n := 3) rfl (hset_self _ _ _) (by kernel_rfl) (by kernel_rfl) (by kernel_rfl) (by exact Nat.zero_lt_one) (by decide) rfl) ?_
       refine p_new rfl (e_bslice (rows := [Slot.enc (⟨(at0 (ordR (ndX xs)) k), (i : Int), z⟩ : Slot)]) (zs := [.int 0, .int 0, .int 0]) (sz := 3) (by kernel_rfl) (by kernel_rfl) rfl (by kernel_rfl) (by decide) rfl rfl (by exact ⟨by decide, rfl, rfl, trivial⟩) rfl) trivial ?_
       refine p_app rfl rfl rfl (hihj68_0.keep fun _ => (hset_ne (key_ne rfl)).trans ((hset_ne (key_ne rfl)).trans ((hset_ne (key_ne rfl)).trans (rfl)))) (src_ref (hset_self _ _ _) rfl) (by kernel_rfl) (by simp only [List.length_append, List.length_map, List.length_nil, List.length_cons]; omega) fun v78 h79 c80 hs81 hf82 => ?_
       have ho83 := (hf82 (3, _) (key_ne rfl) (fun _ _ => key_ne rfl)).trans ((hset_ne (key_ne rfl)).trans ((hset_ne (key_ne rfl)).trans ((hset_ne (key_ne rfl)).trans hihj68_1)))
       have ho84 := (hf82 (17, _) (key_ne rfl) (fun _ _ => key_ne rfl)).trans ((hset_ne (key_ne rfl)).trans (hset_self _ _ _))
       have ho85 := (hf82 (113, _) (key_ne rfl) (fun _ _ => key_ne rfl)).trans (hset_self _ _ _)
       refine p_e rfl (e_assign (v := _) rfl) ?_
       refine p_aS rfl ?_
       refine p_end (hK77 _ ?_); clear hK77 K77
       refine block_norm ?_
       refine seq_norm (hK73 _ ?_); clear hK73 K73
       refine pwp_plain rfl fun K86 hK86 => ?_
       refine p_mS rfl ?_
       refine p_e rfl (e_adL rfl rfl) ?_
       refine p_aS rfl ?_
       refine p_end (hK86 _ ?_); clear hK86 K86
       exact loop_again ((i + 1, true, _, v78)) (by show _ < _; simp only; omega) ⟨rfl, rfl, rfl, rfl, rfl, rfl, rfl, trivial⟩ ⟨rfl, rfl, rfl, trivial⟩ (by exact ⟨by show _ + 1 ≤ _; simp only [List.length_map] at *; omega, by first | exact FI.hit hfi2 (by assumption) (by omega) (by omega) | exact FI.next hfi2 (by assumption), (SliceAt.to hs81 (by (first | rfl | (simp only [List.map_append, List.map_cons, List.map_nil] <;> rfl)))), ho83⟩)
      have hb76R := hb76; try simp only [zz] at hb76
      refine pwp_skip ?_
      refine block_norm ?_
      refine seq_norm (hK73 _ ?_); clear hK73 K73
      refine pwp_plain rfl fun K87 hK87 => ?_
      refine p_mS rfl ?_
      refine p_e rfl (e_adL rfl rfl) ?_
      refine p_aS rfl ?_
      refine p_end (hK87 _ ?_); clear hK87 K87
      exact loop_again ((i + 1, false, _, v2)) (by show _ < _; simp only; omega) ⟨rfl, rfl, rfl, rfl, rfl, rfl, rfl, trivial⟩ ⟨rfl, rfl, rfl, trivial⟩ (by exact ⟨by show _ + 1 ≤ _; simp only [List.length_map] at *; omega, by first | exact FI.hit hfi2 (by assumption) (by omega) (by omega) | exact FI.next hfi2 (by assumption), (SliceAt.to (hihj68_0.keep fun _ => (hset_ne (key_ne rfl)).trans ((hset_ne (key_ne rfl)).trans (rfl))) (by (first | rfl | (simp only [List.map_append, List.map_cons, List.map_nil] <;> rfl)))), ((hset_ne (key_ne rfl)).trans ((hset_ne (key_ne rfl)).trans hihj68_1))⟩)
     have hb72R := hb72; try simp only [zz] at hb72
     have hfi3 := hfi2.row (fun q => by first | omega | exact two_fd (by assumption) q)
     refine pwp_exit ?_
     refine exit_seq ?_
     clear hK71 K71
     refine exit_loop ?_
     refine exit_here ?_
     refine block_norm ?_
     refine seq_norm (hK62 _ ?_); clear hK62 K62
     refine pwp_plain rfl fun K88 hK88 => ?_
     refine p_mS rfl ?_
     refine p_e rfl (e_adL rfl rfl) ?_
     refine p_aS rfl ?_
     refine p_end (hK88 _ ?_); clear hK88 K88
     exact loop_again ((z + 1, fd, _, v2)) (by show _ < _; simp only; omega) ⟨rfl, rfl, rfl, rfl, rfl, rfl, trivial⟩ ⟨rfl, rfl, rfl, trivial⟩ (by exact ⟨by show f ≤ z + 1 ∧ z + 1 ≤ 1000001; omega, by exact hfi2.row (fun q => by first | omega | exact two_fd (by assumption) q), (SliceAt.to hihj68_0 (by rfl)), hihj68_1⟩)
    have hb70R := hb70; try simp only [zz] at hb70
    iterate 2 refine g_skip rfl rfl rfl ?_
    refine g_pF rfl rfl rfl ?_
    refine g_end (ds := [97, 98]) rfl rfl (hK69 _ ?_); clear hK69 K69
    refine pwp_seq_cond (t := false) rfl fun K89 hK89 => ⟨nofun, fun _ => ?_⟩
    refine pwp_exit ?_
    refine exit_seq ?_
    clear hK89 K89
    refine exit_loop ?_
    refine exit_here ?_
    refine block_norm ?_
    refine seq_norm (hK62 _ ?_); clear hK62 K62
    refine pwp_plain rfl fun K90 hK90 => ?_
    refine p_mS rfl ?_
    refine p_e rfl (e_adL rfl rfl) ?_
    refine p_aS rfl ?_
    refine p_end (hK90 _ ?_); clear hK90 K90
    exact loop_again ((z + 1, fd, _, v2)) (by show _ < _; simp only; omega) ⟨rfl, rfl, rfl, rfl, rfl, rfl, trivial⟩ ⟨rfl, rfl, rfl, trivial⟩ (by exact ⟨by show f ≤ z + 1 ∧ z + 1 ≤ 1000001; omega, by exact hfi2.row (fun q => by first | omega | exact two_fd (by assumption) q), (SliceAt.to hihj68_0 (by rfl)), hihj68_1⟩)
   have hb61R := hb61; try simp only [zz] at hb61
   refine pwp_exit ?_
   refine exit_seq ?_
   clear hK60 K60
   refine exit_loop ?_
   refine exit_here ?_
   refine seq_norm (hK52 _ ?_); clear hK52 K52
   refine pwp_seq_plain rfl fun K91 hK91 => ?_
   refine p_mS rfl ?_
   refine p_e rfl (e_not rfl) ?_
   refine p_end (hK91 _ ?_); clear hK91 K91
   refine pwp_cond rfl (fun hb92 => ?_) (fun hb92 => ?_)
   ·have hb92R := hb92; try simp only [zz] at hb92
    refine pwp_seq_plain rfl fun K93 hK93 => ?_
    refine p_e rfl (e_assign (v := .nil) rfl) ?_
    refine p_aS rfl ?_
    refine p_end (hK93 _ ?_); clear hK93 K93
    refine pwp_ret ?_
    refine ret_block ?_
    refine ret_seq ?_
    refine ret_loop ?_
    refine ret_block ?_
    refine ret_seq ?_
    refine end2 (v := .nil) (w := .sc _) rfl rfl ?_
    exact two_fd (by assumption) (by assumption)
   have hb92R := hb92; try simp only [zz] at hb92
   refine pwp_skip ?_
   refine block_norm ?_
   refine seq_norm (hK28 _ ?_); clear hK28 K28
   have hfd : fd = true := (by assumption)
   obtain ⟨y, hpk, hDy⟩ := FI.foundT hfd hfi
   have hgo3 := go_some hdr hgo (by rw [hxd, ← hfe]; exact pk_some hpk)
   have hdi3 := hdi.snoc hkO hpk.task (pk_ok hpk hx (by omega) (by omega) hco.2.1)
   subst hDy
   refine pwp_plain rfl fun K94 hK94 => ?_
   refine p_mS rfl ?_
   refine p_e rfl (e_adL rfl rfl) ?_
   refine p_aS rfl ?_
   refine p_end (hK94 _ ?_); clear hK94 K94
   exact loop_again ((k + 1, _, v2)) (by show _ < _; simp only; omega) ⟨rfl, rfl, rfl, rfl, trivial⟩ ⟨rfl, rfl, trivial⟩ (by exact ⟨by show _ + 1 ≤ _; simp only [List.length_map] at *; omega, by exact hgo3, by exact hdi3, (SliceAt.to hihj57_0 (by rfl)), hihj57_1⟩)
  have hb59R := hb59; try simp only [zz] at hb59
  iterate 2 refine g_skip rfl rfl rfl ?_
  refine g_pF rfl rfl rfl ?_
  refine g_end (ds := [86, 87]) rfl rfl (hK58 _ ?_); clear hK58 K58
  refine pwp_seq_cond (t := false) rfl fun K95 hK95 => ⟨nofun, fun _ => ?_⟩
  refine pwp_exit ?_
  refine exit_seq ?_
  clear hK95 K95
  refine exit_loop ?_
  refine exit_here ?_
  refine seq_norm (hK52 _ ?_); clear hK52 K52
  refine pwp_seq_plain rfl fun K96 hK96 => ?_
  refine p_mS rfl ?_
  refine p_e rfl (e_not rfl) ?_
  refine p_end (hK96 _ ?_); clear hK96 K96
  refine pwp_cond rfl (fun hb97 => ?_) (fun hb97 => ?_)
  ·have hb97R := hb97; try simp only [zz] at hb97
   refine pwp_seq_plain rfl fun K98 hK98 => ?_
   refine p_e rfl (e_assign (v := .nil) rfl) ?_
   refine p_aS rfl ?_
   refine p_end (hK98 _ ?_); clear hK98 K98
   refine pwp_ret ?_
   refine ret_block ?_
   refine ret_seq ?_
   refine ret_loop ?_
   refine ret_block ?_
   refine ret_seq ?_
   refine end2 (v := .nil) (w := .sc _) rfl rfl ?_
   exact schQ_out0 (go_none hdr hgo (by rw [hxd, ← hfe]; exact pk_none (FI.noneF (by assumption) hfi (by omega) fun y h1 h2 h3 => fits_last hx (by omega) h1 h2 h3)))
  have hb97R := hb97; try simp only [zz] at hb97
  refine pwp_skip ?_
  refine block_norm ?_
  refine seq_norm (hK28 _ ?_); clear hK28 K28
  have hfd : fd = true := (by assumption)
  obtain ⟨y, hpk, hDy⟩ := FI.foundT hfd hfi
  have hgo3 := go_some hdr hgo (by rw [hxd, ← hfe]; exact pk_some hpk)
  have hdi3 := hdi.snoc hkO hpk.task (pk_ok hpk hx (by omega) (by omega) hco.2.1)
  subst hDy
  refine pwp_plain rfl fun K99 hK99 => ?_
  refine p_mS rfl ?_
  refine p_e rfl (e_adL rfl rfl) ?_
  refine p_aS rfl ?_
  refine p_end (hK99 _ ?_); clear hK99 K99
  exact loop_again ((k + 1, _, v2)) (by show _ < _; simp only; omega) ⟨rfl, rfl, rfl, rfl, trivial⟩ ⟨rfl, rfl, trivial⟩ (by exact ⟨by show _ + 1 ≤ _; simp only [List.length_map] at *; omega, by exact hgo3, by exact hdi3, (SliceAt.to hihj57_0 (by rfl)), hihj57_1⟩)
 have hb27R := hb27; try simp only [zz] at hb27
 have hge : schO xs c = some D := go_end hgo (by simp only [List.length_map] at *; omega)
 have hnd : (D.map (·.task)).Nodup := by rw [hdi.tasks]; exact (AccOK.nodup hO).sublist (List.take_sublist _ _)
 have hkl : k = (ordR (ndX xs)).length := by simp only [List.length_map] at *; omega
 have hDl := hdi.len (by omega)
 have hdk := hdi.dok hOr
 have hOl := ordR_len hO
 refine pwp_exit ?_
 refine exit_seq ?_
 clear hK26 K26
 refine exit_loop ?_
 refine exit_here ?_
 refine seq_norm (hK19 _ ?_); clear hK19 K19
 refine pwp_seq_plain rfl fun K100 hK100 => ?_
 refine p_e rfl (e_move (v := .lit _ _ _) rfl) ?_
 refine p_e rfl (e_len rfl (by kernel_rfl)) ?_
 refine p_new rfl (e_mkS (n := xs.length) rfl rfl (by rw [List.length_map]) (by kernel_rfl) (by kernel_rfl) (by kernel_rfl) (by decide +kernel) (by omega)) trivial ?_
 rw [show List.replicate xs.length (⟨0, 0, 0⟩ : Slot) = SLx xs.length (D.take 0) by rw [List.take_zero, SLx_nil]]
 refine p_e rfl (e_assign (v := .ref _ _ _ _) rfl) ?_
 refine p_end (hK100 _ ?_); clear hK100 K100
 refine pwp_seq_seq ?_
 refine pwp_seq_plain rfl fun K101 hK101 => ?_
 refine p_aS rfl ?_
 refine p_end (hK101 _ ?_); clear hK101 K101
 refine pwp_seq_block fun K102 hK102 => ?_
 refine pwp_loopR (α := Nat) [6, 18] (fun (i : Nat) => [(19, .int (i))]) (fun (i : Nat) (h : Heap) (_ : Nat → Nat) => ((i) ≤ D.length) ∧ (SliceAt h 114 v 3 (D.map Slot.enc)) ∧ (h (119, c23 119) = some (.rows 3 ((SLx xs.length (D.take (i))).map Slot.enc)))) (fun (i : Nat) => D.length - (i)) (0) (by exact ⟨rfl, trivial⟩) (by exact ⟨by exact Nat.zero_le _, (hihj24_0.keep fun _ => (hset_ne (key_ne rfl)).trans (rfl)), (hset_self _ _ _)⟩) fun i r103 h104 c105 hj106 => ?_
 obtain ⟨hi, hihj106_0, hihj106_1⟩ := hj106
 try dsimp only at hi
 try dsimp only at hihj106_0
 try dsimp only at hihj106_1
 show pwp _ _ (loopQ _ _ _) ⟨sets (mix _ _ _) [(19, .int i)], _, _⟩
 refine pwp_seq_seq ?_
 refine pwp_seq_plain rfl fun K107 hK107 => ?_
 refine p_mS rfl ?_
 refine p_e rfl (e_move (v := _) rfl) ?_
 refine p_e rfl (SliceAt.len hihj106_0 rfl (by kernel_rfl)) ?_
 refine p_e rfl (e_lt rfl rfl) ?_
 refine p_end (hK107 _ ?_); clear hK107 K107
 refine pwp_seq_cond rfl fun K108 hK108 => ⟨fun hb109 => ?_, fun hb109 => ?_⟩
 ·have hb109R := hb109; try simp only [zz] at hb109
  obtain ⟨y, hy, hdy, hty⟩ := get_lt (xs := D) (i := i) (by omega)
  have hyk := hdk y (List.mem_of_getElem? hy)
  have hst : (SLx xs.length (D.take i)).set y.task.toNat y = SLx xs.length (D.take (i + 1)) := by rw [SLx_snoc (by omega) (take_nin hnd hty), ← hty]
  refine pwp_skip ?_
  refine seq_norm (hK108 _ ?_); clear hK108 K108
  refine pwp_seq_block fun K110 hK110 => ?_
  obtain ⟨g111, ev113, hg112⟩ := SliceAt.isRef hihj106_0 (by (intro q; have q2 := congrArg List.length q; simp only [List.length_map, List.length_nil] at q2; omega))
  subst ev113
  refine pwp_gops rfl fun K114 hK114 => ?_
  refine s_begin ?_
  refine s_e rfl (e_move (v := .ref _ _ _ _) rfl) ?_
  refine s_e rfl (e_move (v := .ref _ _ _ _) rfl) ?_
  refine s_e rfl (e_move (v := .sc _) rfl) ?_
  refine s_e rfl (e_ixaR0 rfl rfl (by kernel_rfl) (by kernel_rfl) (by first | omega | (simp only [List.length_map]; omega))) ?_
  refine s_e rfl (e_faQ pl3 rfl) ?_
  refine s_step [114] (by simp) rfl rfl rfl rfl (e_loadH (v := .sc _) rfl hg112 (by kernel_rfl) (by kernel_rfl) (by kernel_rfl) (by first | omega | (simp only [List.length_map]; omega)) (by decide) ((cell_map hy _).trans rfl)) trivial ?_
  refine s_e rfl (e_move (v := .ref _ _ _ _) rfl) ?_
  refine s_e rfl (e_move (v := .sc _) rfl) ?_
  refine s_e rfl (e_ixaR0 rfl rfl (by kernel_rfl) (by kernel_rfl) (by first | omega | (simp only [List.length_map]; omega))) ?_
  refine s_step [114] (by simp) rfl rfl rfl rfl (e_loadHA (n := 3) (cs := Slot.enc y) rfl hg112 (by kernel_rfl) (by kernel_rfl) (by kernel_rfl) (by simp only [List.length_map]; omega) (by decide) (agg_map hy rfl)) trivial ?_
  refine s_e rfl (e_ixaR0 rfl rfl (by kernel_rfl) (by kernel_rfl) (by first | omega | (simp only [List.length_map]; omega))) ?_
  refine s_store [119] (by simp) rfl rfl (e_storeR (xs := (SLx xs.length (D.take i))) (a := y) rfl hihj106_1 rfl (by (rw [SLx_len]; omega)) (fun _ => rfl) (by kernel_rfl) rfl (by kernel_rfl)) trivial ?_
  refine s_end (ds := []) (by kernel_rfl) (by kernel_rfl) (hK114 _ ?_); clear hK114 K114
  refine block_norm ?_
  refine seq_norm (hK110 _ ?_); clear hK110 K110
  refine pwp_plain rfl fun K115 hK115 => ?_
  refine p_mS rfl ?_
  refine p_e rfl (e_adL rfl rfl) ?_
  refine p_aS rfl ?_
  refine p_end (hK115 _ ?_); clear hK115 K115
  exact loop_again (i + 1) (by show _ < _; omega) ⟨rfl, rfl, trivial⟩ ⟨rfl, trivial⟩ (by exact ⟨by show _ + 1 ≤ _; omega, (.ofRef ((hset_ne (key_ne rfl)).trans hg112) (by simp)), ((hset_self _ _ _).trans (by (rw [hst])))⟩)
 have hb109R := hb109; try simp only [zz] at hb109
 have hiD : i = D.length := by simp only [List.length_map] at *; omega
 refine pwp_exit ?_
 refine exit_seq ?_
 clear hK108 K108
 refine exit_loop ?_
 refine exit_here ?_
 refine seq_norm (hK102 _ ?_); clear hK102 K102
 refine pwp_seq_plain rfl fun K116 hK116 => ?_
 refine p_e rfl (e_move (v := .ref _ _ _ _) rfl) ?_
 refine p_e rfl (e_assign (v := .ref _ _ _ _) rfl) ?_
 refine p_aS rfl ?_
 refine p_end (hK116 _ ?_); clear hK116 K116
 refine pwp_ret ?_
 refine end2 (v := .ref _ _ _ _) (w := .sc _) rfl rfl ?_
 exact schQ_out hge hihj106_1 hiD

end Go.Proofs.Ytjmjiegplnfiiaa

/- The schedule of the program. No conditions. -/
set_option linter.unusedSimpArgs false
set_option linter.unusedVariables false
set_option maxRecDepth 100000
namespace Go.Proofs.Ytjmjiegplnfiiaa
open Go Go.Pv
/-! ### The best gang so far -/
def BI (xs : List Task) (c : Crew) (D : List Slot) (T f i bg bs : Int) : Prop := (bg = -1 ∧ NoN xs c D T f i) ∨ (0 ≤ bg ∧ PkN xs c D T f i ⟨T, bg, bs⟩)
section
variable {xs : List Task} {c : Crew} {D : List Slot} {T f i bg bs : Int} {x : Task} {g : Gang}
theorem BI.zero : BI xs c D T f 0 (-1) 0 := .inl ⟨rfl, .zero⟩
theorem BI.pass (h : BI xs c D T f i bg bs) (hn : ∀ y : Slot, y.task = T → y.gang = i → f ≤ y.start → fitsB xs c D y = true → 0 ≤ bg ∧ bs ≤ y.start) : BI xs c D T f (i + 1) bg bs := by
 rcases h with ⟨h1, h2⟩ | ⟨h1, h2⟩
 · refine .inl ⟨h1, h2.no fun y q1 q2 q3 => ?_⟩
   cases e : fitsB xs c D y with
   | false => rfl
   | true => have := hn y q1 q2 q3 e; omega
 · exact .inr ⟨h1, h2.no fun y q1 q2 q3 q4 => (hn y q1 q2 q3 q4).2⟩
/-- What the rounds of the gangs know. -/
structure GK (xs : List Task) (c : Crew) (D : List Slot) (T f i : Int) (x : Task) (g : Gang) : Prop where
 hx : xs[T.toNat]? = some x
 hg : c.gangs[i.toNat]? = some g
 hB : ∀ s ∈ spL xs c D x.place i, s.b ≤ 1000000
 hf : 0 ≤ f ∧ f ≤ 1000000
 hr : 0 ≤ g.fro ∧ g.fro ≤ 1000000
theorem GK.ear (k : GK xs c D T f i x g) {y : Slot} (h1 : y.task = T) (h2 : y.gang = i) (h3 : f ≤ y.start) (h4 : fitsB xs c D y = true) : hasT g.trades x.trade = true ∧ eG xs c D x g f i ≤ y.start ∧ y.start + x.minutes ≤ g.til := by
 obtain ⟨q1, q2, q3, q4⟩ := (fits_iff k.hx k.hg h1 h2).1 h4
 exact ⟨q1, (eG_spec k.hB k.hf k.hr).2.2.2.2 _ h3 q2 q4, q3⟩
theorem BI.tr (k : GK xs c D T f i x g) (h : BI xs c D T f i bg bs) (ht : hasT g.trades x.trade = false) : BI xs c D T f (i + 1) bg bs := h.pass fun y q1 q2 q3 q4 => by
 have := (k.ear q1 q2 q3 q4).1
 rw [ht] at this; cases this
theorem BI.late (k : GK xs c D T f i x g) (h : BI xs c D T f i bg bs) (ht : ¬ eG xs c D x g f i + x.minutes ≤ g.til) : BI xs c D T f (i + 1) bg bs := h.pass fun y q1 q2 q3 q4 => by
 have := (k.ear q1 q2 q3 q4).2
 omega
theorem BI.keep (k : GK xs c D T f i x g) (h : BI xs c D T f i bg bs) (h1 : ¬ bg < 0) (h2 : ¬ eG xs c D x g f i < bs) : BI xs c D T f (i + 1) bg bs := h.pass fun y q1 q2 q3 q4 => by
 have := (k.ear q1 q2 q3 q4).2
 omega
theorem BI.take (k : GK xs c D T f i x g) (h : BI xs c D T f i bg bs) (hi : 0 ≤ i) (ht : hasT g.trades x.trade = true) (hl : eG xs c D x g f i + x.minutes ≤ g.til) (h2 : bg < 0 ∨ eG xs c D x g f i < bs) : BI xs c D T f (i + 1) i (eG xs c D x g f i) := by
 obtain ⟨e1, e2, _, e4, _⟩ := eG_spec k.hB k.hf k.hr
 have hft : fitsB xs c D ⟨T, i, eG xs c D x g f i⟩ = true := (fits_iff k.hx k.hg rfl rfl).2 ⟨ht, e2, hl, e4⟩
 have hm : ∀ z : Slot, z.task = T → z.gang = i → f ≤ z.start → fitsB xs c D z = true → (⟨T, i, eG xs c D x g f i⟩ : Slot).start ≤ z.start := fun z q1 q2 q3 q4 => (k.ear q1 q2 q3 q4).2.1
 rcases h with ⟨h3, h4⟩ | ⟨h3, h4⟩
 · exact .inr ⟨hi, h4.yes hi rfl rfl e1 hft hm⟩
 · exact .inr ⟨hi, h4.yes rfl rfl e1 hft hm (by show eG xs c D x g f i < bs; omega)⟩
theorem BI.noF (h : BI xs c D T f i bg bs) (hb : bg < 0) : NoN xs c D T f i := by
 rcases h with ⟨_, h⟩ | ⟨h, _⟩
 · exact h
 · omega
theorem BI.yesF (h : BI xs c D T f i bg bs) (hb : ¬ bg < 0) : 0 ≤ bg ∧ PkN xs c D T f i ⟨T, bg, bs⟩ := by
 rcases h with ⟨h, _⟩ | h
 · omega
 · exact h
theorem schP_p (h : planE xs ≠ 0) : schP xs c = ([], planE xs) := if_pos h
theorem schP_c (h : planE xs = 0) (h2 : crewE c ≠ 0) : schP xs c = ([], crewE c) := by
 rw [schP, if_neg (fun q => q h), if_pos h2]
theorem schP_n (h : planE xs = 0) (h2 : crewE c = 0) (h3 : schO xs c = none) : schP xs c = ([], 27) := by
 rw [schP, if_neg (fun q => q h), if_neg (fun q => q h2), h3]
theorem schP_s (h : planE xs = 0) (h2 : crewE c = 0) (h3 : schO xs c = some D) : schP xs c = (SLx xs.length D, 0) := by
 rw [schP, if_neg (fun q => q h), if_neg (fun q => q h2), h3]
end
theorem ordX_q {xs : List Task} (h : (ordX xs).2 ≠ 0) : planE xs ≠ 0 ∧ (ordX xs).2 = planE xs := by
 by_cases hq : planE xs = 0
 · rw [ordX, if_neg (fun q => q hq)] at h; exact absurd rfl h
 · exact ⟨hq, by rw [ordX, if_pos hq]⟩
theorem sl_pcells {h : Heap} {e sz : Nat} {u : PV} {rows : Pv.Rows} (hu : SliceAt h e u sz rows) : pcells u = cv u := by
 rcases hu with ⟨_, rfl⟩ | ⟨g2, rfl, _⟩ <;> rfl
theorem sl_pl {h : Heap} {e sz : Nat} {u : PV} {rows : Pv.Rows} (hu : SliceAt h e u sz rows) : (pcells u).length = 1 := by rw [sl_pcells hu]; rfl
theorem sl_pc {h : Heap} {e sz : Nat} {u : PV} {rows : Pv.Rows} (hu : SliceAt h e u sz rows) : (pcells u).all PV.cell = true := by
 rcases hu with ⟨_, rfl⟩ | ⟨g2, rfl, _⟩ <;> rfl
/-- Two own lists in a list of two. -/
theorem concatX {h : Heap} {d e g : Nat} {u : PV} {l1 l2 : List Sp} (hk : h (d, g) = some (.rows 1 [[u], [.lit false 2 (l2.map Sp.enc)]])) (hu : SliceAt h e u 2 (l1.map Sp.enc)) :
   ∃ ks : List Key, (∀ k ∈ ks, k.1 ∈ [d, e]) ∧ InnsX h ks [.ref (d, g) 1 0 2] [.lit true 1 ([l1, l2].map clS)] := by
 refine ⟨(d, g) :: Go.Pv.keyOf u, fun k hk' => ?_, .cons (.rows hk (List.mem_cons_self ..) rfl rfl fun i row row' h1 h2 => ?_) .nil⟩
 · rcases List.mem_cons.1 hk' with rfl | h3
   · exact List.mem_cons_self ..
   · rcases hu with ⟨_, rfl⟩ | ⟨g2, rfl, _⟩
     · simp [Go.Pv.keyOf] at h3
     · simp [Go.Pv.keyOf] at h3; subst h3; exact List.mem_cons_of_mem _ (List.mem_cons_self ..)
 · match i, h1, h2 with
   | 0, h1, h2 =>
     cases h1; cases h2
     refine ⟨rfl, fun j p q h3 h4 => ?_⟩
     match j, h3, h4 with
     | 0, h3, h4 =>
       cases h3; cases h4
       refine ⟨?_, .lit _ _ _ fun row hr => pure_map Sp.pure row hr, rfl, fun k hk' => List.mem_cons_of_mem _ hk'⟩
       rcases hu with ⟨hn, rfl⟩ | ⟨g2, rfl, hg⟩
       · rw [List.map_eq_nil_iff.1 hn]; exact .nil true 2
       · exact .ref hg (by simp) (by rw [List.drop_zero, List.length_map, List.take_of_length_le (by rw [List.length_map]; exact Nat.le_refl _)]) fun row hr => pure_map Sp.pure row hr
     | j + 1, h3, _ => simp at h3
   | 1, h1, h2 =>
     cases h1; cases h2
     refine ⟨rfl, fun j p q h3 h4 => ?_⟩
     match j, h3, h4 with
     | 0, h3, h4 =>
       cases h3; cases h4
       exact ⟨.lit (fun q => by cases q), .lit _ _ _ fun row hr => pure_map Sp.pure row hr, rfl, fun k hk' => by simp [Go.Pv.keyOf] at hk'⟩
     | j + 1, h3, _ => simp at h3
   | i + 2, h1, _ => simp at h1
section
variable {P : Program} {K : PS → Prop} {d : Nat} {op : Op} {ty : TypeId} {pos : String} {aft : Array Edge} {gd : Option (Nat × Bool)} {rest : List Oper} {r : Nat → PV} {h : Heap} {cnt : Nat → Nat} {ops : Array Oper} {i : Nat} {G : Nat → Bool} {dd : Bool}
theorem s_callX2 {f : FuncId} {args as' : List PV} {v : PV} {ts : List Ft} (rs : List Nat) (hX : ∃ ks : List Key, (∀ k ∈ ks, k.1 ∈ rs) ∧ InnsX h ks args as') (hg : gobB ops r G gd = true) (hgv : gval ops ⟨⟨r, h, cnt⟩, G⟩ gd = true) (hc : callOf r op = some (f, args)) (hv : validB r G op = true) (hp : PCalls P f as' v)
   (hk : sRun P ops dd K rest (i + 1) ⟨setT r d v, h, cnt⟩ (setB G d true) (ts ++ [⟨i, rs, []⟩])) : sRun P ops dd K (⟨some d, op, ty, pos, aft, gd⟩ :: rest) i ⟨r, h, cnt⟩ G ts := by
 obtain ⟨ks, h1, h2⟩ := hX
 exact s_callX rs h1 hg hgv hc hv h2 hp hk
end
theorem concat2 {xs : List Task} {c : Crew} {D : List Slot} {p i : Int} (h1 : D.length ≤ 20) (h2 : c.closed.length ≤ 40) : PCalls Try.prog 99 [.lit true 1 ([bsG xs D i, clL c.closed p].map clS)] (.lit false 2 ((spL xs c D p i).map Sp.enc)) := by
 have h3 := bsG_len (xs := xs) (d := D) (g := i)
 have h4 := clL_len (cs := c.closed) (p := p)
 have e : [bsG xs D i, clL c.closed p].flatten = spL xs c D p i := by simp [spL]
 have := concatC [bsG xs D i, clL c.closed p] (by simp) (by rw [e, spL, List.length_append]; omega)
 rw [e] at this; exact this
theorem spL_len {xs : List Task} {c : Crew} {D : List Slot} {p i : Int} (h1 : D.length ≤ 20) (h2 : c.closed.length ≤ 40) : (spL xs c D p i).length ≤ 1000000 := by
 have h3 := bsG_len (xs := xs) (d := D) (g := i)
 have h4 := clL_len (cs := c.closed) (p := p)
 rw [spL, List.length_append]; omega
theorem earliestG {xs : List Task} {c : Crew} {D : List Slot} {T f i : Int} {x : Task} {g : Gang} (k : GK xs c D T f i x g) (h1 : D.length ≤ 20) (h2 : c.closed.length ≤ 40) (hm : 0 ≤ x.minutes ∧ x.minutes ≤ 1000000) : PCalls Try.prog 98 [.int (max f g.fro), .int x.minutes, .lit true 2 ((spL xs c D x.place i).map Sp.enc)] (.int (eG xs c D x g f i)) := by
 have hr := k.hr; have hf := k.hf
 exact earliestC (spL xs c D x.place i) (max f g.fro) x.minutes 1000000 (spL_len h1 h2) k.hB (by omega) (by omega) hm

theorem frmN_at {xs : List Task} {D : List Slot} {l : List Int} {j : Nat} {n : Int} {u : Task} (hn : l[j]? = some n) (hu : xs[n.toNat]? = some u) : max (frmN xs D l j) ((slA D n).start + u.minutes) = frmN xs D l (j + 1) := by
 have e1 : at0 l j = n := by rw [at0, List.getD_eq_getElem?_getD, hn]; rfl
 have e2 : xs.getD n.toNat default = u := by rw [List.getD_eq_getElem?_getD, hu]; rfl
 rw [frmN, e1, e2]
theorem acc_needs {xs : List Task} {O : List Int} {k : Nat} {x : Task} {z : Int} (hO : AccOK (ndX xs) O) (hk : k < O.length) (hx : xs[(at0 O k).toNat]? = some x) (hz : z ∈ x.needs) : z ∈ O.take k := by
 have := (acE_iff.1 (hO k hk)).2.2 z
 rw [ndX_at hx] at this
 exact this hz
theorem at0_nin {nd : List (List Int)} {O : List Int} {k : Nat} (h : AccOK nd O) (hk : k < O.length) : at0 O k ∉ O.take k := (acE_iff.1 (h k hk)).2.1
theorem schP_out1 {h : Heap} {xs : List Task} {c : Crew} (he : (ordX xs).2 ≠ 0) : Out h (.tup [.nil, .int (ordX xs).2]) (.tup [.lit false 3 ((schP xs c).1.map Slot.enc), .int (schP xs c).2]) := by
 obtain ⟨h1, h2⟩ := ordX_q he
 rw [schP_p h1, h2]; exact out_2 (.nil 3) (out_i rfl)
theorem schP_out2 {h : Heap} {xs : List Task} {c : Crew} (hp : planE xs = 0) (he : crewE c ≠ 0) : Out h (.tup [.nil, .int (crewE c)]) (.tup [.lit false 3 ((schP xs c).1.map Slot.enc), .int (schP xs c).2]) := by
 rw [schP_c hp he]; exact out_2 (.nil 3) (out_i rfl)
theorem schP_out3 {h : Heap} {xs : List Task} {c : Crew} (hp : planE xs = 0) (he : crewE c = 0) (hn : schO xs c = none) : Out h (.tup [.nil, .int 27]) (.tup [.lit false 3 ((schP xs c).1.map Slot.enc), .int (schP xs c).2]) := by
 rw [schP_n hp he hn]; exact out_2 (.nil 3) (out_i rfl)
theorem schP_out4 {h : Heap} {d g : Nat} {xs : List Task} {c : Crew} {D : List Slot} (hp : planE xs = 0) (he : crewE c = 0) (hn : schO xs c = some D) (hk : h (d, g) = some (.rows 3 ((SLx xs.length D).map Slot.enc))) : Out h (.tup [.ref (d, g) 3 0 xs.length, .int 0]) (.tup [.lit false 3 ((schP xs c).1.map Slot.enc), .int (schP xs c).2]) := by
 rw [schP_s hp he hn]; exact out_2 (slots_out hk SLx_len) (out_i rfl)

theorem fr52 : (inFrame Try.f52.ntmps (Try.f52.body.getD .skip) && Try.f52.results.toList.all (resScope Try.f52.ntmps)) = true := by kernel_rfl
theorem ScheduleC (xs : List Task) (c : Crew) (hf : Fair xs) (hxl : xs.length ≤ 15) (hg1 : c.gangs.length ≤ 15) (hg2 : c.closed.length ≤ 50) (hcf : GFair c.gangs) : PCalls Try.prog 52 [.lit true 6 (xs.map Task.enc), .agg c.enc] (.tup [.lit false 3 ((schP xs c).1.map Slot.enc), .int (schP xs c).2]) := by
 refine PCalls.of_code Try.func52 rfl rfl (by kernel_rfl) mixed fr52 (by show _ ≤ 158; simp) (pure_2 (.lit _ _ _ fun row hr => pure_map Slot.pure row hr) (.sc _)) ?_
 have hct : ∀ g ∈ c.gangs, g.trades.length ≤ 6 := fun g hg => (hcf g hg).1
 have hO := ordR_acc (nd := ndX xs)
 have hOr : ∀ z ∈ (ordR (ndX xs)), 0 ≤ z ∧ z < (xs.length : Int) := fun z hz => by have := AccOK.rng hO z hz; rw [ndX_len] at this; exact this
 refine pwp_seq_plain rfl fun K1 hK1 => ?_
 refine p_new rfl (e_box (n := 2) rfl rfl) ⟨rfl, by decide⟩ ?_
 refine p_e rfl (e_assign (v := .nil) rfl) ?_
 refine p_aS rfl ?_
 refine p_end (hK1 _ ?_); clear hK1 K1
 refine pwp_seq_plain rfl fun K2 hK2 => ?_
 refine p_e rfl (e_move (v := .lit _ _ _) rfl) ?_
 refine p_call rfl (.cons inn_lit .nil) (OrderC _ (by omega) hf) ?_
 refine p_e rfl (e_move (v := .tup _) rfl) ?_
 refine p_e rfl (e_ext (v := .lit _ _ _) rfl (by simp) rfl) ?_
 refine p_e rfl (e_ext (v := .sc _) rfl (by simp) rfl) ?_
 refine p_e rfl (e_assign (v := .lit _ _ _) rfl) ?_
 refine p_aS rfl ?_
 refine p_end (hK2 _ ?_); clear hK2 K2
 refine pwp_seq_seq ?_
 refine pwp_seq_plain rfl fun K3 hK3 => ?_
 refine p_mS rfl ?_
 refine p_e rfl (e_ne rfl rfl) ?_
 refine p_end (hK3 _ ?_); clear hK3 K3
 refine pwp_seq_cond rfl fun K4 hK4 => ⟨fun hb5 => ?_, fun hb5 => ?_⟩
 ·have hb5R := hb5; try simp only [zz] at hb5
  refine pwp_seq_plain rfl fun K6 hK6 => ?_
  refine p_mS rfl ?_
  refine p_e rfl (e_assign (v := .nil) rfl) ?_
  refine p_aS rfl ?_
  refine p_end (hK6 _ ?_); clear hK6 K6
  refine pwp_ret ?_
  refine ret_seq ?_
  refine end2 (v := .nil) (w := .sc _) rfl rfl ?_
  exact schP_out1 (by assumption)
 have hb5R := hb5; try simp only [zz] at hb5
 refine pwp_skip ?_
 refine seq_norm (hK4 _ ?_); clear hK4 K4
 refine pwp_seq_seq ?_
 have hp : planE xs = 0 := ordX_p (by assumption)
 have hx1 : (ordX xs).1 = (ordR (ndX xs)) := by rw [ordX, if_neg (fun q => q hp)]
 rw [hx1]
 refine pwp_seq_plain rfl fun K7 hK7 => ?_
 refine p_e rfl (e_loadHA (cs := Crew.enc (c)) (n := 2) rfl (hset_self _ _ _) (by kernel_rfl) (by kernel_rfl) (by kernel_rfl) (by exact Nat.zero_lt_one) (by decide) rfl) ?_
 refine p_call rfl (.cons (inn_agg (Crew.pure _)) .nil) (CheckCrewC c (by omega) (by omega) hcf) ?_
 refine p_aS rfl ?_
 refine p_end (hK7 _ ?_); clear hK7 K7
 refine pwp_seq_seq ?_
 refine pwp_seq_plain rfl fun K8 hK8 => ?_
 refine p_mS rfl ?_
 refine p_e rfl (e_ne rfl rfl) ?_
 refine p_end (hK8 _ ?_); clear hK8 K8
 refine pwp_seq_cond rfl fun K9 hK9 => ⟨fun hb10 => ?_, fun hb10 => ?_⟩
 ·have hb10R := hb10; try simp only [zz] at hb10
  refine pwp_seq_plain rfl fun K11 hK11 => ?_
  refine p_mS rfl ?_
  refine p_e rfl (e_assign (v := .nil) rfl) ?_
  refine p_aS rfl ?_
  refine p_end (hK11 _ ?_); clear hK11 K11
  refine pwp_ret ?_
  refine ret_seq ?_
  refine end2 (v := .nil) (w := .sc _) rfl rfl ?_
  exact schP_out2 hp (by assumption)
 have hb10R := hb10; try simp only [zz] at hb10
 refine pwp_skip ?_
 refine seq_norm (hK9 _ ?_); clear hK9 K9
 have hc0 : crewE c = 0 := (by assumption)
 have hco := crew_ok hc0
 refine pwp_seq_plain rfl fun K12 hK12 => ?_
 refine p_e rfl (e_move (v := .lit _ _ _) rfl) ?_
 refine p_e rfl (e_len rfl (by kernel_rfl)) ?_
 refine p_new rfl (e_mkS (n := xs.length) rfl rfl (by rw [List.length_map]) (by kernel_rfl) (by kernel_rfl) (by kernel_rfl) (by decide +kernel) (by omega)) trivial ?_
 rw [show List.replicate xs.length (⟨0, 0, 0⟩ : Slot) = SLx xs.length [] by rw [SLx_nil]]
 refine p_e rfl (e_assign (v := .ref _ _ _ _) rfl) ?_
 refine p_end (hK12 _ ?_); clear hK12 K12
 refine pwp_seq_plain rfl fun K13 hK13 => ?_
 refine p_e rfl (e_faQ pl2 rfl) ?_
 refine p_e rfl (e_lH (v := .lit _ _ _) rfl ((hset_ne (key_ne rfl)).trans (hset_self _ _ _)) rfl) ?_
 refine p_e rfl (e_len rfl (by kernel_rfl)) ?_
 refine p_new rfl (e_mkV (n := c.gangs.length) rfl rfl (by rw [List.length_map]) (by kernel_rfl) (by kernel_rfl) (by kernel_rfl) (by decide +kernel) (by omega)) trivial ?_
 refine p_e rfl (e_assign (v := .ref _ _ _ _) rfl) ?_
 refine p_end (hK13 _ ?_); clear hK13 K13
 refine pwp_seq_seq ?_
 refine pwp_seq_plain rfl fun K14 hK14 => ?_
 refine p_e rfl (e_move (v := .lit _ _ _) rfl) ?_
 refine p_e rfl (e_len rfl (by kernel_rfl)) ?_
 refine p_mS rfl ?_
 refine p_end (hK14 _ ?_); clear hK14 K14
 refine pwp_seq_block fun K15 hK15 => ?_
 refine pwp_loopR (α := Nat × (List Slot) × (List PV)) [0, 3, 9, 10, 42, 43] (fun (a16 : Nat × (List Slot) × (List PV)) => [(44, .int (a16.1))]) (fun (a16 : Nat × (List Slot) × (List PV)) (h : Heap) (_ : Nat → Nat) => ((a16.1) ≤ (ordR (ndX xs)).length) ∧ (goS xs c (ordR (ndX xs)) [] = goS xs c ((ordR (ndX xs)).drop (a16.1)) (a16.2.1)) ∧ (DInv xs c (ordR (ndX xs)) (a16.1) (a16.2.1)) ∧ (NP h 154 2 Sp.enc (a16.2.2) (bsT xs (a16.2.1) c.gangs.length)) ∧ (h (3, 0) = some (.rows 2 [Crew.enc c])) ∧ (h (37, 0) = some (.rows 3 ((SLx xs.length (a16.2.1)).map Slot.enc))) ∧ (h (41, 0) = some (.rows 1 ((a16.2.2).map cv)))) (fun (a16 : Nat × (List Slot) × (List PV)) => (ordR (ndX xs)).length - (a16.1)) (0, [], List.replicate c.gangs.length .nil) (by exact ⟨rfl, trivial⟩) (by exact ⟨by exact Nat.zero_le _, by exact rfl, by exact DInv.nil, by rw [bsT_0]; exact NP.nils _, ((hset_ne (key_ne rfl)).trans ((hset_ne (key_ne rfl)).trans (hset_self _ _ _))), ((hset_ne (key_ne rfl)).trans (hset_self _ _ _)), (hset_self _ _ _)⟩) fun a16 r17 h18 c19 hj20 => ?_
 obtain ⟨k, D, vs⟩ := a16
 obtain ⟨hk, hgo, hdi, hnp, hihj20_0, hihj20_1, hihj20_2⟩ := hj20
 try dsimp only at hk
 try dsimp only at hgo
 try dsimp only at hdi
 try dsimp only at hnp
 try dsimp only at hihj20_0
 try dsimp only at hihj20_1
 try dsimp only at hihj20_2
 show pwp _ _ (loopQ _ _ _) ⟨sets (mix _ _ _) [(44, .int k)], _, _⟩
 refine pwp_seq_plain rfl fun K21 hK21 => ?_
 refine p_e rfl (e_lt rfl rfl) ?_
 refine p_end (hK21 _ ?_); clear hK21 K21
 refine pwp_seq_cond rfl fun K22 hK22 => ⟨fun hb23 => ?_, fun hb23 => ?_⟩
 ·have hb23R := hb23; try simp only [zz] at hb23
  have hkO : k < (ordR (ndX xs)).length := by simp only [List.length_map] at *; omega
  obtain ⟨hr0, hr1⟩ := AccOK.rng hO _ (at0_mem hkO)
  rw [ndX_len] at hr1
  obtain ⟨x, hx, _, _⟩ := get_lt (xs := xs) (i := (at0 (ordR (ndX xs)) k).toNat) (by omega)
  have hxm := (task_ok hp hx).1.2.2
  have hxn := (task_ok hp hx).2.2.2.1
  have hxl1 := (hf x (List.mem_of_getElem? hx)).1
  have hDl := hdi.len (by omega)
  have hOl := ordR_len hO
  have hdk := hdi.dok hOr
  have hxd : xs.getD (at0 (ordR (ndX xs)) k).toNat default = x := by rw [List.getD_eq_getElem?_getD, hx]; rfl
  have hdr := drop_at0 hkO
  have hSl : (SLx xs.length D).length = xs.length := SLx_len
  have hnd : (D.map (·.task)).Nodup := by rw [hdi.tasks]; exact (AccOK.nodup hO).sublist (List.take_sublist _ _)
  have hnO : ∀ z ∈ x.needs, z ∈ D.map (·.task) := fun z hz => by rw [hdi.tasks]; exact acc_needs hO hkO hx hz
  have hTn : (at0 (ordR (ndX xs)) k) ∉ D.map (·.task) := by rw [hdi.tasks]; exact at0_nin hO hkO
  refine pwp_skip ?_
  refine seq_norm (hK22 _ ?_); clear hK22 K22
  refine pwp_seq_block fun K24 hK24 => ?_
  refine pwp_seq_plain rfl fun K25 hK25 => ?_
  refine p_e rfl (e_ixL rfl rfl) ?_
  refine p_e rfl (e_load (v := .sc _) rfl (by kernel_rfl) (by kernel_rfl) (by kernel_rfl) (by first | omega | (simp only [List.length_map]; omega)) (by decide) ((cell_map (at0_get (l := (ordR (ndX xs))) (i := k) hkO) _).trans rfl)) ?_
  refine p_aS rfl ?_
  refine p_end (hK25 _ ?_); clear hK25 K25
  refine pwp_seq_plain rfl fun K26 hK26 => ?_
  refine p_e rfl (e_move (v := .lit _ _ _) rfl) ?_
  refine p_mS rfl ?_
  refine p_e rfl (e_ixL rfl rfl) ?_
  refine p_e rfl (e_loadA (n := 6) rfl (by kernel_rfl) (by kernel_rfl) (by kernel_rfl) (by first | omega | (simp only [List.length_map]; omega)) (by decide) (by first | exact agg_map hx rfl)) ?_
  refine p_new rfl (e_alloc (cs := [.str ByteArray.empty, .str ByteArray.empty, .int 0, .int 0, .int 0, .nil]) (n := 6) (by kernel_rfl) rfl (by decide)) (ob_alloc (by decide)) ?_
  refine p_store rfl (e_storeA rfl (hset_self _ _ _) rfl rfl rfl (by kernel_rfl) rfl (by kernel_rfl)) trivial ?_
  refine p_end (hK26 _ ?_); clear hK26 K26
  refine pwp_seq_plain rfl fun K27 hK27 => ?_
  refine p_aS rfl ?_
  refine p_end (hK27 _ ?_); clear hK27 K27
  refine pwp_seq_seq ?_
  refine pwp_seq_plain rfl fun K28 hK28 => ?_
  refine p_e rfl (e_faQ pl6 rfl) ?_
  refine p_e rfl (e_lH (v := .lit _ _ _) rfl (hset_self _ _ _) rfl) ?_
  refine p_e rfl (e_len rfl (by kernel_rfl)) ?_
  refine p_mS rfl ?_
  refine p_end (hK28 _ ?_); clear hK28 K28
  refine pwp_seq_block fun K29 hK29 => ?_
  refine pwp_loopR (α := Nat × Int) [0, 3, 9, 10, 12, 13, 42, 43, 44, 53, 54] (fun (a30 : Nat × Int) => [(14, .int (a30.2)), (55, .int (a30.1))]) (fun (a30 : Nat × Int) (h : Heap) (_ : Nat → Nat) => ((a30.1) ≤ x.needs.length) ∧ ((a30.2) = frmN xs D x.needs (a30.1)) ∧ (0 ≤ (a30.2) ∧ (a30.2) ≤ 1000000) ∧ (NP h 154 2 Sp.enc vs (bsT xs D c.gangs.length)) ∧ (h (3, 0) = some (.rows 2 [Crew.enc c])) ∧ (h (37, 0) = some (.rows 3 ((SLx xs.length D).map Slot.enc))) ∧ (h (41, 0) = some (.rows 1 (vs.map cv))) ∧ (h (13, c19 13) = some (.rows 6 [Task.enc x]))) (fun (a30 : Nat × Int) => x.needs.length - (a30.1)) (0, 0) (by exact ⟨rfl, rfl, trivial⟩) (by exact ⟨by exact Nat.zero_le _, by exact rfl, by omega, by (show NP _ 154 2 Sp.enc _ _; refine hnp.keep ?_; intro g; repeat (first | refine (hset_ne (key_ne rfl)).trans ?_ | rfl)), ((hset_ne (key_ne rfl)).trans ((hset_ne (key_ne rfl)).trans hihj20_0)), ((hset_ne (key_ne rfl)).trans ((hset_ne (key_ne rfl)).trans hihj20_1)), ((hset_ne (key_ne rfl)).trans ((hset_ne (key_ne rfl)).trans hihj20_2)), (hset_self _ _ _)⟩) fun a30 r31 h32 c33 hj34 => ?_
  obtain ⟨j, f⟩ := a30
  obtain ⟨hj, hfe, hfb, hnp1, hihj34_0, hihj34_1, hihj34_2, hihj34_3⟩ := hj34
  try dsimp only at hj
  try dsimp only at hfe
  try dsimp only at hfb
  try dsimp only at hnp1
  try dsimp only at hihj34_0
  try dsimp only at hihj34_1
  try dsimp only at hihj34_2
  try dsimp only at hihj34_3
  show pwp _ _ (loopQ _ _ _) ⟨sets (mix _ _ _) [(14, .int f), (55, .int j)], _, _⟩
  refine pwp_seq_plain rfl fun K35 hK35 => ?_
  refine p_e rfl (e_lt rfl rfl) ?_
  refine p_end (hK35 _ ?_); clear hK35 K35
  refine pwp_seq_cond rfl fun K36 hK36 => ⟨fun hb37 => ?_, fun hb37 => ?_⟩
  ·have hb37R := hb37; try simp only [zz] at hb37
   obtain ⟨n, hn, hdn, htn⟩ := get_lt (xs := x.needs) (i := j) (by omega)
   have hnm := hnO n (List.mem_of_getElem? hn)
   have hnr := hxn n (List.mem_of_getElem? hn)
   obtain ⟨hs1, hs2⟩ := slA_mem hnm
   have hsb := hdi.ok _ hs1
   obtain ⟨u, hu, _, _⟩ := get_lt (xs := xs) (i := n.toNat) (by omega)
   have hum := (task_ok hp hu).1.2.2
   have hsn : (SLx xs.length D)[n.toNat]? = some (slA D n) := SLx_get (by omega)
   have hen : endY xs (slA D n) = (slA D n).start + u.minutes := by rw [endY, tsk_at (by rw [hs2]; exact hu)]
   have hfm := frmN_at (xs := xs) (D := D) hn hu
   rw [hen] at hsb
   refine pwp_skip ?_
   refine seq_norm (hK36 _ ?_); clear hK36 K36
   refine pwp_seq_block fun K38 hK38 => ?_
   refine pwp_seq_plain rfl fun K39 hK39 => ?_
   refine p_e rfl (e_ixL rfl rfl) ?_
   refine p_e rfl (e_load (v := .sc _) rfl (by kernel_rfl) (by kernel_rfl) (by kernel_rfl) (by first | omega | (simp only [List.length_map]; omega)) (by decide) ((cell_map hn _).trans rfl)) ?_
   refine p_aS rfl ?_
   refine p_end (hK39 _ ?_); clear hK39 K39
   refine pwp_gops rfl fun K40 hK40 => ?_
   refine s_begin ?_
   refine s_e rfl (e_move (v := .sc _) rfl) ?_
   refine s_e rfl (e_move (v := .ref _ _ _ _) rfl) ?_
   refine s_e rfl (e_move (v := .sc _) rfl) ?_
   refine s_e rfl (e_ixaR0 rfl rfl (by kernel_rfl) (by kernel_rfl) (by first | omega | (simp only [List.length_map]; omega))) ?_
   refine s_e rfl (e_faQ pl3 rfl) ?_
   refine s_step [37] (by simp) rfl rfl rfl rfl (e_loadH (v := .sc _) rfl hihj34_1 (by kernel_rfl) (by kernel_rfl) (by kernel_rfl) (by first | omega | (simp only [List.length_map]; omega)) (by decide) ((cell_map hsn _).trans rfl)) trivial ?_
   refine s_e rfl (e_move (v := .lit _ _ _) rfl) ?_
   refine s_e rfl (e_move (v := .sc _) rfl) ?_
   refine s_e rfl (e_ixL rfl rfl) ?_
   refine s_e rfl (e_fb pl6 rfl) ?_
   refine s_e rfl (e_load (v := .sc _) rfl (by kernel_rfl) (by kernel_rfl) (by kernel_rfl) (by first | omega | (simp only [List.length_map]; omega)) (by decide) ((cell_map hu _).trans rfl)) ?_
   refine s_e rfl (e_adL rfl rfl) ?_
   refine s_e rfl (e_max rfl rfl) ?_
   refine s_e rfl (e_assign (v := .sc _) rfl) ?_
   refine s_end (ds := []) (by kernel_rfl) (by kernel_rfl) (hK40 _ ?_); clear hK40 K40
   refine block_norm ?_
   refine seq_norm (hK38 _ ?_); clear hK38 K38
   refine pwp_plain rfl fun K41 hK41 => ?_
   refine p_e rfl (e_adL rfl rfl) ?_
   refine p_mS rfl ?_
   refine p_end (hK41 _ ?_); clear hK41 K41
   exact loop_again ((j + 1, (max f ((slA D n).start + u.minutes)))) (by show _ < _; simp only; omega) ⟨rfl, rfl, rfl, rfl, rfl, rfl, rfl, rfl, rfl, rfl, rfl, trivial⟩ ⟨rfl, rfl, trivial⟩ (by exact ⟨by show _ + 1 ≤ _; simp only [List.length_map] at *; omega, by (rw [hfe]; exact hfm), by omega, by (show NP _ 154 2 Sp.enc _ _; refine hnp1.keep ?_; intro g; repeat (first | refine (hset_ne (key_ne rfl)).trans ?_ | rfl)), hihj34_0, hihj34_1, hihj34_2, hihj34_3⟩)
  have hb37R := hb37; try simp only [zz] at hb37
  obtain rfl : j = x.needs.length := by simp only [List.length_map] at *; omega
  rw [frm_eq hnd hnO] at hfe
  refine pwp_exit ?_
  refine exit_seq ?_
  clear hK36 K36
  refine exit_loop ?_
  refine exit_here ?_
  refine seq_norm (hK29 _ ?_); clear hK29 K29
  refine pwp_seq_plain rfl fun K42 hK42 => ?_
  refine p_mS rfl ?_
  refine p_e rfl (e_build (cs := Slot.enc (⟨(at0 (ordR (ndX xs)) k), (-1), 0⟩ : Slot)) (zs := [.int 0, .int 0, .int 0]) (pl := [(0, 1, false), (1, 1, false), (2, 1, false)]) (by kernel_rfl) (by kernel_rfl) (by kernel_rfl) rfl rfl (by exact ⟨by decide, rfl, Nat.le_of_ble_eq_true rfl, rfl, ⟨by decide, rfl, Nat.le_of_ble_eq_true rfl, rfl, trivial⟩⟩) rfl) ?_
  refine p_new rfl (e_alloc (cs := [.int 0, .int 0, .int 0]) (n := 3) (by kernel_rfl) rfl (by decide)) (ob_alloc (by decide)) ?_
  refine p_store rfl (e_storeA rfl (hset_self _ _ _) rfl rfl rfl (by kernel_rfl) rfl (by kernel_rfl)) trivial ?_
  refine p_end (hK42 _ ?_); clear hK42 K42
  refine pwp_seq_plain rfl fun K43 hK43 => ?_
  refine p_e rfl (e_loadHA (cs := Crew.enc (c)) (n := 2) rfl ((hset_ne (key_ne rfl)).trans ((hset_ne (key_ne rfl)).trans hihj34_0)) (by kernel_rfl) (by kernel_rfl) (by kernel_rfl) (by exact Nat.zero_lt_one) (by decide) rfl) ?_
  refine p_e rfl (e_faQ pl6 rfl) ?_
  refine p_e rfl (e_lH (v := .sc _) rfl ((hset_ne (key_ne rfl)).trans ((hset_ne (key_ne rfl)).trans hihj34_3)) rfl) ?_
  refine p_call rfl (.cons (inn_agg (Crew.pure _)) (.cons inn_sc .nil)) (closedSp c _ (by omega)) ?_
  refine p_e rfl (e_assign (v := .lit _ _ _) rfl) ?_
  refine p_end (hK43 _ ?_); clear hK43 K43
  refine pwp_seq_seq ?_
  refine pwp_seq_plain rfl fun K44 hK44 => ?_
  refine p_e rfl (e_faQ pl2 rfl) ?_
  refine p_e rfl (e_lH (v := .lit _ _ _) rfl ((hset_ne (key_ne rfl)).trans ((hset_ne (key_ne rfl)).trans hihj34_0)) rfl) ?_
  refine p_e rfl (e_len rfl (by kernel_rfl)) ?_
  refine p_mS rfl ?_
  refine p_end (hK44 _ ?_); clear hK44 K44
  refine pwp_seq_block fun K45 hK45 => ?_
  refine pwp_loopR (α := Nat × Int × Int) [0, 3, 9, 10, 12, 13, 14, 17, 18, 42, 43, 44, 80, 81] (fun (a46 : Nat × Int × Int) => [(82, .int (a46.1))]) (fun (a46 : Nat × Int × Int) (h : Heap) (_ : Nat → Nat) => ((a46.1) ≤ c.gangs.length) ∧ (BI xs c D (at0 (ordR (ndX xs)) k) f ((a46.1) : Int) (a46.2.1) (a46.2.2)) ∧ (-1 ≤ (a46.2.1) ∧ (a46.2.1) < (c.gangs.length : Int) ∧ 0 ≤ (a46.2.2) ∧ (a46.2.2) ≤ 1000000) ∧ (NP h 154 2 Sp.enc vs (bsT xs D c.gangs.length)) ∧ (h (3, 0) = some (.rows 2 [Crew.enc c])) ∧ (h (37, 0) = some (.rows 3 ((SLx xs.length D).map Slot.enc))) ∧ (h (41, 0) = some (.rows 1 (vs.map cv))) ∧ (h (13, c19 13) = some (.rows 6 [Task.enc x])) ∧ (h (17, c33 17) = some (.rows 3 [Slot.enc (⟨(at0 (ordR (ndX xs)) k), (a46.2.1), (a46.2.2)⟩ : Slot)]))) (fun (a46 : Nat × Int × Int) => c.gangs.length - (a46.1)) (0, -1, 0) (by exact ⟨rfl, trivial⟩) (by exact ⟨by exact Nat.zero_le _, by exact BI.zero, by (dsimp only; omega), by (show NP _ 154 2 Sp.enc _ _; refine hnp1.keep ?_; intro g; repeat (first | refine (hset_ne (key_ne rfl)).trans ?_ | rfl)), ((hset_ne (key_ne rfl)).trans ((hset_ne (key_ne rfl)).trans hihj34_0)), ((hset_ne (key_ne rfl)).trans ((hset_ne (key_ne rfl)).trans hihj34_1)), ((hset_ne (key_ne rfl)).trans ((hset_ne (key_ne rfl)).trans hihj34_2)), ((hset_ne (key_ne rfl)).trans ((hset_ne (key_ne rfl)).trans hihj34_3)), (hset_self _ _ _)⟩) fun a46 r47 h48 c49 hj50 => ?_
  obtain ⟨i, bg, bs⟩ := a46
  obtain ⟨hi, hbi, hbb, hnp2, hihj50_0, hihj50_1, hihj50_2, hihj50_3, hihj50_4⟩ := hj50
  try dsimp only at hi
  try dsimp only at hbi
  try dsimp only at hbb
  try dsimp only at hnp2
  try dsimp only at hihj50_0
  try dsimp only at hihj50_1
  try dsimp only at hihj50_2
  try dsimp only at hihj50_3
  try dsimp only at hihj50_4
  show pwp _ _ (loopQ _ _ _) ⟨sets (mix _ _ _) [(82, .int i)], _, _⟩
  refine pwp_seq_plain rfl fun K51 hK51 => ?_
  refine p_e rfl (e_lt rfl rfl) ?_
  refine p_end (hK51 _ ?_); clear hK51 K51
  refine pwp_seq_cond rfl fun K52 hK52 => ⟨fun hb53 => ?_, fun hb53 => ?_⟩
  ·have hb53R := hb53; try simp only [zz] at hb53
   obtain ⟨g, hg, hdg, htg⟩ := get_lt (xs := c.gangs) (i := i) (by omega)
   have hgr := hco.2.1 g (List.mem_of_getElem? hg)
   unfold grng at hgr
   have hgk : GK xs c D (at0 (ordR (ndX xs)) k) f (i : Int) x g := ⟨hx, by rw [Int.toNat_natCast]; exact hg, hdi.spb hco.2.2, hfb, by omega⟩
   have heb := eG_spec hgk.hB hgk.hf hgk.hr
   refine pwp_skip ?_
   refine seq_norm (hK52 _ ?_); clear hK52 K52
   refine pwp_seq_block fun K54 hK54 => ?_
   refine pwp_seq_plain rfl fun K55 hK55 => ?_
   refine p_mS rfl ?_
   refine p_e rfl (e_ixL rfl rfl) ?_
   refine p_e rfl (e_loadA (n := 4) rfl (by kernel_rfl) (by kernel_rfl) (by kernel_rfl) (by first | omega | (simp only [List.length_map]; omega)) (by decide) (by first | exact agg_map hg rfl)) ?_
   refine p_new rfl (e_alloc (cs := [.str ByteArray.empty, .nil, .int 0, .int 0]) (n := 4) (by kernel_rfl) rfl (by decide)) (ob_alloc (by decide)) ?_
   refine p_aS rfl ?_
   refine p_store rfl (e_storeA rfl (hset_self _ _ _) rfl rfl rfl (by kernel_rfl) rfl (by kernel_rfl)) trivial ?_
   refine p_end (hK55 _ ?_); clear hK55 K55
   refine pwp_seq_seq ?_
   refine pwp_seq_plain rfl fun K56 hK56 => ?_
   refine p_e rfl (e_faQ pl4 rfl) ?_
   refine p_e rfl (e_lH (v := .lit _ _ _) rfl (hset_self _ _ _) rfl) ?_
   refine p_e rfl (e_faQ pl6 rfl) ?_
   refine p_e rfl (e_lH (v := .sc _) rfl ((hset_ne (key_ne rfl)).trans ((hset_ne (key_ne rfl)).trans hihj50_3)) rfl) ?_
   refine p_call rfl (.cons inn_lit (.cons inn_sc .nil)) (ContainsT _ _ (by have := hct _ (List.mem_of_getElem? hg); omega)) ?_
   refine p_e rfl (e_not rfl) ?_
   refine p_end (hK56 _ ?_); clear hK56 K56
   refine pwp_seq_cond rfl fun K57 hK57 => ⟨fun hb58 => ?_, fun hb58 => ?_⟩
   ·have hb58R := hb58; try simp only [zz] at hb58
    refine pwp_exit ?_
    refine exit_seq ?_
    clear hK57 K57
    refine exit_here ?_
    refine seq_norm (hK54 _ ?_); clear hK54 K54
    refine pwp_plain rfl fun K59 hK59 => ?_
    refine p_e rfl (e_adL rfl rfl) ?_
    refine p_mS rfl ?_
    refine p_end (hK59 _ ?_); clear hK59 K59
    exact loop_again ((i + 1, bg, bs)) (by show _ < _; simp only; omega) ⟨rfl, rfl, rfl, rfl, rfl, rfl, rfl, rfl, rfl, rfl, rfl, rfl, rfl, rfl, trivial⟩ ⟨rfl, trivial⟩ (by exact ⟨by show _ + 1 ≤ _; simp only [List.length_map] at *; omega, by (dsimp only; first | exact BI.tr hgk hbi (by assumption) | exact BI.late hgk hbi (by omega) | exact BI.keep hgk hbi (by omega) (by omega) | exact BI.take hgk hbi (by omega) (by assumption) (by omega) (.inl (by omega)) | exact BI.take hgk hbi (by omega) (by assumption) (by omega) (.inr (by omega))), by (dsimp only; omega), by (show NP _ 154 2 Sp.enc _ _; refine hnp2.keep ?_; intro g; repeat (first | refine (hset_ne (key_ne rfl)).trans ?_ | rfl)), ((hset_ne (key_ne rfl)).trans ((hset_ne (key_ne rfl)).trans hihj50_0)), ((hset_ne (key_ne rfl)).trans ((hset_ne (key_ne rfl)).trans hihj50_1)), ((hset_ne (key_ne rfl)).trans ((hset_ne (key_ne rfl)).trans hihj50_2)), ((hset_ne (key_ne rfl)).trans ((hset_ne (key_ne rfl)).trans hihj50_3)), ((hset_ne (key_ne rfl)).trans ((hset_ne (key_ne rfl)).trans hihj50_4))⟩)
   have hb58R := hb58; try simp only [zz] at hb58
   refine pwp_skip ?_
   refine seq_norm (hK57 _ ?_); clear hK57 K57
   obtain ⟨u, hu⟩ : ∃ u, vs[(i : Int).toNat]? = some u := ⟨_, List.getElem?_eq_getElem (by rw [hnp2.len, bsT_len, Int.toNat_natCast]; omega)⟩
   have hul : SliceAt _ 154 u 2 ((bsG xs D (i : Int)).map Sp.enc) := hnp2.get hu (by rw [Int.toNat_natCast]; exact bsT_get (by omega))
   have hvl : vs.length = c.gangs.length := by rw [hnp2.len, bsT_len]
   refine pwp_seq_gops rfl fun K60 hK60 => ?_
   refine s_begin ?_
   refine s_e rfl (e_move (v := .sc _) rfl) ?_
   refine s_e rfl (e_faQ pl4 rfl) ?_
   refine s_step [20] (by simp) rfl rfl rfl rfl (e_lH (v := .sc _) rfl (hset_self _ _ _) rfl) trivial ?_
   refine s_e rfl (e_max rfl rfl) ?_
   refine s_e rfl (e_faQ pl6 rfl) ?_
   refine s_step [13] (by simp) rfl rfl rfl rfl (e_lH (v := .sc _) rfl ((hset_ne (key_ne rfl)).trans ((hset_ne (key_ne rfl)).trans hihj50_3)) rfl) trivial ?_
   refine s_e rfl (e_move (v := .ref _ _ _ _) rfl) ?_
   refine s_e rfl (e_move (v := .sc _) rfl) ?_
   refine s_e rfl (e_ixaR0 rfl rfl (by kernel_rfl) (by kernel_rfl) (by omega)) ?_
   refine s_step [41] (by simp) rfl rfl rfl rfl (e_loadV (v := u) rfl ((hset_ne (key_ne rfl)).trans ((hset_ne (key_ne rfl)).trans hihj50_2)) (by kernel_rfl) (by kernel_rfl) (by kernel_rfl) hu) trivial ?_
   refine s_e rfl (e_move (v := .lit _ _ _) rfl) ?_
   refine s_new [] (by simp) rfl rfl rfl rfl (e_bslice (rows := [cv u, cv (.lit false 2 ((clL c.closed x.place).map Sp.enc))]) (zs := [.nil]) (sz := 1) (by kernel_rfl) (by kernel_rfl) rfl (by kernel_rfl) (by decide) rfl rfl (by exact ⟨by decide, sl_pl hul, sl_pc hul, by decide, rfl, rfl, trivial⟩) (by show [pcells u, _] = _; rw [sl_pcells hul]; rfl)) trivial ?_
   refine s_callX2 (args := [.ref _ _ _ _]) [104, 154] (concatX (l1 := bsG xs D (i : Int)) (l2 := clL c.closed x.place) (hset_self _ _ _) (hul.keep fun _ => (hset_ne (key_ne rfl)).trans ((hset_ne (key_ne rfl)).trans ((hset_ne (key_ne rfl)).trans (rfl))))) rfl rfl rfl rfl (concat2 (by omega) (by omega)) ?_
   refine s_call (args := [.sc _, .sc _, .lit _ _ _]) [] (by intro k hk; simp [keysOf, Go.Pv.keyOf] at hk; try (subst hk; simp)) rfl rfl rfl rfl (.cons inn_sc (.cons inn_sc (.cons inn_lit .nil))) (earliestG hgk (by omega) (by omega) (by omega)) ?_
   refine s_e rfl (e_assign (v := .sc _) rfl) ?_
   refine s_end (ds := []) (by kernel_rfl) (by kernel_rfl) (hK60 _ ?_); clear hK60 K60
   refine pwp_seq_gops rfl fun K61 hK61 => ?_
   refine g_begin ?_
   refine g_mS rfl rfl ?_
   refine g_e rfl (e_faQ pl6 rfl) ?_
   refine g_e rfl (e_lH (v := .sc _) rfl ((hset_ne (key_ne rfl)).trans ((hset_ne (key_ne rfl)).trans ((hset_ne (key_ne rfl)).trans hihj50_3))) rfl) ?_
   refine g_e rfl (e_adL rfl rfl) ?_
   refine g_e rfl (e_faQ pl4 rfl) ?_
   refine g_e rfl (e_lH (v := .sc _) rfl ((hset_ne (key_ne rfl)).trans (hset_self _ _ _)) rfl) ?_
   refine g_e rfl (e_le rfl rfl) ?_
   refine g_mS rfl rfl ?_
   refine g_cases (fun hb62 => ?_) (fun hb62 => ?_)
   ·have hb62R := hb62; try simp only [zz] at hb62
    refine g_e rfl (e_faQ pl3 rfl) ?_
    refine g_e rfl (e_lH (v := .sc _) rfl ((hset_ne (key_ne rfl)).trans ((hset_ne (key_ne rfl)).trans ((hset_ne (key_ne rfl)).trans hihj50_4))) rfl) ?_
    refine g_e rfl (e_lt rfl rfl) ?_
    refine g_mS rfl rfl ?_
    refine g_cases (fun hb63 => ?_) (fun hb63 => ?_)
    ·have hb63R := hb63; try simp only [zz] at hb63
     iterate 4 refine g_skip rfl rfl rfl ?_
     refine g_pT rfl rfl rfl ?_
     refine g_pT rfl rfl rfl ?_
     refine g_end (ds := [115, 116, 117, 118, 119, 120, 121, 122, 123]) rfl rfl (hK61 _ ?_); clear hK61 K61
     refine pwp_cond (t := true) rfl (fun _ => ?_) nofun
     refine pwp_plain rfl fun K64 hK64 => ?_
     refine p_mS rfl ?_
     refine p_mS rfl ?_
     refine p_e rfl (e_faQ pl3 rfl) ?_
     refine p_store rfl (e_store1 rfl ((hset_ne (key_ne rfl)).trans ((hset_ne (key_ne rfl)).trans ((hset_ne (key_ne rfl)).trans hihj50_4))) rfl rfl rfl (by decide) (by kernel_rfl) rfl (by kernel_rfl)) trivial ?_
     refine p_e rfl (e_faQ pl3 rfl) ?_
     refine p_store rfl (e_store1 rfl (hset_self _ _ _) rfl rfl rfl (by decide) (by kernel_rfl) rfl (by kernel_rfl)) trivial ?_
     refine p_end (hK64 _ ?_); clear hK64 K64
     refine block_norm ?_
     refine seq_norm (hK54 _ ?_); clear hK54 K54
     refine pwp_plain rfl fun K65 hK65 => ?_
     refine p_e rfl (e_adL rfl rfl) ?_
     refine p_mS rfl ?_
     refine p_end (hK65 _ ?_); clear hK65 K65
     exact loop_again ((i + 1, (i : Int), (eG xs c D x g f (i : Int)))) (by show _ < _; simp only; omega) ⟨rfl, rfl, rfl, rfl, rfl, rfl, rfl, rfl, rfl, rfl, rfl, rfl, rfl, rfl, trivial⟩ ⟨rfl, trivial⟩ (by exact ⟨by show _ + 1 ≤ _; simp only [List.length_map] at *; omega, by (dsimp only; first | exact BI.tr hgk hbi (by assumption) | exact BI.late hgk hbi (by omega) | exact BI.keep hgk hbi (by omega) (by omega) | exact BI.take hgk hbi (by omega) (by assumption) (by omega) (.inl (by omega)) | exact BI.take hgk hbi (by omega) (by assumption) (by omega) (.inr (by omega))), by (dsimp only; omega), by (show NP _ 154 2 Sp.enc _ _; refine hnp2.keep ?_; intro g; repeat (first | refine (hset_ne (key_ne rfl)).trans ?_ | rfl)), ((hset_ne (key_ne rfl)).trans ((hset_ne (key_ne rfl)).trans ((hset_ne (key_ne rfl)).trans ((hset_ne (key_ne rfl)).trans ((hset_ne (key_ne rfl)).trans hihj50_0))))), ((hset_ne (key_ne rfl)).trans ((hset_ne (key_ne rfl)).trans ((hset_ne (key_ne rfl)).trans ((hset_ne (key_ne rfl)).trans ((hset_ne (key_ne rfl)).trans hihj50_1))))), ((hset_ne (key_ne rfl)).trans ((hset_ne (key_ne rfl)).trans ((hset_ne (key_ne rfl)).trans ((hset_ne (key_ne rfl)).trans ((hset_ne (key_ne rfl)).trans hihj50_2))))), ((hset_ne (key_ne rfl)).trans ((hset_ne (key_ne rfl)).trans ((hset_ne (key_ne rfl)).trans ((hset_ne (key_ne rfl)).trans ((hset_ne (key_ne rfl)).trans hihj50_3))))), (hset_self _ _ _)⟩)
    have hb63R := hb63; try simp only [zz] at hb63
    refine g_mS rfl rfl ?_
    refine g_e rfl (e_faQ pl3 rfl) ?_
    refine g_e rfl (e_lH (v := .sc _) rfl ((hset_ne (key_ne rfl)).trans ((hset_ne (key_ne rfl)).trans ((hset_ne (key_ne rfl)).trans hihj50_4))) rfl) ?_
    refine g_e rfl (e_lt rfl rfl) ?_
    refine g_pF rfl rfl rfl ?_
    refine g_pT rfl rfl rfl ?_
    refine g_end (ds := [115, 116, 117, 118, 119, 120, 121, 122, 123]) rfl rfl (hK61 _ ?_); clear hK61 K61
    refine pwp_cond rfl (fun hb66 => ?_) (fun hb66 => ?_)
    ·have hb66R := hb66; try simp only [zz] at hb66
     refine pwp_plain rfl fun K67 hK67 => ?_
     refine p_mS rfl ?_
     refine p_mS rfl ?_
     refine p_e rfl (e_faQ pl3 rfl) ?_
     refine p_store rfl (e_store1 rfl ((hset_ne (key_ne rfl)).trans ((hset_ne (key_ne rfl)).trans ((hset_ne (key_ne rfl)).trans hihj50_4))) rfl rfl rfl (by decide) (by kernel_rfl) rfl (by kernel_rfl)) trivial ?_
     refine p_e rfl (e_faQ pl3 rfl) ?_
     refine p_store rfl (e_store1 rfl (hset_self _ _ _) rfl rfl rfl (by decide) (by kernel_rfl) rfl (by kernel_rfl)) trivial ?_
     refine p_end (hK67 _ ?_); clear hK67 K67
     refine block_norm ?_
     refine seq_norm (hK54 _ ?_); clear hK54 K54
     refine pwp_plain rfl fun K68 hK68 => ?_
     refine p_e rfl (e_adL rfl rfl) ?_
     refine p_mS rfl ?_
     refine p_end (hK68 _ ?_); clear hK68 K68
     exact loop_again ((i + 1, (i : Int), (eG xs c D x g f (i : Int)))) (by show _ < _; simp only; omega) ⟨rfl, rfl, rfl, rfl, rfl, rfl, rfl, rfl, rfl, rfl, rfl, rfl, rfl, rfl, trivial⟩ ⟨rfl, trivial⟩ (by exact ⟨by show _ + 1 ≤ _; simp only [List.length_map] at *; omega, by (dsimp only; first | exact BI.tr hgk hbi (by assumption) | exact BI.late hgk hbi (by omega) | exact BI.keep hgk hbi (by omega) (by omega) | exact BI.take hgk hbi (by omega) (by assumption) (by omega) (.inl (by omega)) | exact BI.take hgk hbi (by omega) (by assumption) (by omega) (.inr (by omega))), by (dsimp only; omega), by (show NP _ 154 2 Sp.enc _ _; refine hnp2.keep ?_; intro g; repeat (first | refine (hset_ne (key_ne rfl)).trans ?_ | rfl)), ((hset_ne (key_ne rfl)).trans ((hset_ne (key_ne rfl)).trans ((hset_ne (key_ne rfl)).trans ((hset_ne (key_ne rfl)).trans ((hset_ne (key_ne rfl)).trans hihj50_0))))), ((hset_ne (key_ne rfl)).trans ((hset_ne (key_ne rfl)).trans ((hset_ne (key_ne rfl)).trans ((hset_ne (key_ne rfl)).trans ((hset_ne (key_ne rfl)).trans hihj50_1))))), ((hset_ne (key_ne rfl)).trans ((hset_ne (key_ne rfl)).trans ((hset_ne (key_ne rfl)).trans ((hset_ne (key_ne rfl)).trans ((hset_ne (key_ne rfl)).trans hihj50_2))))), ((hset_ne (key_ne rfl)).trans ((hset_ne (key_ne rfl)).trans ((hset_ne (key_ne rfl)).trans ((hset_ne (key_ne rfl)).trans ((hset_ne (key_ne rfl)).trans hihj50_3))))), (hset_self _ _ _)⟩)
    have hb66R := hb66; try simp only [zz] at hb66
    refine pwp_skip ?_
    refine block_norm ?_
    refine seq_norm (hK54 _ ?_); clear hK54 K54
    refine pwp_plain rfl fun K69 hK69 => ?_
    refine p_e rfl (e_adL rfl rfl) ?_
    refine p_mS rfl ?_
    refine p_end (hK69 _ ?_); clear hK69 K69
    exact loop_again ((i + 1, bg, bs)) (by show _ < _; simp only; omega) ⟨rfl, rfl, rfl, rfl, rfl, rfl, rfl, rfl, rfl, rfl, rfl, rfl, rfl, rfl, trivial⟩ ⟨rfl, trivial⟩ (by exact ⟨by show _ + 1 ≤ _; simp only [List.length_map] at *; omega, by (dsimp only; first | exact BI.tr hgk hbi (by assumption) | exact BI.late hgk hbi (by omega) | exact BI.keep hgk hbi (by omega) (by omega) | exact BI.take hgk hbi (by omega) (by assumption) (by omega) (.inl (by omega)) | exact BI.take hgk hbi (by omega) (by assumption) (by omega) (.inr (by omega))), by (dsimp only; omega), by (show NP _ 154 2 Sp.enc _ _; refine hnp2.keep ?_; intro g; repeat (first | refine (hset_ne (key_ne rfl)).trans ?_ | rfl)), ((hset_ne (key_ne rfl)).trans ((hset_ne (key_ne rfl)).trans ((hset_ne (key_ne rfl)).trans hihj50_0))), ((hset_ne (key_ne rfl)).trans ((hset_ne (key_ne rfl)).trans ((hset_ne (key_ne rfl)).trans hihj50_1))), ((hset_ne (key_ne rfl)).trans ((hset_ne (key_ne rfl)).trans ((hset_ne (key_ne rfl)).trans hihj50_2))), ((hset_ne (key_ne rfl)).trans ((hset_ne (key_ne rfl)).trans ((hset_ne (key_ne rfl)).trans hihj50_3))), ((hset_ne (key_ne rfl)).trans ((hset_ne (key_ne rfl)).trans ((hset_ne (key_ne rfl)).trans hihj50_4)))⟩)
   have hb62R := hb62; try simp only [zz] at hb62
   iterate 9 refine g_skip rfl rfl rfl ?_
   refine g_pF rfl rfl rfl ?_
   refine g_end (ds := [115, 116, 117, 118, 119, 120, 121, 122, 123]) rfl rfl (hK61 _ ?_); clear hK61 K61
   refine pwp_cond (t := false) rfl nofun (fun _ => ?_)
   refine pwp_skip ?_
   refine block_norm ?_
   refine seq_norm (hK54 _ ?_); clear hK54 K54
   refine pwp_plain rfl fun K70 hK70 => ?_
   refine p_e rfl (e_adL rfl rfl) ?_
   refine p_mS rfl ?_
   refine p_end (hK70 _ ?_); clear hK70 K70
   exact loop_again ((i + 1, bg, bs)) (by show _ < _; simp only; omega) ⟨rfl, rfl, rfl, rfl, rfl, rfl, rfl, rfl, rfl, rfl, rfl, rfl, rfl, rfl, trivial⟩ ⟨rfl, trivial⟩ (by exact ⟨by show _ + 1 ≤ _; simp only [List.length_map] at *; omega, by (dsimp only; first | exact BI.tr hgk hbi (by assumption) | exact BI.late hgk hbi (by omega) | exact BI.keep hgk hbi (by omega) (by omega) | exact BI.take hgk hbi (by omega) (by assumption) (by omega) (.inl (by omega)) | exact BI.take hgk hbi (by omega) (by assumption) (by omega) (.inr (by omega))), by (dsimp only; omega), by (show NP _ 154 2 Sp.enc _ _; refine hnp2.keep ?_; intro g; repeat (first | refine (hset_ne (key_ne rfl)).trans ?_ | rfl)), ((hset_ne (key_ne rfl)).trans ((hset_ne (key_ne rfl)).trans ((hset_ne (key_ne rfl)).trans hihj50_0))), ((hset_ne (key_ne rfl)).trans ((hset_ne (key_ne rfl)).trans ((hset_ne (key_ne rfl)).trans hihj50_1))), ((hset_ne (key_ne rfl)).trans ((hset_ne (key_ne rfl)).trans ((hset_ne (key_ne rfl)).trans hihj50_2))), ((hset_ne (key_ne rfl)).trans ((hset_ne (key_ne rfl)).trans ((hset_ne (key_ne rfl)).trans hihj50_3))), ((hset_ne (key_ne rfl)).trans ((hset_ne (key_ne rfl)).trans ((hset_ne (key_ne rfl)).trans hihj50_4)))⟩)
  have hb53R := hb53; try simp only [zz] at hb53
  obtain rfl : i = c.gangs.length := by simp only [List.length_map] at *; omega
  refine pwp_exit ?_
  refine exit_seq ?_
  clear hK52 K52
  refine exit_loop ?_
  refine exit_here ?_
  refine seq_norm (hK45 _ ?_); clear hK45 K45
  refine pwp_seq_seq ?_
  refine pwp_seq_plain rfl fun K71 hK71 => ?_
  refine p_e rfl (e_faQ pl3 rfl) ?_
  refine p_e rfl (e_lH (v := .sc _) rfl hihj50_4 rfl) ?_
  refine p_e rfl (e_lt rfl rfl) ?_
  refine p_end (hK71 _ ?_); clear hK71 K71
  refine pwp_seq_cond rfl fun K72 hK72 => ⟨fun hb73 => ?_, fun hb73 => ?_⟩
  ·have hb73R := hb73; try simp only [zz] at hb73
   refine pwp_seq_plain rfl fun K74 hK74 => ?_
   refine p_e rfl (e_assign (v := .nil) rfl) ?_
   refine p_aS rfl ?_
   refine p_end (hK74 _ ?_); clear hK74 K74
   refine pwp_ret ?_
   refine ret_seq ?_
   refine ret_block ?_
   refine ret_seq ?_
   refine ret_loop ?_
   refine ret_block ?_
   refine ret_seq ?_
   refine end2 (v := .nil) (w := .sc _) rfl rfl ?_
   exact schP_out3 hp hc0 (go_none hdr hgo (by rw [hxd, ← hfe]; exact pk_none (hbi.noF (by assumption))))
  have hb73R := hb73; try simp only [zz] at hb73
  refine pwp_skip ?_
  refine seq_norm (hK72 _ ?_); clear hK72 K72
  have hb1 : ¬ bg < 0 := by omega
  obtain ⟨hb0, hpk⟩ := hbi.yesF hb1
  have hgo3 := go_some hdr hgo (by rw [hxd, ← hfe]; exact pk_some hpk)
  have hok3 := pk_ok hpk hx (by omega) (by omega) hco.2.1
  have hdi3 := hdi.snoc hkO hpk.task hok3
  have hst : (SLx xs.length D).set (at0 (ordR (ndX xs)) k).toNat ⟨(at0 (ordR (ndX xs)) k), bg, bs⟩ = SLx xs.length (D ++ [⟨(at0 (ordR (ndX xs)) k), bg, bs⟩]) := SLx_snoc (x := ⟨(at0 (ordR (ndX xs)) k), bg, bs⟩) (by dsimp only; omega) hTn
  refine pwp_seq_plain rfl fun K75 hK75 => ?_
  refine p_e rfl (e_move (v := .ref _ _ _ _) rfl) ?_
  refine p_mS rfl ?_
  refine p_e rfl (e_loadHA (cs := Slot.enc ((⟨(at0 (ordR (ndX xs)) k), bg, bs⟩ : Slot))) (n := 3) rfl hihj50_4 (by kernel_rfl) (by kernel_rfl) (by kernel_rfl) (by exact Nat.zero_lt_one) (by decide) rfl) ?_
  refine p_e rfl (e_ixaR0 rfl rfl (by kernel_rfl) (by kernel_rfl) (by first | omega | (simp only [List.length_map]; omega))) ?_
  refine p_store rfl (e_storeR (xs := (SLx xs.length D)) (a := (⟨(at0 (ordR (ndX xs)) k), bg, bs⟩ : Slot)) rfl hihj50_1 rfl (by (rw [SLx_len]; omega)) (fun _ => rfl) (by kernel_rfl) rfl (by kernel_rfl)) trivial ?_
  refine p_end (hK75 _ ?_); clear hK75 K75
  obtain ⟨u, hu⟩ : ∃ u, vs[bg.toNat]? = some u := ⟨_, List.getElem?_eq_getElem (by rw [hnp2.len, bsT_len]; omega)⟩
  have hbr : 0 ≤ bg ∧ bg ≤ (c.gangs.length : Int) - 1 := by omega
  have hul := hnp2.get hu (bsT_getI hbr)
  have hgl := bsG_len (xs := xs) (d := D) (g := bg)
  have hvl : vs.length = c.gangs.length := by rw [hnp2.len, bsT_len]
  refine pwp_gopsK rfl fun hkn K76 hK76 => ?_
  have hfs := hkn.fresh 154
  refine s_begin ?_
  refine s_e rfl (e_move (v := .ref _ _ _ _) rfl) ?_
  refine s_e rfl (e_faQ pl3 rfl) ?_
  refine s_step [17] (by simp) rfl rfl rfl rfl (e_lH (v := .sc _) rfl ((hset_ne (key_ne rfl)).trans hihj50_4) rfl) trivial ?_
  refine s_e rfl (e_move (v := .ref _ _ _ _) rfl) ?_
  refine s_e rfl (e_faQ pl3 rfl) ?_
  refine s_step [17] (by simp) rfl rfl rfl rfl (e_lH (v := .sc _) rfl ((hset_ne (key_ne rfl)).trans hihj50_4) rfl) trivial ?_
  refine s_e rfl (e_ixaR0 rfl rfl (by kernel_rfl) (by kernel_rfl) (by omega)) ?_
  refine s_step [41] (by simp) rfl rfl rfl rfl (e_loadV (v := u) rfl ((hset_ne (key_ne rfl)).trans hihj50_2) (by kernel_rfl) (by kernel_rfl) (by kernel_rfl) hu) trivial ?_
  refine s_e rfl (e_faQ pl3 rfl) ?_
  refine s_step [17] (by simp) rfl rfl rfl rfl (e_lH (v := .sc _) rfl ((hset_ne (key_ne rfl)).trans hihj50_4) rfl) trivial ?_
  refine s_e rfl (e_faQ pl3 rfl) ?_
  refine s_step [17] (by simp) rfl rfl rfl rfl (e_lH (v := .sc _) rfl ((hset_ne (key_ne rfl)).trans hihj50_4) rfl) trivial ?_
  refine s_e rfl (e_faQ pl6 rfl) ?_
  refine s_step [13] (by simp) rfl rfl rfl rfl (e_lH (v := .sc _) rfl ((hset_ne (key_ne rfl)).trans hihj50_3) rfl) trivial ?_
  refine s_e rfl (e_adL rfl rfl) ?_
  refine s_e rfl (e_build (cs := Sp.enc (⟨(⟨(at0 (ordR (ndX xs)) k), bg, bs⟩ : Slot).start, ((⟨(at0 (ordR (ndX xs)) k), bg, bs⟩ : Slot).start + x.minutes)⟩ : Sp)) (zs := [.int 0, .int 0]) (pl := [(0, 1, false), (1, 1, false)]) (by kernel_rfl) (by kernel_rfl) (by kernel_rfl) rfl rfl (by exact ⟨by decide, rfl, Nat.le_of_ble_eq_true rfl, rfl, ⟨by decide, rfl, Nat.le_of_ble_eq_true rfl, rfl, trivial⟩⟩) rfl) ?_
  refine s_new [] (by simp) rfl rfl rfl rfl (e_bslice (rows := [Sp.enc ⟨bs, bs + x.minutes⟩]) (zs := [.int 0, .int 0]) (sz := 2) (by kernel_rfl) (by kernel_rfl) rfl (by kernel_rfl) (by decide) rfl rfl (by exact ⟨by decide, rfl, rfl, trivial⟩) rfl) trivial ?_
  refine s_appK (u := u) (sz := 2) (d1 := 154) (rows := (bsG xs D bg).map Sp.enc) (rows2 := [Sp.enc ⟨bs, bs + x.minutes⟩]) (ds := [153]) [154, 153] [154] (by simp) (by simp) (by simp) rfl rfl rfl (hul.keep fun _ => (hset_ne (key_ne rfl)).trans ((hset_ne (key_ne rfl)).trans (rfl))) (SrcAt.ref (hset_self _ _ _) rfl) rfl (by kernel_rfl) (by simp only [List.length_map, List.length_cons, List.length_nil]; omega) (by simp) fun h1 hr1 hf1 => ?_
  have hsp : spY xs (⟨(at0 (ordR (ndX xs)) k), bg, bs⟩ : Slot) = ⟨bs, bs + x.minutes⟩ := by rw [spY, tsk_at hx]
  have hnp3 := (hnp2.keep (fun g => (hset_ne (key_ne rfl)).trans ((hset_ne (key_ne rfl)).trans (rfl)))).app (Fresh.keep (d := 154) hfs (fun g => hset_ne (key_ne rfl)) rfl) (l' := bsG xs D bg ++ [spY xs ⟨(at0 (ordR (ndX xs)) k), bg, bs⟩]) (v' := .ref (154, _) 2 0 (((bsG xs D bg).map Sp.enc).length + [Sp.enc ⟨bs, bs + x.minutes⟩].length)) hu (bsT_getI hbr) (congrArg (PV.ref _ 2 0) (by simp only [List.length_map, List.length_append, List.length_cons, List.length_nil])) (hr1.trans (by rw [List.map_append, hsp]; rfl)) (fun k' q1 q2 => hf1 k' q1 (fun g e => q2 g (by rw [e, List.length_map])))
  rw [show (bsT xs D c.gangs.length).set bg.toNat (bsG xs D bg ++ [spY xs ⟨(at0 (ordR (ndX xs)) k), bg, bs⟩]) = bsT xs (D ++ [⟨(at0 (ordR (ndX xs)) k), bg, bs⟩]) c.gangs.length from bsT_stepI (x := ⟨(at0 (ordR (ndX xs)) k), bg, bs⟩) hbr] at hnp3
  have ho77 := (hf1 (3, _) (key_ne rfl) (fun _ _ => key_ne rfl)).trans ((hset_ne (key_ne rfl)).trans ((hset_ne (key_ne rfl)).trans hihj50_0))
  have ho78 := (hf1 (37, _) (key_ne rfl) (fun _ _ => key_ne rfl)).trans ((hset_ne (key_ne rfl)).trans (hset_self _ _ _))
  have ho79 := (hf1 (41, _) (key_ne rfl) (fun _ _ => key_ne rfl)).trans ((hset_ne (key_ne rfl)).trans ((hset_ne (key_ne rfl)).trans hihj50_2))
  have ho80 := (hf1 (13, _) (key_ne rfl) (fun _ _ => key_ne rfl)).trans ((hset_ne (key_ne rfl)).trans ((hset_ne (key_ne rfl)).trans hihj50_3))
  have ho81 := (hf1 (17, _) (key_ne rfl) (fun _ _ => key_ne rfl)).trans ((hset_ne (key_ne rfl)).trans ((hset_ne (key_ne rfl)).trans hihj50_4))
  have ho82 := (hf1 (153, _) (key_ne rfl) (fun _ _ => key_ne rfl)).trans (hset_self _ _ _)
  refine s_e rfl (e_ixaR0 rfl rfl (by kernel_rfl) (by kernel_rfl) (by omega)) ?_
  refine s_store [41] (by simp) rfl rfl (e_storeV rfl ho79 rfl rfl rfl (by rw [hnp2.len, bsT_len]; omega) (by kernel_rfl) (by kernel_rfl)) trivial ?_
  refine s_end (ds := []) (by kernel_rfl) (by kernel_rfl) (hK76 _ ?_); clear hK76 K76
  refine block_norm ?_
  refine seq_norm (hK24 _ ?_); clear hK24 K24
  refine pwp_plain rfl fun K83 hK83 => ?_
  refine p_e rfl (e_adL rfl rfl) ?_
  refine p_mS rfl ?_
  refine p_end (hK83 _ ?_); clear hK83 K83
  exact loop_again ((k + 1, D ++ [⟨(at0 (ordR (ndX xs)) k), bg, bs⟩], _)) (by show _ < _; simp only; omega) ⟨rfl, rfl, rfl, rfl, rfl, rfl, trivial⟩ ⟨rfl, trivial⟩ (by exact ⟨by show _ + 1 ≤ _; simp only [List.length_map] at *; omega, by exact hgo3, by exact hdi3, by (show NP _ 154 2 Sp.enc _ _; refine hnp3.keep ?_; intro g; exact hset_ne (key_ne rfl)), ((hset_ne (key_ne rfl)).trans ho77), (((hset_ne (key_ne rfl)).trans ho78).trans (by (rw [hst]))), (hset_self _ _ _)⟩)
 have hb23R := hb23; try simp only [zz] at hb23
 have hge : schO xs c = some D := go_end hgo (by simp only [List.length_map] at *; omega)
 refine pwp_exit ?_
 refine exit_seq ?_
 clear hK22 K22
 refine exit_loop ?_
 refine exit_here ?_
 refine seq_norm (hK15 _ ?_); clear hK15 K15
 refine pwp_seq_plain rfl fun K84 hK84 => ?_
 refine p_e rfl (e_move (v := .ref _ _ _ _) rfl) ?_
 refine p_e rfl (e_assign (v := .ref _ _ _ _) rfl) ?_
 refine p_aS rfl ?_
 refine p_end (hK84 _ ?_); clear hK84 K84
 refine pwp_ret ?_
 refine end2 (v := .ref _ _ _ _) (w := .sc _) rfl rfl ?_
 exact schP_out4 hp hc0 hge hihj20_1

end Go.Proofs.Ytjmjiegplnfiiaa

/- ErectionSchedules at P level. No conditions. -/
set_option linter.unusedSimpArgs false
set_option linter.unusedVariables false
set_option maxRecDepth 100000
namespace Go.Proofs.Ytjmjiegplnfiiaa
open Go Go.Pv
theorem eqOk_Slot (a b : Slot) : eqOk Try.prog 6 120 (.agg a.enc) (.agg b.enc) = true := by kernel_rfl
theorem eqV_Slot (a b : Slot) : eqV Try.prog 6 120 (.agg a.enc) (.agg b.enc) = decide (a = b) := by
 have h : eqV Try.prog 6 120 (.agg a.enc) (.agg b.enc) = ((a.task == b.task) && ((a.gang == b.gang) && ((a.start == b.start) && true))) := by kernel_rfl
 rw [h]
 cases a; cases b
 simp only [Slot.mk.injEq]
 rw [Bool.eq_iff_iff]
 simp
theorem same_endL {α : Type} {xs ys : List α} (hl : xs.length = ys.length) (h : xs.take xs.length = ys.take xs.length) : xs = ys := by
 rw [List.take_length] at h
 rw [h, hl, List.take_length]
theorem take_snoc2 {α : Type} {xs ys : List α} {k : Nat} {x y : α} (ht : xs.take (k + 1) = xs.take k ++ [x]) (hty : ys.take (k + 1) = ys.take k ++ [y]) (he : xs.take k = ys.take k) (h : x = y) : xs.take (k + 1) = ys.take (k + 1) := by rw [ht, hty, he, h]
theorem same_badL {α : Type} {xs ys : List α} {k : Nat} {x y : α} (hx : xs[k]? = some x) (hy : ys[k]? = some y) (hn : ¬ x = y) : ¬ xs = ys := fun h => by subst h; rw [hx] at hy; cases hy; exact hn rfl
section
variable {xs : List Task} {c : Crew}
theorem schP_len (hf : Fair xs) (hl : xs.length ≤ 15) : (schP xs c).1.length ≤ 15 := by
 unfold schP
 split
 · exact Nat.zero_le _
 · split
   · exact Nat.zero_le _
   · split
     · exact Nat.zero_le _
     · dsimp only; rw [SLx_len]; exact hl
theorem sh_1 (h : planE xs ≠ 0) : decide (((((schP xs c).1.map Slot.enc).length : Nat) : Int) = 0) = true := by rw [schP_p h]; rfl
theorem sh_2 (h : planE xs ≠ 0) (h2 : ¬ (schP xs c).2 = planE xs) : False := h2 (by rw [schP_p h])
theorem sh_1c (h : planE xs = 0) (h2 : crewE c ≠ 0) : decide (((((schP xs c).1.map Slot.enc).length : Nat) : Int) = 0) = true := by rw [schP_c h h2]; rfl
theorem sh_2c (h : planE xs = 0) (h2 : crewE c ≠ 0) (h3 : ¬ (schP xs c).2 = crewE c) : False := h3 (by rw [schP_c h h2])
theorem schQ_n (h : (schQ xs c).2 = false) : schO xs c = none := by
 cases e : schO xs c with
 | none => rfl
 | some D => rw [schQ_some e] at h; cases h
theorem schQ_s (h : (schQ xs c).2 = true) : ∃ D, schO xs c = some D := by
 cases e : schO xs c with
 | none => rw [schQ_none e] at h; cases h
 | some D => exact ⟨D, rfl⟩
theorem sh_3 (h : planE xs = 0) (h2 : crewE c = 0) (h3 : (schQ xs c).2 = false) : decide (((((schP xs c).1.map Slot.enc).length : Nat) : Int) = 0) = true := by rw [schP_n h h2 (schQ_n h3)]; rfl
theorem sh_4 (h : planE xs = 0) (h2 : crewE c = 0) (h3 : (schQ xs c).2 = false) (h4 : ¬ (schP xs c).2 = 27) : False := h4 (by rw [schP_n h h2 (schQ_n h3)])
theorem sh_5 (h : planE xs = 0) (h2 : crewE c = 0) (h3 : (schQ xs c).2 = true) : decide ((schP xs c).1 = (schQ xs c).1) = true := by
 obtain ⟨D, hD⟩ := schQ_s h3
 rw [schP_s h h2 hD, schQ_some hD]; exact decide_eq_true rfl
theorem sh_6 (h : planE xs = 0) (h2 : crewE c = 0) (h3 : (schQ xs c).2 = true) (h4 : ¬ (schP xs c).2 = 0) : False := by
 obtain ⟨D, hD⟩ := schQ_s h3
 exact h4 (by rw [schP_s h h2 hD])
end

theorem fr54 : (inFrame Try.f54.ntmps (Try.f54.body.getD .skip) && Try.f54.results.toList.all (resScope Try.f54.ntmps)) = true := by kernel_rfl
theorem SameSlotsC (xs ys : List Slot) (hl : xs.length ≤ 10000000) : PCalls Try.prog 54 [.lit true 3 (xs.map Slot.enc), .lit true 3 (ys.map Slot.enc)] (.bool (decide (xs = ys))) := by
 refine PCalls.of_code Try.func54 rfl rfl (by kernel_rfl) mixed fr54 (by show _ ≤ 26; simp) (.sc _) ?_
 refine pwp_seq_plain rfl fun K1 hK1 => ?_
 refine p_aS rfl ?_
 refine p_end (hK1 _ ?_); clear hK1 K1
 refine pwp_seq_seq ?_
 refine pwp_seq_plain rfl fun K2 hK2 => ?_
 refine p_e rfl (e_move (v := .lit _ _ _) rfl) ?_
 refine p_e rfl (e_len rfl (by kernel_rfl)) ?_
 refine p_e rfl (e_move (v := .lit _ _ _) rfl) ?_
 refine p_e rfl (e_len rfl (by kernel_rfl)) ?_
 refine p_e rfl (e_ne rfl rfl) ?_
 refine p_end (hK2 _ ?_); clear hK2 K2
 refine pwp_seq_cond rfl fun K3 hK3 => ⟨fun hb4 => ?_, fun hb4 => ?_⟩
 ·have hb4R := hb4; try simp only [zz] at hb4
  refine pwp_seq_plain rfl fun K5 hK5 => ?_
  refine p_aS rfl ?_
  refine p_end (hK5 _ ?_); clear hK5 K5
  refine pwp_ret ?_
  refine ret_seq ?_
  refine end1 (v := .sc _) rfl ?_
  exact out_b (decide_eq_false (by first | (intro hc; subst hc; omega) | exact same_badL hx hy (by assumption))).symm
 have hb4R := hb4; try simp only [zz] at hb4
 refine pwp_skip ?_
 refine seq_norm (hK3 _ ?_); clear hK3 K3
 refine pwp_seq_seq ?_
 refine pwp_seq_plain rfl fun K6 hK6 => ?_
 refine p_aS rfl ?_
 refine p_end (hK6 _ ?_); clear hK6 K6
 refine pwp_seq_block fun K7 hK7 => ?_
 refine pwp_loopR (α := Nat) [0, 1] (fun (k : Nat) => [(5, .int (k))]) (fun (k : Nat) (h : Heap) (_ : Nat → Nat) => ((k) ≤ xs.length) ∧ (xs.take (k) = ys.take (k))) (fun (k : Nat) => xs.length - (k)) (0) (by exact ⟨rfl, trivial⟩) (by exact ⟨by exact Nat.zero_le _, by exact rfl⟩) fun k r8 h9 c10 hj11 => ?_
 obtain ⟨hk, he⟩ := hj11
 try dsimp only at hk
 try dsimp only at he
 show pwp _ _ (loopQ _ _ _) ⟨sets (mix _ _ _) [(5, .int k)], _, _⟩
 refine pwp_seq_seq ?_
 refine pwp_seq_plain rfl fun K12 hK12 => ?_
 refine p_mS rfl ?_
 refine p_e rfl (e_move (v := .lit _ _ _) rfl) ?_
 refine p_e rfl (e_len rfl (by kernel_rfl)) ?_
 refine p_e rfl (e_lt rfl rfl) ?_
 refine p_end (hK12 _ ?_); clear hK12 K12
 refine pwp_seq_cond rfl fun K13 hK13 => ⟨fun hb14 => ?_, fun hb14 => ?_⟩
 ·have hb14R := hb14; try simp only [zz] at hb14
  obtain ⟨x, hx, hd, ht⟩ := get_lt (xs := xs) (i := k) (by omega)
  obtain ⟨y, hy, hdy, hty⟩ := get_lt (xs := ys) (i := k) (by omega)
  refine pwp_skip ?_
  refine seq_norm (hK13 _ ?_); clear hK13 K13
  refine pwp_seq_block fun K15 hK15 => ?_
  refine pwp_seq_gops rfl fun K16 hK16 => ?_
  refine g_begin ?_
  refine g_e rfl (e_move (v := .lit _ _ _) rfl) ?_
  refine g_mS rfl rfl ?_
  refine g_e rfl (e_ixL rfl rfl) ?_
  refine g_e rfl (e_loadA (n := 3) rfl (by kernel_rfl) (by kernel_rfl) (by kernel_rfl) (by first | omega | (simp only [List.length_map]; omega)) (by decide) (by first | exact agg_map hx rfl)) ?_
  refine g_e rfl (e_move (v := .lit _ _ _) rfl) ?_
  refine g_mS rfl rfl ?_
  refine g_e rfl (e_ixL rfl rfl) ?_
  refine g_e rfl (e_loadA (n := 3) rfl (by kernel_rfl) (by kernel_rfl) (by kernel_rfl) (by first | omega | (simp only [List.length_map]; omega)) (by decide) (by first | exact agg_map hy rfl)) ?_
  refine g_e rfl (e_ane rfl rfl (by kernel_rfl) (eqOk_Slot (x) (y)) (eqV_Slot (x) (y))) ?_
  refine g_end (ds := []) (by kernel_rfl) rfl (hK16 _ ?_); clear hK16 K16
  refine pwp_cond rfl (fun hb17 => ?_) (fun hb17 => ?_)
  ·have hb17R := hb17; try simp only [zz] at hb17
   refine pwp_seq_plain rfl fun K18 hK18 => ?_
   refine p_aS rfl ?_
   refine p_end (hK18 _ ?_); clear hK18 K18
   refine pwp_ret ?_
   refine ret_block ?_
   refine ret_seq ?_
   refine ret_loop ?_
   refine ret_block ?_
   refine ret_seq ?_
   refine end1 (v := .sc _) rfl ?_
   exact out_b (decide_eq_false (by first | (intro hc; subst hc; omega) | exact same_badL hx hy (by assumption))).symm
  have hb17R := hb17; try simp only [zz] at hb17
  refine pwp_skip ?_
  refine block_norm ?_
  refine seq_norm (hK15 _ ?_); clear hK15 K15
  refine pwp_plain rfl fun K19 hK19 => ?_
  refine p_mS rfl ?_
  refine p_e rfl (e_add rfl rfl (by omega)) ?_
  refine p_aS rfl ?_
  refine p_end (hK19 _ ?_); clear hK19 K19
  exact loop_again (k + 1) (by show _ < _; omega) ⟨rfl, rfl, trivial⟩ ⟨rfl, trivial⟩ (by exact ⟨by show _ + 1 ≤ _; omega, by exact take_snoc2 ht hty he (by assumption)⟩)
 have hb14R := hb14; try simp only [zz] at hb14
 obtain rfl : k = xs.length := by omega
 refine pwp_exit ?_
 refine exit_seq ?_
 clear hK13 K13
 refine exit_loop ?_
 refine exit_here ?_
 refine seq_norm (hK7 _ ?_); clear hK7 K7
 refine pwp_seq_plain rfl fun K20 hK20 => ?_
 refine p_aS rfl ?_
 refine p_end (hK20 _ ?_); clear hK20 K20
 refine pwp_ret ?_
 refine end1 (v := .sc _) rfl ?_
 exact out_b (decide_eq_true (same_endL (by omega) he)).symm

theorem fr11 : (inFrame Try.f11.ntmps (Try.f11.body.getD .skip) && Try.f11.results.toList.all (resScope Try.f11.ntmps)) = true := by kernel_rfl
theorem hSched (xs : List Task) (c : Crew) (hl : xs.length ≤ 9223372036854775807) (h1 : c.gangs.length ≤ 9223372036854775807) (h2 : c.closed.length ≤ 9223372036854775807) (h3 : ∀ g ∈ c.gangs, g.trades.length ≤ 9223372036854775807) : PCalls Try.prog 11 [.lit true 6 (xs.map Task.enc), .agg c.enc] (.bool true) := by
 refine PCalls.of_code Try.func11 rfl rfl (by kernel_rfl) mixed fr11 (by show _ ≤ 95; simp) (.sc _) ?_
 refine pwp_seq_plain rfl fun K1 hK1 => ?_
 refine p_new rfl (e_box (n := 2) rfl rfl) ⟨rfl, by decide⟩ ?_
 refine p_aS rfl ?_
 refine p_end (hK1 _ ?_); clear hK1 K1
 refine pwp_seq_seq ?_
 refine pwp_seq_plain rfl fun K2 hK2 => ?_
 refine p_call rfl .nil (awake) ?_
 refine p_e rfl (e_not rfl) ?_
 refine p_end (hK2 _ ?_); clear hK2 K2
 refine pwp_seq_cond (t := false) rfl fun K3 hK3 => ⟨nofun, fun _ => ?_⟩
 refine pwp_skip ?_
 refine seq_norm (hK3 _ ?_); clear hK3 K3
 refine pwp_seq_seq ?_
 refine pwp_seq_gops rfl fun K4 hK4 => ?_
 refine g_begin ?_
 refine g_e rfl (e_move (v := .lit _ _ _) rfl) ?_
 refine g_call rfl rfl rfl rfl (.cons inn_lit (.cons inn_sc .nil)) (FewC _ _ (by omega)) ?_
 refine g_e rfl (e_not rfl) ?_
 refine g_mS rfl rfl ?_
 refine g_cases (fun hb5 => ?_) (fun hb5 => ?_)
 ·have hb5R := hb5; try simp only [zz] at hb5
  refine g_skip rfl rfl rfl ?_
  refine g_nocall rfl rfl rfl ?_
  refine g_skip rfl rfl rfl ?_
  refine g_pT rfl rfl rfl ?_
  refine g_end (ds := [18, 19, 20]) rfl rfl (hK4 _ ?_); clear hK4 K4
  refine pwp_seq_cond (t := true) rfl fun K6 hK6 => ⟨fun _ => ?_, nofun⟩
  refine pwp_seq_plain rfl fun K7 hK7 => ?_
  refine p_aS rfl ?_
  refine p_end (hK7 _ ?_); clear hK7 K7
  refine pwp_ret ?_
  refine ret_seq ?_
  refine end1 (v := .sc _) rfl ?_
  exact out_b rfl
 have hb5R := hb5; try simp only [zz] at hb5
 refine g_e rfl (e_loadHA (n := 2) rfl (hset_self _ _ _) (by kernel_rfl) (by kernel_rfl) (by kernel_rfl) (by exact Nat.zero_lt_one) (by decide) rfl) ?_
 refine g_call rfl rfl rfl rfl (.cons (inn_agg (Crew.pure _)) .nil) (briefC c h1 h2 h3) ?_
 refine g_e rfl (e_not rfl) ?_
 refine g_pF rfl rfl rfl ?_
 refine g_end (ds := [18, 19, 20]) rfl rfl (hK4 _ ?_); clear hK4 K4
 refine pwp_seq_cond rfl fun K8 hK8 => ⟨fun hb9 => ?_, fun hb9 => ?_⟩
 ·have hb9R := hb9; try simp only [zz] at hb9
  refine pwp_seq_plain rfl fun K10 hK10 => ?_
  refine p_aS rfl ?_
  refine p_end (hK10 _ ?_); clear hK10 K10
  refine pwp_ret ?_
  refine ret_seq ?_
  refine end1 (v := .sc _) rfl ?_
  exact out_b rfl
 have hb9R := hb9; try simp only [zz] at hb9
 refine pwp_skip ?_
 refine seq_norm (hK8 _ ?_); clear hK8 K8
 have hfw := few_fair (by assumption)
 have hbr := brief_iff.1 (by assumption)
 refine pwp_seq_plain rfl fun K11 hK11 => ?_
 refine p_e rfl (e_loadHA (n := 2) rfl (hset_self _ _ _) (by kernel_rfl) (by kernel_rfl) (by kernel_rfl) (by exact Nat.zero_lt_one) (by decide) rfl) ?_
 refine p_call rfl (.cons (inn_agg (Crew.pure _)) .nil) (refCrewC c (by omega) (by omega) hbr.2.2) ?_
 refine p_aS rfl ?_
 refine p_end (hK11 _ ?_); clear hK11 K11
 refine pwp_seq_seq ?_
 refine pwp_seq_plain rfl fun K12 hK12 => ?_
 refine p_e rfl (e_loadHA (n := 2) rfl (hset_self _ _ _) (by kernel_rfl) (by kernel_rfl) (by kernel_rfl) (by exact Nat.zero_lt_one) (by decide) rfl) ?_
 refine p_call rfl (.cons (inn_agg (Crew.pure _)) .nil) (CheckCrewC c (by omega) (by omega) hbr.2.2) ?_
 refine p_mS rfl ?_
 refine p_e rfl (e_ne rfl rfl) ?_
 refine p_end (hK12 _ ?_); clear hK12 K12
 refine pwp_seq_cond rfl fun K13 hK13 => ⟨fun hb14 => ?_, fun hb14 => ?_⟩
 ·have hb14R := hb14; try simp only [zz] at hb14
  refine pwp_seq_plain rfl fun K15 hK15 => ?_
  refine p_aS rfl ?_
  refine p_end (hK15 _ ?_); clear hK15 K15
  refine pwp_ret ?_
  refine ret_seq ?_
  refine end1 (v := .sc _) rfl ?_
  exact absurd (by assumption : decide (crewE c ≠ crewE c) = true) (by simp)
 have hb14R := hb14; try simp only [zz] at hb14
 refine pwp_skip ?_
 refine seq_norm (hK13 _ ?_); clear hK13 K13
 refine pwp_seq_seq ?_
 refine pwp_seq_plain rfl fun K16 hK16 => ?_
 refine p_aS rfl ?_
 refine p_end (hK16 _ ?_); clear hK16 K16
 refine pwp_seq_block fun K17 hK17 => ?_
 refine pwp_loopR (α := Nat) [0, 3, 5] (fun (k : Nat) => [(6, .int (k))]) (fun (k : Nat) (h : Heap) (_ : Nat → Nat) => ((k) ≤ c.gangs.length) ∧ (h (3, 0) = some (.rows 2 [Crew.enc c]))) (fun (k : Nat) => c.gangs.length - (k)) (0) (by exact ⟨rfl, trivial⟩) (by exact ⟨by exact Nat.zero_le _, (hset_self _ _ _)⟩) fun k r18 h19 c20 hj21 => ?_
 obtain ⟨hk, hihj21_0⟩ := hj21
 try dsimp only at hk
 try dsimp only at hihj21_0
 show pwp _ _ (loopQ _ _ _) ⟨sets (mix _ _ _) [(6, .int k)], _, _⟩
 refine pwp_seq_seq ?_
 refine pwp_seq_gops rfl fun K22 hK22 => ?_
 refine g_begin ?_
 refine g_mS rfl rfl ?_
 refine g_e rfl (e_faQ pl2 rfl) ?_
 refine g_e rfl (e_lH (v := .lit _ _ _) rfl hihj21_0 rfl) ?_
 refine g_e rfl (e_len rfl (by kernel_rfl)) ?_
 refine g_e rfl (e_lt rfl rfl) ?_
 refine g_mS rfl rfl ?_
 refine g_cases (fun hb23 => ?_) (fun hb23 => ?_)
 ·have hb23R := hb23; try simp only [zz] at hb23
  refine g_mS rfl rfl ?_
  refine g_e rfl (e_eq rfl rfl) ?_
  refine g_pT rfl rfl rfl ?_
  refine g_end (ds := [34, 35]) rfl rfl (hK22 _ ?_); clear hK22 K22
  refine pwp_seq_cond rfl fun K24 hK24 => ⟨fun hb25 => ?_, fun hb25 => ?_⟩
  ·have hb25R := hb25; try simp only [zz] at hb25
   refine pwp_skip ?_
   refine seq_norm (hK24 _ ?_); clear hK24 K24
   refine pwp_seq_block fun K26 hK26 => ?_
   obtain ⟨g, hg, hd, ht⟩ := get_lt (xs := c.gangs) (i := k) (by omega)
   refine pwp_seq_gops rfl fun K27 hK27 => ?_
   refine g_begin ?_
   refine g_e rfl (e_faQ pl2 rfl) ?_
   refine g_e rfl (e_lH (v := .lit _ _ _) rfl hihj21_0 rfl) ?_
   refine g_mS rfl rfl ?_
   refine g_e rfl (e_ixL rfl rfl) ?_
   refine g_e rfl (e_fb pl4 rfl) ?_
   refine g_e rfl (e_load (v := .sc _) rfl (by kernel_rfl) (by kernel_rfl) (by kernel_rfl) (by first | omega | (simp only [List.length_map]; omega)) (by decide) ((cell_map hg _).trans rfl)) ?_
   refine g_e rfl (e_gt rfl rfl) ?_
   refine g_mS rfl rfl ?_
   refine g_cases (fun hb28 => ?_) (fun hb28 => ?_)
   ·have hb28R := hb28; try simp only [zz] at hb28
    iterate 4 refine g_skip rfl rfl rfl ?_
    refine g_pT rfl rfl rfl ?_
    refine g_end (ds := [47, 48, 49, 50]) rfl rfl (hK27 _ ?_); clear hK27 K27
    refine pwp_cond (t := true) rfl (fun _ => ?_) nofun
    refine pwp_seq_plain rfl fun K29 hK29 => ?_
    refine p_aS rfl ?_
    refine p_end (hK29 _ ?_); clear hK29 K29
    refine pwp_ret ?_
    refine ret_block ?_
    refine ret_seq ?_
    refine ret_loop ?_
    refine ret_block ?_
    refine ret_seq ?_
    refine end1 (v := .sc _) rfl ?_
    exact out_b rfl
   have hb28R := hb28; try simp only [zz] at hb28
   refine g_e rfl (e_faQ pl2 rfl) ?_
   refine g_e rfl (e_lH (v := .lit _ _ _) rfl hihj21_0 rfl) ?_
   refine g_e rfl (e_len rfl (by kernel_rfl)) ?_
   refine g_e rfl (e_gt rfl rfl) ?_
   refine g_pF rfl rfl rfl ?_
   refine g_end (ds := [47, 48, 49, 50]) rfl rfl (hK27 _ ?_); clear hK27 K27
   refine pwp_cond rfl (fun hb30 => ?_) (fun hb30 => ?_)
   ·have hb30R := hb30; try simp only [zz] at hb30
    refine pwp_seq_plain rfl fun K31 hK31 => ?_
    refine p_aS rfl ?_
    refine p_end (hK31 _ ?_); clear hK31 K31
    refine pwp_ret ?_
    refine ret_block ?_
    refine ret_seq ?_
    refine ret_loop ?_
    refine ret_block ?_
    refine ret_seq ?_
    refine end1 (v := .sc _) rfl ?_
    exact out_b rfl
   have hb30R := hb30; try simp only [zz] at hb30
   refine pwp_skip ?_
   refine block_norm ?_
   refine seq_norm (hK26 _ ?_); clear hK26 K26
   refine pwp_plain rfl fun K32 hK32 => ?_
   refine p_mS rfl ?_
   refine p_e rfl (e_adL rfl rfl) ?_
   refine p_aS rfl ?_
   refine p_end (hK32 _ ?_); clear hK32 K32
   exact loop_again (k + 1) (by show _ < _; omega) ⟨rfl, rfl, rfl, trivial⟩ ⟨rfl, trivial⟩ (by exact ⟨by show _ + 1 ≤ _; simp only [List.length_map] at *; omega, hihj21_0⟩)
  have hb25R := hb25; try simp only [zz] at hb25
  refine pwp_exit ?_
  refine exit_seq ?_
  clear hK24 K24
  refine exit_loop ?_
  refine exit_here ?_
  refine seq_norm (hK17 _ ?_); clear hK17 K17
  refine pwp_seq_plain rfl fun K33 hK33 => ?_
  refine p_e rfl (e_move (v := .lit _ _ _) rfl) ?_
  refine p_e rfl (e_loadHA (n := 2) rfl hihj21_0 (by kernel_rfl) (by kernel_rfl) (by kernel_rfl) (by exact Nat.zero_lt_one) (by decide) rfl) ?_
  refine p_call rfl (.cons inn_lit (.cons (inn_agg (Crew.pure _)) .nil)) (ScheduleC xs c hfw.2 (by omega) hbr.1 hbr.2.1 hbr.2.2) ?_
  refine p_e rfl (e_move (v := .tup _) rfl) ?_
  refine p_e rfl (e_ext (v := .lit _ _ _) rfl (by simp) rfl) ?_
  refine p_e rfl (e_ext (v := .sc _) rfl (by simp) rfl) ?_
  refine p_e rfl (e_assign (v := .lit _ _ _) rfl) ?_
  refine p_aS rfl ?_
  refine p_end (hK33 _ ?_); clear hK33 K33
  refine pwp_seq_seq ?_
  refine pwp_seq_plain rfl fun K34 hK34 => ?_
  refine p_e rfl (e_move (v := .lit _ _ _) rfl) ?_
  refine p_call rfl (.cons inn_lit .nil) (refCheckC _ (by omega) hfw.2) ?_
  refine p_aS rfl ?_
  refine p_end (hK34 _ ?_); clear hK34 K34
  refine pwp_seq_seq ?_
  refine pwp_seq_plain rfl fun K35 hK35 => ?_
  refine p_mS rfl ?_
  refine p_e rfl (e_ne rfl rfl) ?_
  refine p_end (hK35 _ ?_); clear hK35 K35
  refine pwp_seq_cond rfl fun K36 hK36 => ⟨fun hb37 => ?_, fun hb37 => ?_⟩
  ·have hb37R := hb37; try simp only [zz] at hb37
   refine pwp_plain rfl fun K38 hK38 => ?_
   refine p_mS rfl ?_
   refine p_aS rfl ?_
   refine p_end (hK38 _ ?_); clear hK38 K38
   refine seq_norm (hK36 _ ?_); clear hK36 K36
   refine pwp_seq_seq ?_
   refine pwp_seq_plain rfl fun K39 hK39 => ?_
   refine p_mS rfl ?_
   refine p_e rfl (e_ne rfl rfl) ?_
   refine p_end (hK39 _ ?_); clear hK39 K39
   refine pwp_seq_cond rfl fun K40 hK40 => ⟨fun hb41 => ?_, fun hb41 => ?_⟩
   ·have hb41R := hb41; try simp only [zz] at hb41
    refine pwp_seq_gops rfl fun K42 hK42 => ?_
    refine g_begin ?_
    refine g_mS rfl rfl ?_
    refine g_mS rfl rfl ?_
    refine g_e rfl (e_eq rfl rfl) ?_
    refine g_mS rfl rfl ?_
    refine g_cases (fun hb43 => ?_) (fun hb43 => ?_)
    ·have hb43R := hb43; try simp only [zz] at hb43
     refine g_e rfl (e_move (v := .lit _ _ _) rfl) ?_
     refine g_e rfl (e_len rfl (by kernel_rfl)) ?_
     refine g_e rfl (e_eq rfl rfl) ?_
     refine g_pT rfl rfl rfl ?_
     refine g_aS rfl rfl ?_
     refine g_end (ds := [69, 70, 71]) rfl rfl (hK42 _ ?_); clear hK42 K42
     refine pwp_ret ?_
     refine ret_seq ?_
     refine end1 (v := .sc _) rfl ?_
     exact out_b (sh_1 (by assumption))
    have hb43R := hb43; try simp only [zz] at hb43
    iterate 3 refine g_skip rfl rfl rfl ?_
    refine g_pF rfl rfl rfl ?_
    refine g_aS rfl rfl ?_
    refine g_end (ds := [69, 70, 71]) rfl rfl (hK42 _ ?_); clear hK42 K42
    refine pwp_ret ?_
    refine ret_seq ?_
    refine end1 (v := .sc _) rfl ?_
    exact (sh_2 (by assumption) (by assumption)).elim
   have hb41R := hb41; try simp only [zz] at hb41
   refine pwp_skip ?_
   refine seq_norm (hK40 _ ?_); clear hK40 K40
   have hp : planE xs = 0 := by first | assumption | contradiction
   have hc0 : crewE c = 0 := by first | assumption | contradiction
   refine pwp_seq_plain rfl fun K44 hK44 => ?_
   refine p_e rfl (e_move (v := .lit _ _ _) rfl) ?_
   refine p_e rfl (e_loadHA (n := 2) rfl hihj21_0 (by kernel_rfl) (by kernel_rfl) (by kernel_rfl) (by exact Nat.zero_lt_one) (by decide) rfl) ?_
   refine p_call rfl (.cons inn_lit (.cons (inn_agg (Crew.pure _)) .nil)) (refSchedC xs c hp hfw.2 (by omega) hc0 hbr.2.2) ?_
   refine p_e rfl (e_move (v := .tup _) rfl) ?_
   refine p_e rfl (e_ext (v := .lit _ _ _) rfl (by simp) rfl) ?_
   refine p_e rfl (e_ext (v := .sc _) rfl (by simp) rfl) ?_
   refine p_e rfl (e_assign (v := .lit _ _ _) rfl) ?_
   refine p_aS rfl ?_
   refine p_end (hK44 _ ?_); clear hK44 K44
   refine pwp_seq_seq ?_
   refine pwp_seq_plain rfl fun K45 hK45 => ?_
   refine p_mS rfl ?_
   refine p_e rfl (e_not rfl) ?_
   refine p_end (hK45 _ ?_); clear hK45 K45
   refine pwp_seq_cond rfl fun K46 hK46 => ⟨fun hb47 => ?_, fun hb47 => ?_⟩
   ·have hb47R := hb47; try simp only [zz] at hb47
    refine pwp_seq_gops rfl fun K48 hK48 => ?_
    refine g_begin ?_
    refine g_mS rfl rfl ?_
    refine g_e rfl (e_eq rfl rfl) ?_
    refine g_mS rfl rfl ?_
    refine g_cases (fun hb49 => ?_) (fun hb49 => ?_)
    ·have hb49R := hb49; try simp only [zz] at hb49
     refine g_e rfl (e_move (v := .lit _ _ _) rfl) ?_
     refine g_e rfl (e_len rfl (by kernel_rfl)) ?_
     refine g_e rfl (e_eq rfl rfl) ?_
     refine g_pT rfl rfl rfl ?_
     refine g_aS rfl rfl ?_
     refine g_end (ds := [84, 85, 86]) rfl rfl (hK48 _ ?_); clear hK48 K48
     refine pwp_ret ?_
     refine ret_seq ?_
     refine end1 (v := .sc _) rfl ?_
     contradiction
    have hb49R := hb49; try simp only [zz] at hb49
    iterate 3 refine g_skip rfl rfl rfl ?_
    refine g_pF rfl rfl rfl ?_
    refine g_aS rfl rfl ?_
    refine g_end (ds := [84, 85, 86]) rfl rfl (hK48 _ ?_); clear hK48 K48
    refine pwp_ret ?_
    refine ret_seq ?_
    refine end1 (v := .sc _) rfl ?_
    contradiction
   have hb47R := hb47; try simp only [zz] at hb47
   refine pwp_skip ?_
   refine seq_norm (hK46 _ ?_); clear hK46 K46
   refine pwp_seq_gops rfl fun K50 hK50 => ?_
   refine g_begin ?_
   refine g_mS rfl rfl ?_
   refine g_e rfl (e_eq rfl rfl) ?_
   refine g_mS rfl rfl ?_
   refine g_cases (fun hb51 => ?_) (fun hb51 => ?_)
   ·have hb51R := hb51; try simp only [zz] at hb51
    refine g_e rfl (e_move (v := .lit _ _ _) rfl) ?_
    refine g_e rfl (e_move (v := .lit _ _ _) rfl) ?_
    refine g_call rfl rfl rfl rfl (.cons inn_lit (.cons inn_lit .nil)) (SameSlotsC _ _ (Nat.le_trans (schP_len hfw.2 (by omega)) (by decide))) ?_
    refine g_pT rfl rfl rfl ?_
    refine g_aS rfl rfl ?_
    refine g_end (ds := [91, 92, 93]) rfl rfl (hK50 _ ?_); clear hK50 K50
    refine pwp_ret ?_
    refine end1 (v := .sc _) rfl ?_
    contradiction
   have hb51R := hb51; try simp only [zz] at hb51
   iterate 2 refine g_skip rfl rfl rfl ?_
   refine g_nocall rfl rfl rfl ?_
   refine g_pF rfl rfl rfl ?_
   refine g_aS rfl rfl ?_
   refine g_end (ds := [91, 92, 93]) rfl rfl (hK50 _ ?_); clear hK50 K50
   refine pwp_ret ?_
   refine end1 (v := .sc _) rfl ?_
   contradiction
  have hb37R := hb37; try simp only [zz] at hb37
  refine pwp_skip ?_
  refine seq_norm (hK36 _ ?_); clear hK36 K36
  refine pwp_seq_seq ?_
  refine pwp_seq_plain rfl fun K52 hK52 => ?_
  refine p_mS rfl ?_
  refine p_e rfl (e_ne rfl rfl) ?_
  refine p_end (hK52 _ ?_); clear hK52 K52
  refine pwp_seq_cond rfl fun K53 hK53 => ⟨fun hb54 => ?_, fun hb54 => ?_⟩
  ·have hb54R := hb54; try simp only [zz] at hb54
   refine pwp_seq_gops rfl fun K55 hK55 => ?_
   refine g_begin ?_
   refine g_mS rfl rfl ?_
   refine g_mS rfl rfl ?_
   refine g_e rfl (e_eq rfl rfl) ?_
   refine g_mS rfl rfl ?_
   refine g_cases (fun hb56 => ?_) (fun hb56 => ?_)
   ·have hb56R := hb56; try simp only [zz] at hb56
    refine g_e rfl (e_move (v := .lit _ _ _) rfl) ?_
    refine g_e rfl (e_len rfl (by kernel_rfl)) ?_
    refine g_e rfl (e_eq rfl rfl) ?_
    refine g_pT rfl rfl rfl ?_
    refine g_aS rfl rfl ?_
    refine g_end (ds := [69, 70, 71]) rfl rfl (hK55 _ ?_); clear hK55 K55
    refine pwp_ret ?_
    refine ret_seq ?_
    refine end1 (v := .sc _) rfl ?_
    exact out_b (sh_1c (by assumption) (by assumption))
   have hb56R := hb56; try simp only [zz] at hb56
   iterate 3 refine g_skip rfl rfl rfl ?_
   refine g_pF rfl rfl rfl ?_
   refine g_aS rfl rfl ?_
   refine g_end (ds := [69, 70, 71]) rfl rfl (hK55 _ ?_); clear hK55 K55
   refine pwp_ret ?_
   refine ret_seq ?_
   refine end1 (v := .sc _) rfl ?_
   exact (sh_2c (by assumption) (by assumption) (by assumption)).elim
  have hb54R := hb54; try simp only [zz] at hb54
  refine pwp_skip ?_
  refine seq_norm (hK53 _ ?_); clear hK53 K53
  have hp : planE xs = 0 := by first | assumption | contradiction
  have hc0 : crewE c = 0 := by first | assumption | contradiction
  refine pwp_seq_plain rfl fun K57 hK57 => ?_
  refine p_e rfl (e_move (v := .lit _ _ _) rfl) ?_
  refine p_e rfl (e_loadHA (n := 2) rfl hihj21_0 (by kernel_rfl) (by kernel_rfl) (by kernel_rfl) (by exact Nat.zero_lt_one) (by decide) rfl) ?_
  refine p_call rfl (.cons inn_lit (.cons (inn_agg (Crew.pure _)) .nil)) (refSchedC xs c hp hfw.2 (by omega) hc0 hbr.2.2) ?_
  refine p_e rfl (e_move (v := .tup _) rfl) ?_
  refine p_e rfl (e_ext (v := .lit _ _ _) rfl (by simp) rfl) ?_
  refine p_e rfl (e_ext (v := .sc _) rfl (by simp) rfl) ?_
  refine p_e rfl (e_assign (v := .lit _ _ _) rfl) ?_
  refine p_aS rfl ?_
  refine p_end (hK57 _ ?_); clear hK57 K57
  refine pwp_seq_seq ?_
  refine pwp_seq_plain rfl fun K58 hK58 => ?_
  refine p_mS rfl ?_
  refine p_e rfl (e_not rfl) ?_
  refine p_end (hK58 _ ?_); clear hK58 K58
  refine pwp_seq_cond rfl fun K59 hK59 => ⟨fun hb60 => ?_, fun hb60 => ?_⟩
  ·have hb60R := hb60; try simp only [zz] at hb60
   refine pwp_seq_gops rfl fun K61 hK61 => ?_
   refine g_begin ?_
   refine g_mS rfl rfl ?_
   refine g_e rfl (e_eq rfl rfl) ?_
   refine g_mS rfl rfl ?_
   refine g_cases (fun hb62 => ?_) (fun hb62 => ?_)
   ·have hb62R := hb62; try simp only [zz] at hb62
    refine g_e rfl (e_move (v := .lit _ _ _) rfl) ?_
    refine g_e rfl (e_len rfl (by kernel_rfl)) ?_
    refine g_e rfl (e_eq rfl rfl) ?_
    refine g_pT rfl rfl rfl ?_
    refine g_aS rfl rfl ?_
    refine g_end (ds := [84, 85, 86]) rfl rfl (hK61 _ ?_); clear hK61 K61
    refine pwp_ret ?_
    refine ret_seq ?_
    refine end1 (v := .sc _) rfl ?_
    contradiction
   have hb62R := hb62; try simp only [zz] at hb62
   iterate 3 refine g_skip rfl rfl rfl ?_
   refine g_pF rfl rfl rfl ?_
   refine g_aS rfl rfl ?_
   refine g_end (ds := [84, 85, 86]) rfl rfl (hK61 _ ?_); clear hK61 K61
   refine pwp_ret ?_
   refine ret_seq ?_
   refine end1 (v := .sc _) rfl ?_
   contradiction
  have hb60R := hb60; try simp only [zz] at hb60
  refine pwp_skip ?_
  refine seq_norm (hK59 _ ?_); clear hK59 K59
  refine pwp_seq_gops rfl fun K63 hK63 => ?_
  refine g_begin ?_
  refine g_mS rfl rfl ?_
  refine g_e rfl (e_eq rfl rfl) ?_
  refine g_mS rfl rfl ?_
  refine g_cases (fun hb64 => ?_) (fun hb64 => ?_)
  ·have hb64R := hb64; try simp only [zz] at hb64
   refine g_e rfl (e_move (v := .lit _ _ _) rfl) ?_
   refine g_e rfl (e_move (v := .lit _ _ _) rfl) ?_
   refine g_call rfl rfl rfl rfl (.cons inn_lit (.cons inn_lit .nil)) (SameSlotsC _ _ (Nat.le_trans (schP_len hfw.2 (by omega)) (by decide))) ?_
   refine g_pT rfl rfl rfl ?_
   refine g_aS rfl rfl ?_
   refine g_end (ds := [91, 92, 93]) rfl rfl (hK63 _ ?_); clear hK63 K63
   refine pwp_ret ?_
   refine end1 (v := .sc _) rfl ?_
   contradiction
  have hb64R := hb64; try simp only [zz] at hb64
  iterate 2 refine g_skip rfl rfl rfl ?_
  refine g_nocall rfl rfl rfl ?_
  refine g_pF rfl rfl rfl ?_
  refine g_aS rfl rfl ?_
  refine g_end (ds := [91, 92, 93]) rfl rfl (hK63 _ ?_); clear hK63 K63
  refine pwp_ret ?_
  refine end1 (v := .sc _) rfl ?_
  contradiction
 have hb23R := hb23; try simp only [zz] at hb23
 iterate 2 refine g_skip rfl rfl rfl ?_
 refine g_pF rfl rfl rfl ?_
 refine g_end (ds := [34, 35]) rfl rfl (hK22 _ ?_); clear hK22 K22
 refine pwp_seq_cond (t := false) rfl fun K65 hK65 => ⟨nofun, fun _ => ?_⟩
 refine pwp_exit ?_
 refine exit_seq ?_
 clear hK65 K65
 refine exit_loop ?_
 refine exit_here ?_
 refine seq_norm (hK17 _ ?_); clear hK17 K17
 refine pwp_seq_plain rfl fun K66 hK66 => ?_
 refine p_e rfl (e_move (v := .lit _ _ _) rfl) ?_
 refine p_e rfl (e_loadHA (n := 2) rfl hihj21_0 (by kernel_rfl) (by kernel_rfl) (by kernel_rfl) (by exact Nat.zero_lt_one) (by decide) rfl) ?_
 refine p_call rfl (.cons inn_lit (.cons (inn_agg (Crew.pure _)) .nil)) (ScheduleC xs c hfw.2 (by omega) hbr.1 hbr.2.1 hbr.2.2) ?_
 refine p_e rfl (e_move (v := .tup _) rfl) ?_
 refine p_e rfl (e_ext (v := .lit _ _ _) rfl (by simp) rfl) ?_
 refine p_e rfl (e_ext (v := .sc _) rfl (by simp) rfl) ?_
 refine p_e rfl (e_assign (v := .lit _ _ _) rfl) ?_
 refine p_aS rfl ?_
 refine p_end (hK66 _ ?_); clear hK66 K66
 refine pwp_seq_seq ?_
 refine pwp_seq_plain rfl fun K67 hK67 => ?_
 refine p_e rfl (e_move (v := .lit _ _ _) rfl) ?_
 refine p_call rfl (.cons inn_lit .nil) (refCheckC _ (by omega) hfw.2) ?_
 refine p_aS rfl ?_
 refine p_end (hK67 _ ?_); clear hK67 K67
 refine pwp_seq_seq ?_
 refine pwp_seq_plain rfl fun K68 hK68 => ?_
 refine p_mS rfl ?_
 refine p_e rfl (e_ne rfl rfl) ?_
 refine p_end (hK68 _ ?_); clear hK68 K68
 refine pwp_seq_cond rfl fun K69 hK69 => ⟨fun hb70 => ?_, fun hb70 => ?_⟩
 ·have hb70R := hb70; try simp only [zz] at hb70
  refine pwp_plain rfl fun K71 hK71 => ?_
  refine p_mS rfl ?_
  refine p_aS rfl ?_
  refine p_end (hK71 _ ?_); clear hK71 K71
  refine seq_norm (hK69 _ ?_); clear hK69 K69
  refine pwp_seq_seq ?_
  refine pwp_seq_plain rfl fun K72 hK72 => ?_
  refine p_mS rfl ?_
  refine p_e rfl (e_ne rfl rfl) ?_
  refine p_end (hK72 _ ?_); clear hK72 K72
  refine pwp_seq_cond rfl fun K73 hK73 => ⟨fun hb74 => ?_, fun hb74 => ?_⟩
  ·have hb74R := hb74; try simp only [zz] at hb74
   refine pwp_seq_gops rfl fun K75 hK75 => ?_
   refine g_begin ?_
   refine g_mS rfl rfl ?_
   refine g_mS rfl rfl ?_
   refine g_e rfl (e_eq rfl rfl) ?_
   refine g_mS rfl rfl ?_
   refine g_cases (fun hb76 => ?_) (fun hb76 => ?_)
   ·have hb76R := hb76; try simp only [zz] at hb76
    refine g_e rfl (e_move (v := .lit _ _ _) rfl) ?_
    refine g_e rfl (e_len rfl (by kernel_rfl)) ?_
    refine g_e rfl (e_eq rfl rfl) ?_
    refine g_pT rfl rfl rfl ?_
    refine g_aS rfl rfl ?_
    refine g_end (ds := [69, 70, 71]) rfl rfl (hK75 _ ?_); clear hK75 K75
    refine pwp_ret ?_
    refine ret_seq ?_
    refine end1 (v := .sc _) rfl ?_
    exact out_b (sh_1 (by assumption))
   have hb76R := hb76; try simp only [zz] at hb76
   iterate 3 refine g_skip rfl rfl rfl ?_
   refine g_pF rfl rfl rfl ?_
   refine g_aS rfl rfl ?_
   refine g_end (ds := [69, 70, 71]) rfl rfl (hK75 _ ?_); clear hK75 K75
   refine pwp_ret ?_
   refine ret_seq ?_
   refine end1 (v := .sc _) rfl ?_
   exact (sh_2 (by assumption) (by assumption)).elim
  have hb74R := hb74; try simp only [zz] at hb74
  refine pwp_skip ?_
  refine seq_norm (hK73 _ ?_); clear hK73 K73
  have hp : planE xs = 0 := by first | assumption | contradiction
  have hc0 : crewE c = 0 := by first | assumption | contradiction
  refine pwp_seq_plain rfl fun K77 hK77 => ?_
  refine p_e rfl (e_move (v := .lit _ _ _) rfl) ?_
  refine p_e rfl (e_loadHA (n := 2) rfl hihj21_0 (by kernel_rfl) (by kernel_rfl) (by kernel_rfl) (by exact Nat.zero_lt_one) (by decide) rfl) ?_
  refine p_call rfl (.cons inn_lit (.cons (inn_agg (Crew.pure _)) .nil)) (refSchedC xs c hp hfw.2 (by omega) hc0 hbr.2.2) ?_
  refine p_e rfl (e_move (v := .tup _) rfl) ?_
  refine p_e rfl (e_ext (v := .lit _ _ _) rfl (by simp) rfl) ?_
  refine p_e rfl (e_ext (v := .sc _) rfl (by simp) rfl) ?_
  refine p_e rfl (e_assign (v := .lit _ _ _) rfl) ?_
  refine p_aS rfl ?_
  refine p_end (hK77 _ ?_); clear hK77 K77
  refine pwp_seq_seq ?_
  refine pwp_seq_plain rfl fun K78 hK78 => ?_
  refine p_mS rfl ?_
  refine p_e rfl (e_not rfl) ?_
  refine p_end (hK78 _ ?_); clear hK78 K78
  refine pwp_seq_cond rfl fun K79 hK79 => ⟨fun hb80 => ?_, fun hb80 => ?_⟩
  ·have hb80R := hb80; try simp only [zz] at hb80
   refine pwp_seq_gops rfl fun K81 hK81 => ?_
   refine g_begin ?_
   refine g_mS rfl rfl ?_
   refine g_e rfl (e_eq rfl rfl) ?_
   refine g_mS rfl rfl ?_
   refine g_cases (fun hb82 => ?_) (fun hb82 => ?_)
   ·have hb82R := hb82; try simp only [zz] at hb82
    refine g_e rfl (e_move (v := .lit _ _ _) rfl) ?_
    refine g_e rfl (e_len rfl (by kernel_rfl)) ?_
    refine g_e rfl (e_eq rfl rfl) ?_
    refine g_pT rfl rfl rfl ?_
    refine g_aS rfl rfl ?_
    refine g_end (ds := [84, 85, 86]) rfl rfl (hK81 _ ?_); clear hK81 K81
    refine pwp_ret ?_
    refine ret_seq ?_
    refine end1 (v := .sc _) rfl ?_
    contradiction
   have hb82R := hb82; try simp only [zz] at hb82
   iterate 3 refine g_skip rfl rfl rfl ?_
   refine g_pF rfl rfl rfl ?_
   refine g_aS rfl rfl ?_
   refine g_end (ds := [84, 85, 86]) rfl rfl (hK81 _ ?_); clear hK81 K81
   refine pwp_ret ?_
   refine ret_seq ?_
   refine end1 (v := .sc _) rfl ?_
   contradiction
  have hb80R := hb80; try simp only [zz] at hb80
  refine pwp_skip ?_
  refine seq_norm (hK79 _ ?_); clear hK79 K79
  refine pwp_seq_gops rfl fun K83 hK83 => ?_
  refine g_begin ?_
  refine g_mS rfl rfl ?_
  refine g_e rfl (e_eq rfl rfl) ?_
  refine g_mS rfl rfl ?_
  refine g_cases (fun hb84 => ?_) (fun hb84 => ?_)
  ·have hb84R := hb84; try simp only [zz] at hb84
   refine g_e rfl (e_move (v := .lit _ _ _) rfl) ?_
   refine g_e rfl (e_move (v := .lit _ _ _) rfl) ?_
   refine g_call rfl rfl rfl rfl (.cons inn_lit (.cons inn_lit .nil)) (SameSlotsC _ _ (Nat.le_trans (schP_len hfw.2 (by omega)) (by decide))) ?_
   refine g_pT rfl rfl rfl ?_
   refine g_aS rfl rfl ?_
   refine g_end (ds := [91, 92, 93]) rfl rfl (hK83 _ ?_); clear hK83 K83
   refine pwp_ret ?_
   refine end1 (v := .sc _) rfl ?_
   contradiction
  have hb84R := hb84; try simp only [zz] at hb84
  iterate 2 refine g_skip rfl rfl rfl ?_
  refine g_nocall rfl rfl rfl ?_
  refine g_pF rfl rfl rfl ?_
  refine g_aS rfl rfl ?_
  refine g_end (ds := [91, 92, 93]) rfl rfl (hK83 _ ?_); clear hK83 K83
  refine pwp_ret ?_
  refine end1 (v := .sc _) rfl ?_
  contradiction
 have hb70R := hb70; try simp only [zz] at hb70
 refine pwp_skip ?_
 refine seq_norm (hK69 _ ?_); clear hK69 K69
 refine pwp_seq_seq ?_
 refine pwp_seq_plain rfl fun K85 hK85 => ?_
 refine p_mS rfl ?_
 refine p_e rfl (e_ne rfl rfl) ?_
 refine p_end (hK85 _ ?_); clear hK85 K85
 refine pwp_seq_cond rfl fun K86 hK86 => ⟨fun hb87 => ?_, fun hb87 => ?_⟩
 ·have hb87R := hb87; try simp only [zz] at hb87
  refine pwp_seq_gops rfl fun K88 hK88 => ?_
  refine g_begin ?_
  refine g_mS rfl rfl ?_
  refine g_mS rfl rfl ?_
  refine g_e rfl (e_eq rfl rfl) ?_
  refine g_mS rfl rfl ?_
  refine g_cases (fun hb89 => ?_) (fun hb89 => ?_)
  ·have hb89R := hb89; try simp only [zz] at hb89
   refine g_e rfl (e_move (v := .lit _ _ _) rfl) ?_
   refine g_e rfl (e_len rfl (by kernel_rfl)) ?_
   refine g_e rfl (e_eq rfl rfl) ?_
   refine g_pT rfl rfl rfl ?_
   refine g_aS rfl rfl ?_
   refine g_end (ds := [69, 70, 71]) rfl rfl (hK88 _ ?_); clear hK88 K88
   refine pwp_ret ?_
   refine ret_seq ?_
   refine end1 (v := .sc _) rfl ?_
   exact out_b (sh_1c (by assumption) (by assumption))
  have hb89R := hb89; try simp only [zz] at hb89
  iterate 3 refine g_skip rfl rfl rfl ?_
  refine g_pF rfl rfl rfl ?_
  refine g_aS rfl rfl ?_
  refine g_end (ds := [69, 70, 71]) rfl rfl (hK88 _ ?_); clear hK88 K88
  refine pwp_ret ?_
  refine ret_seq ?_
  refine end1 (v := .sc _) rfl ?_
  exact (sh_2c (by assumption) (by assumption) (by assumption)).elim
 have hb87R := hb87; try simp only [zz] at hb87
 refine pwp_skip ?_
 refine seq_norm (hK86 _ ?_); clear hK86 K86
 have hp : planE xs = 0 := by first | assumption | contradiction
 have hc0 : crewE c = 0 := by first | assumption | contradiction
 refine pwp_seq_plain rfl fun K90 hK90 => ?_
 refine p_e rfl (e_move (v := .lit _ _ _) rfl) ?_
 refine p_e rfl (e_loadHA (n := 2) rfl hihj21_0 (by kernel_rfl) (by kernel_rfl) (by kernel_rfl) (by exact Nat.zero_lt_one) (by decide) rfl) ?_
 refine p_call rfl (.cons inn_lit (.cons (inn_agg (Crew.pure _)) .nil)) (refSchedC xs c hp hfw.2 (by omega) hc0 hbr.2.2) ?_
 refine p_e rfl (e_move (v := .tup _) rfl) ?_
 refine p_e rfl (e_ext (v := .lit _ _ _) rfl (by simp) rfl) ?_
 refine p_e rfl (e_ext (v := .sc _) rfl (by simp) rfl) ?_
 refine p_e rfl (e_assign (v := .lit _ _ _) rfl) ?_
 refine p_aS rfl ?_
 refine p_end (hK90 _ ?_); clear hK90 K90
 refine pwp_seq_seq ?_
 refine pwp_seq_plain rfl fun K91 hK91 => ?_
 refine p_mS rfl ?_
 refine p_e rfl (e_not rfl) ?_
 refine p_end (hK91 _ ?_); clear hK91 K91
 refine pwp_seq_cond rfl fun K92 hK92 => ⟨fun hb93 => ?_, fun hb93 => ?_⟩
 ·have hb93R := hb93; try simp only [zz] at hb93
  refine pwp_seq_gops rfl fun K94 hK94 => ?_
  refine g_begin ?_
  refine g_mS rfl rfl ?_
  refine g_e rfl (e_eq rfl rfl) ?_
  refine g_mS rfl rfl ?_
  refine g_cases (fun hb95 => ?_) (fun hb95 => ?_)
  ·have hb95R := hb95; try simp only [zz] at hb95
   refine g_e rfl (e_move (v := .lit _ _ _) rfl) ?_
   refine g_e rfl (e_len rfl (by kernel_rfl)) ?_
   refine g_e rfl (e_eq rfl rfl) ?_
   refine g_pT rfl rfl rfl ?_
   refine g_aS rfl rfl ?_
   refine g_end (ds := [84, 85, 86]) rfl rfl (hK94 _ ?_); clear hK94 K94
   refine pwp_ret ?_
   refine ret_seq ?_
   refine end1 (v := .sc _) rfl ?_
   exact out_b (sh_3 hp hc0 (by assumption))
  have hb95R := hb95; try simp only [zz] at hb95
  iterate 3 refine g_skip rfl rfl rfl ?_
  refine g_pF rfl rfl rfl ?_
  refine g_aS rfl rfl ?_
  refine g_end (ds := [84, 85, 86]) rfl rfl (hK94 _ ?_); clear hK94 K94
  refine pwp_ret ?_
  refine ret_seq ?_
  refine end1 (v := .sc _) rfl ?_
  exact (sh_4 hp hc0 (by assumption) (by assumption)).elim
 have hb93R := hb93; try simp only [zz] at hb93
 refine pwp_skip ?_
 refine seq_norm (hK92 _ ?_); clear hK92 K92
 refine pwp_seq_gops rfl fun K96 hK96 => ?_
 refine g_begin ?_
 refine g_mS rfl rfl ?_
 refine g_e rfl (e_eq rfl rfl) ?_
 refine g_mS rfl rfl ?_
 refine g_cases (fun hb97 => ?_) (fun hb97 => ?_)
 ·have hb97R := hb97; try simp only [zz] at hb97
  refine g_e rfl (e_move (v := .lit _ _ _) rfl) ?_
  refine g_e rfl (e_move (v := .lit _ _ _) rfl) ?_
  refine g_call rfl rfl rfl rfl (.cons inn_lit (.cons inn_lit .nil)) (SameSlotsC _ _ (Nat.le_trans (schP_len hfw.2 (by omega)) (by decide))) ?_
  refine g_pT rfl rfl rfl ?_
  refine g_aS rfl rfl ?_
  refine g_end (ds := [91, 92, 93]) rfl rfl (hK96 _ ?_); clear hK96 K96
  refine pwp_ret ?_
  refine end1 (v := .sc _) rfl ?_
  exact out_b (sh_5 hp hc0 (by assumption))
 have hb97R := hb97; try simp only [zz] at hb97
 iterate 2 refine g_skip rfl rfl rfl ?_
 refine g_nocall rfl rfl rfl ?_
 refine g_pF rfl rfl rfl ?_
 refine g_aS rfl rfl ?_
 refine g_end (ds := [91, 92, 93]) rfl rfl (hK96 _ ?_); clear hK96 K96
 refine pwp_ret ?_
 refine end1 (v := .sc _) rfl ?_
 exact (sh_6 hp hc0 (by assumption) (by assumption)).elim

end Go.Proofs.Ytjmjiegplnfiiaa
