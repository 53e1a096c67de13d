import Derived.Test.YtjmjiegplnfiiaaAwkA
/- Ends of slots. No conditions. -/
set_option linter.unusedSimpArgs false
set_option linter.unusedVariables false
set_option maxRecDepth 100000
namespace Go.Proofs.Ytjmjiegplnfiiaa
open Go Go.Pv

theorem few_fair {xs : List Task} {n : Int} (h : fewB xs n = true) : (xs.length : Int) ≤ n ∧ Fair xs := by
 simp only [fewB, decide_eq_true_eq] at h
 exact ⟨h.1, fun x hx => by have := h.2 x hx; omega⟩
/-! ### The end of slots -/
section
variable {xs : List Task} {ss : List Slot} {k : Nat} {s : Slot} {x : Task}
end

end Go.Proofs.Ytjmjiegplnfiiaa

/- Stages: what the program tells. No conditions. -/
set_option linter.unusedSimpArgs false
set_option linter.unusedVariables false
set_option maxRecDepth 100000
namespace Go.Proofs.Ytjmjiegplnfiiaa
open Go Go.Pv
/-! ### Stages -/
section
variable {xs : List Task} {D : List Int} {k : Nat}
theorem done_snoc {n u : Nat} (hk : k < D.length) (hu : at0 D k = (u : Int)) (hn : u < n) : (doneB n (D.take k)).set u true = doneB n (D.take (k + 1)) := by
 rw [doneB_set hn, ← List.take_append_getElem hk, at0_elem hk, hu]
theorem mem_rng {l : List Int} {n : Int} (h : ∀ z ∈ l, 0 ≤ z ∧ z < n) (hk : k < l.length) : ∃ u : Nat, at0 l k = (u : Int) ∧ (u : Int) < n := by
 have := h _ (at0_mem hk)
 exact ⟨(at0 l k).toNat, by omega, by omega⟩
end
theorem out_bools {h : Heap} {d g n : Nat} {bs : List Bool} (hk : h (d, g) = some (.rows 1 (bs.map cbo))) (hl : bs.length = n) : Out h (.ref (d, g) 1 0 n) (.lit false 1 (bs.map cbo)) :=
 out_slice (.ofRef hk (by rw [List.length_map, hl])) rfl (fun _ => rfl) fun a p hp => by simp [cbo] at hp; subst hp; exact ⟨.sc _, rfl⟩

theorem fr68 : (inFrame Try.f68.ntmps (Try.f68.body.getD .skip) && Try.f68.results.toList.all (resScope Try.f68.ntmps)) = true := by kernel_rfl
theorem marksC (xs : List Task) (ds : List Int) (hxl : xs.length ≤ 15) (hdl : ds.length ≤ 30) (hdr : ∀ z ∈ ds, 0 ≤ z ∧ z < xs.length) : PCalls Try.prog 68 [.lit true 6 (xs.map Task.enc), .lit true 1 (ds.map ci)] (.lit false 1 ((doneB xs.length ds).map cbo)) := by
 refine PCalls.of_code Try.func68 rfl rfl (by kernel_rfl) mixed fr68 (by show _ ≤ 23; simp) (.lit _ _ _ fun row hr => pure_map cbo_pure row hr) ?_
 refine pwp_seq_plain rfl fun K1 hK1 => ?_
 refine p_step rfl (e_assign (v := .nil) rfl) trivial ?_
 refine p_end (hK1 _ ?_); clear hK1 K1
 refine pwp_seq_plain rfl fun K2 hK2 => ?_
 refine p_step rfl (e_move (v := .lit _ _ _) rfl) trivial ?_
 refine p_step rfl (e_len rfl (by kernel_rfl)) trivial ?_
 refine p_new rfl (e_mkB (n := xs.length) rfl rfl (by rw [List.length_map]) (by kernel_rfl) (by kernel_rfl) (by kernel_rfl) (by decide +kernel) (by omega)) trivial ?_
 rw [← doneB_nil (n := xs.length), ← List.take_zero (l := ds)]
 refine p_step rfl (e_assign (v := .ref _ _ _ _) rfl) trivial ?_
 refine p_end (hK2 _ ?_); clear hK2 K2
 refine pwp_seq_seq ?_
 refine pwp_seq_plain rfl fun K3 hK3 => ?_
 refine p_step rfl (e_assign (v := .sc _) rfl) trivial ?_
 refine p_end (hK3 _ ?_); clear hK3 K3
 refine pwp_seq_block fun K4 hK4 => ?_
 refine pwp_loopR (α := Nat) [1, 5] (fun (k : Nat) => [(6, .int (k))]) (fun (k : Nat) (h : Heap) (_ : Nat → Nat) => ((k) ≤ ds.length) ∧ (h (9, 0) = some (.rows 1 ((doneB xs.length (ds.take (k))).map cbo)))) (fun (k : Nat) => ds.length - (k)) (0) (by exact ⟨rfl, trivial⟩) (by exact ⟨by exact Nat.zero_le _, (hset_self _ _ _)⟩) fun k r5 h6 c7 hj8 => ?_
 obtain ⟨hk, hihj8_0⟩ := hj8
 try dsimp only at hk
 try dsimp only at hihj8_0
 show pwp _ _ (loopQ _ _ _) ⟨sets (mix _ _ _) [(6, .int k)], _, _⟩
 refine pwp_seq_seq ?_
 refine pwp_seq_plain rfl fun K9 hK9 => ?_
 refine p_step rfl (e_move (v := .sc _) rfl) trivial ?_
 refine p_step rfl (e_move (v := .lit _ _ _) rfl) trivial ?_
 refine p_step rfl (e_len rfl (by kernel_rfl)) trivial ?_
 refine p_step rfl (e_lt rfl rfl) trivial ?_
 refine p_end (hK9 _ ?_); clear hK9 K9
 refine pwp_seq_cond rfl fun K10 hK10 => ⟨fun hb11 => ?_, fun hb11 => ?_⟩
 ·have hb11R := hb11; try simp only [z1, z2, z3, z4, z5, z6, ne_eq, z7, z8, z9, z10, z11, z12] at hb11
  obtain ⟨u, hu, hul⟩ := mem_rng hdr (k := k) (by simp only [List.length_map] at *; omega)
  have hgu : ds[k]? = some (u : Int) := by rw [at0_get (by simp only [List.length_map] at *; omega), hu]
  refine pwp_skip ?_
  refine seq_norm (hK10 _ ?_); clear hK10 K10
  refine pwp_seq_block fun K12 hK12 => ?_
  refine pwp_plain rfl fun K13 hK13 => ?_
  refine p_step rfl (e_move (v := .ref _ _ _ _) rfl) trivial ?_
  refine p_step rfl (e_move (v := .lit _ _ _) rfl) trivial ?_
  refine p_step rfl (e_move (v := .sc _) rfl) trivial ?_
  refine p_step rfl (e_ixa rfl rfl (by kernel_rfl) (by kernel_rfl) (by first | omega | (simp only [List.length_map]; omega))) trivial ?_
  refine p_step rfl (e_load (v := .sc _) rfl (by kernel_rfl) (by kernel_rfl) (by kernel_rfl) (by first | omega | (simp only [List.length_map]; omega)) (by decide) ((cell_map hgu _).trans rfl)) trivial ?_
  refine p_step rfl (e_ixaR0 rfl rfl (by kernel_rfl) (by kernel_rfl) (by omega)) trivial ?_
  refine p_store rfl (e_storeB (zs := (doneB xs.length (ds.take k))) (a := true) rfl hihj8_0 rfl (by (first | omega | (rw [doneB_len]; omega))) (by kernel_rfl) (by kernel_rfl)) trivial ?_
  refine p_end (hK13 _ ?_); clear hK13 K13
  refine block_norm ?_
  refine seq_norm (hK12 _ ?_); clear hK12 K12
  refine pwp_plain rfl fun K14 hK14 => ?_
  refine p_step rfl (e_move (v := .sc _) rfl) trivial ?_
  refine p_step rfl (e_add rfl rfl (by first | omega | (simp only [List.length_map] at *; omega))) trivial ?_
  refine p_step rfl (e_assign (v := .sc _) rfl) trivial ?_
  refine p_end (hK14 _ ?_); clear hK14 K14
  exact loop_again (k + 1) (by show _ < _; omega) ⟨rfl, rfl, trivial⟩ ⟨rfl, trivial⟩ (by exact ⟨by show _ + 1 ≤ _; simp only [List.length_map] at *; omega, ((hset_self _ _ _).trans (by (rw [← done_snoc (by omega) hu (by omega)]; rfl)))⟩)
 ·have hb11R := hb11; try simp only [z1, z2, z3, z4, z5, z6, ne_eq, z7, z8, z9, z10, z11, z12] at hb11
  obtain rfl : k = ds.length := by simp only [List.length_map] at *; omega
  refine pwp_exit ?_
  refine exit_seq ?_
  clear hK10 K10
  refine exit_loop ?_
  refine exit_here ?_
  refine seq_norm (hK4 _ ?_); clear hK4 K4
  refine pwp_seq_plain rfl fun K15 hK15 => ?_
  refine p_step rfl (e_move (v := .ref _ _ _ _) rfl) trivial ?_
  refine p_step rfl (e_assign (v := .ref _ _ _ _) rfl) trivial ?_
  refine p_end (hK15 _ ?_); clear hK15 K15
  refine pwp_ret ?_
  refine end1 (v := .ref _ _ _ _) rfl ?_
  simp only [List.take_length] at *
  exact out_bools (by assumption) doneB_len

theorem not_has {xs : List Task} {D : List Int} {k : Nat} {x : Task} (hx : xs[k]? = some x) (h : ∀ z ∈ x.needs, 0 ≤ z ∧ z < xs.length) : rdyB (ndX xs) D k = (!decide ((k : Int) ∈ D) && hasB (doneB xs.length D) x.needs) := by
 have := rdy_has (D := D) (z := (k : Int)) (by omega) (by simpa using hx) h
 simpa using this

end Go.Proofs.Ytjmjiegplnfiiaa

/- Ready and closed stages. No conditions. -/
set_option linter.unusedSimpArgs false
set_option linter.unusedVariables false
set_option maxRecDepth 100000
namespace Go.Proofs.Ytjmjiegplnfiiaa
open Go Go.Pv
end Go.Proofs.Ytjmjiegplnfiiaa
