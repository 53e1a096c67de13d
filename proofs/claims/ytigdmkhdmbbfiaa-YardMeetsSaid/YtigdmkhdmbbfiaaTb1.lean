import Derived.Test.YtigdmkhdmbbfiaaTp3
set_option linter.unusedSimpArgs false
set_option linter.unusedVariables false
set_option maxRecDepth 100000
namespace Go.Proofs.Ytigdmkhdmbbfiaa
open Go Go.Pv
theorem ci_clean (z : Int) : ∀ p ∈ ci z, Go.Pv.Clean p ∧ p.cell = true := fun p hp => by simp [ci] at hp; subst hp; exact ⟨.sc _, rfl⟩
def rfV (s D g : Nat) : PV := .ref (s, g) 1 0 D
structure Old (c0 : Nat → Nat) (h0 h : Heap) (c : Nat → Nat) : Prop where
 old : ∀ k : Key, k.2 < c0 k.1 → h k = h0 k
 mo : ∀ x, c0 x ≤ c x
structure Bld (c0 : Nat → Nat) (h0 h : Heap) (c : Nat → Nat) (v : PV) (a s D : Nat) (gs : List Nat) : Prop where
 nd : gs.Nodup
 ge : ∀ g ∈ gs, c0 s ≤ g
 inn : ∀ g ∈ gs, h (s, g) = some (.rows 1 ((List.replicate D (0 : Int)).map ci))
 old : Old c0 h0 h c
 out : (gs = [] ∧ v = .nil) ∨ ∃ g n, c0 a ≤ g ∧ v = .ref (a, g) 1 0 n ∧ n = gs.length ∧ h (a, g) = some (.rows 1 ((gs.map (rfV s D)).map cv))
section
variable {c0 c : Nat → Nat} {h0 h h2 : Heap} {v : PV} {a b s D n : Nat} {gs : List Nat}
theorem Old.refl : Old c0 h0 h0 c0 := ⟨fun _ _ => rfl, fun _ => Nat.le_refl _⟩
theorem Old.new {d : Nat} {o : Option PObj} (hO : Old c0 h0 h c) : Old c0 h0 (hset h (d, c d) o) (cset c d) :=
 ⟨fun k hk => (zAb (fun e => by rw [e] at hk; exact absurd (Nat.lt_of_lt_of_le hk (hO.mo d)) (Nat.lt_irrefl _))).trans (hO.old k hk), fun x => by
   have := hO.mo x; unfold cset; split <;> omega⟩
theorem Old.upd {k : Key} {o : Option PObj} (hO : Old c0 h0 h c) (hk : c0 k.1 ≤ k.2) : Old c0 h0 (hset h k o) c :=
 ⟨fun k' hk' => (zAb (fun e => by rw [e] at hk'; omega)).trans (hO.old k' hk'), hO.mo⟩
theorem Old.get {k : Key} (hO : Old c0 h0 h c) (hk : k.2 < c0 k.1) : h k = h0 k := hO.old k hk
theorem ge_at {gs : List Nat} {m i : Nat} (hg : ∀ g ∈ gs, m ≤ g) (hi : i < gs.length) : m ≤ gs.getD i 0 := by
 rw [List.getD_eq_getElem?_getD, List.getElem?_eq_getElem hi]; exact hg _ (List.getElem_mem hi)
theorem Bld.zero (hO : Old c0 h0 h c) : Bld c0 h0 h c .nil a s D [] := ⟨List.nodup_nil, fun g hg => by simp at hg, fun g hg => by simp at hg, hO, .inl ⟨rfl, rfl⟩⟩
theorem Bld.sl (hB : Bld c0 h0 h c v a s D gs) : zAE h a v 1 ((gs.map (rfV s D)).map cv) := by
 rcases hB.out with ⟨rfl, rfl⟩ | ⟨g, n, _, rfl, rfl, hg⟩
 · exact .nil
 · exact .inr ⟨g, by simp, hg⟩
theorem Bld.step (hB : Bld c0 h0 h c v a s D gs) (hfr : ∀ g o, h (s, g) = some o → g < c s) (n1 : Nat.beq s a = false) (n2 : Nat.beq s b = false) (n3 : Nat.beq a b = false) (n4 : Nat.beq b s = false) (n5 : Nat.beq b a = false)
   (hr : h2 (a, c a) = some (.rows 1 ((gs.map (rfV s D)).map cv ++ [cv (rfV s D (c s))])))
   (hf : ∀ k' : Key, k' ≠ (a, c a) → (∀ g, v = .ref (a, g) 1 0 ((gs.map (rfV s D)).map cv).length → k' ≠ (a, g)) → h2 k' = hset (hset h (s, c s) (some (.rows 1 ((List.replicate D (0 : Int)).map ci)))) (b, c b) (some (.rows 1 [cv (rfV s D (c s))])) k') :
   Bld c0 h0 h2 (cset (cset (cset c s) b) a) (.ref (a, c a) 1 0 (((gs.map (rfV s D)).map cv).length + [cv (rfV s D (c s))].length)) a s D (gs ++ [c s]) := by
 have hin : ∀ g, h2 (s, g) = if g = c s then some (.rows 1 ((List.replicate D (0 : Int)).map ci)) else h (s, g) := fun g => by
   rw [hf (s, g) (zAc n1) (fun _ _ => zAc n1), zAb (zAc n2)];by_cases e : g = c s
   · subst e; rw [if_pos rfl, zAd]
   · rw [if_neg e, zAb (fun q => e (by cases q; rfl))]
 have hne : ∀ g ∈ gs, g ≠ c s := fun g hg e => by
   have := hfr g _ (hB.inn g hg); omega
 refine ⟨?_, fun g hg => ?_, fun g hg => ?_, ⟨fun k hk => ?_, fun x => ?_⟩, .inr ⟨c a, _, hB.old.mo a, rfl, by simp, by rw [hr]; simp⟩⟩
 · rw [List.nodup_append];exact ⟨hB.nd, by simp, fun x hx y hy => by simp at hy; subst hy; exact hne x hx⟩
 · rcases List.mem_append.1 hg with hg | hg
   · exact hB.ge g hg
   · simp at hg; subst hg; exact hB.old.mo s
 · rw [hin];rcases List.mem_append.1 hg with hg | hg
   · rw [if_neg (hne g hg)]; exact hB.inn g hg
   · simp at hg; rw [if_pos hg]
 · have q : ∀ d, k ≠ (d, c d) := fun d e => by rw [e] at hk; have := hB.old.mo d; simp only at hk; omega
   rw [hf k (q a) (fun g hv e => ?_), zAb (q b), zAb (q s), hB.old.old k hk];rcases hB.out with ⟨_, h1⟩ | ⟨g', n, h1, h2', _⟩
   · rw [h1] at hv; cases hv
   · rw [h2'] at hv; cases hv; rw [e] at hk; simp only at hk; omega
 · have := hB.old.mo x;have q : ∀ (c : Nat → Nat) d, c x ≤ cset c d x := fun c d => by unfold cset; split <;> omega
   exact Nat.le_trans this (Nat.le_trans (q _ s) (Nat.le_trans (q _ b) (q _ a)))
theorem Bld.mat (hB : Bld c0 h0 h c v a s D gs) (hl : gs.length = n) (hn : 1 ≤ n) : ∃ g, v = .ref (a, g) 1 0 n ∧ c0 a ≤ g ∧ Mat h (a, g) s n D ci gs (fun _ _ => 0) := by
 rcases hB.out with ⟨h1, _⟩ | ⟨g, m, h1, h2, h3, h4⟩
 · rw [h1] at hl; simp at hl; omega
 · refine ⟨g, by rw [h2, h3, hl], h1, by omega, hB.nd, ?_, fun i g' hg => ?_⟩
   · rw [h4, mrows, hl, Nat.sub_self]; simp only [List.replicate_zero, List.append_nil]; rfl
   · rw [hB.inn g' (List.mem_of_getElem? hg)];congr 3;exact (List.eq_replicate_iff.2 ⟨by simp, fun x hx => by obtain ⟨_, _, rfl⟩ := List.mem_map.1 hx; rfl⟩).symm
def TbR (a s n D : Nat) (B : Nat → Nat → Int) (h0 : Heap) (c0 : Nat → Nat) (v : PV) (h : Heap) (c : Nat → Nat) : Prop :=
 ∃ g gs, v = .ref (a, g) 1 0 n ∧ gs.length = n ∧ c0 a ≤ g ∧ (∀ x ∈ gs, c0 s ≤ x) ∧ Mat h (a, g) s n D ci gs B ∧ Old c0 h0 h c
theorem TbR.ex (B : Nat → Nat → Int) (h0 : Heap) (c0 : Nat → Nat) (hne : Nat.beq s a = false) : ∃ v h c, TbR a s n D B h0 c0 v h c := by
 let gs := (List.range n).map (c0 s + ·);let h : Heap := fun k => if k = (a, c0 a) then some (.rows 1 ((mrows s D n gs).map cv)) else if k.1 = s ∧ c0 s ≤ k.2 then some (.rows 1 (((List.range D).map (B (k.2 - c0 s))).map ci)) else h0 k
 have hl : gs.length = n := by simp [gs]
 refine ⟨.ref (a, c0 a) 1 0 n, h, c0, c0 a, gs, rfl, hl, Nat.le_refl _, fun x hx => ?_, ⟨by omega, ?_, if_pos rfl, fun i g hg => ?_⟩, ⟨fun k hk => ?_, fun _ => Nat.le_refl _⟩⟩
 · obtain ⟨i, _, rfl⟩ := List.mem_map.1 hx; omega
 · rw [List.Nodup, List.pairwise_map];exact List.Pairwise.imp (fun hab => by omega) List.pairwise_lt_range
 · rw [List.getElem?_map, Option.map_eq_some_iff] at hg;obtain ⟨i', h1, rfl⟩ := hg
   have h2 : i = i' := by
     obtain ⟨h3, h4⟩ := List.getElem?_eq_some_iff.1 h1;simp at h4; exact h4
   subst h2;show (if _ then _ else if _ then _ else _) = _;rw [if_neg (zAc hne), if_pos ⟨rfl, by show c0 s ≤ c0 s + i; omega⟩];congr 5; show c0 s + i - c0 s = i; omega
 · show (if _ then _ else if _ then _ else _) = _;rw [if_neg (fun e => by rw [e] at hk; simp at hk), if_neg (fun e => by rw [e.1] at hk; omega)]
def clF (l : List Int) : List PV := [.lit false 1 (l.map ci)]
theorem clF_pure (l : List Int) : ∀ p ∈ clF l, Pure p := fun p hp => by
 simp [clF] at hp; subst hp; exact .lit _ _ _ fun row hr => zBF zGG row hr
def tabL (n D : Nat) (B : Nat → Nat → Int) : List (List Int) := (List.range n).map fun p => (List.range D).map (B p)
theorem out_tab {B : Nat → Nat → Int} {c2 : Nat → Nat} (hT : TbR a s n D B h0 c0 v h c2) : Out h v (.lit false 1 ((tabL n D B).map clF)) := by
 obtain ⟨g, gs, rfl, hl, _, _, hM, _⟩ := hT;refine .ref hM.out (by rw [lM, zFo hM.le]; omega) (by simp [tabL]) (fun row hr => ?_) (fun i j row row' p p' h1 h2 h3 h4 => ?_) (fun row hr p hp => ?_)
 · obtain ⟨x, _, rfl⟩ := List.mem_map.1 hr; rfl
 · rw [Nat.zero_add, List.getElem?_map] at h1;rw [tabL, List.map_map, List.getElem?_map, Option.map_eq_some_iff] at h2;obtain ⟨i', h5, rfl⟩ := h2;obtain ⟨h6, h7⟩ := List.getElem?_eq_some_iff.1 h5;have hi : i < gs.length := by simp at h6; omega
   have h8 : i' = i := by simp at h7; exact h7.symm
   subst h8;rw [hM.row hi] at h1;simp only [Option.map_some, Option.some.injEq] at h1;subst h1
   match j, h3, h4 with
   | 0, h3, h4 =>
     simp only [cv, List.getElem?_cons_zero, Option.some.injEq] at h3;simp only [Function.comp, clF, List.getElem?_cons_zero, Option.some.injEq] at h4;subst h3; subst h4;exact out_slice (zAE.ofRef (hM.at hi) (by simp)) rfl (fun _ => rfl) ci_clean
   | j + 1, h3, _ => simp [cv] at h3
 · obtain ⟨x, _, rfl⟩ := List.mem_map.1 hr;simp [clF] at hp; subst hp; rfl
end
end Go.Proofs.Ytigdmkhdmbbfiaa
