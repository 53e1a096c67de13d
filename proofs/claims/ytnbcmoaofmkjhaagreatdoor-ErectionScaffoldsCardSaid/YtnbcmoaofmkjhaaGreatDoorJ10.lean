import Derived.Test.YtnbcmoaofmkjhaaGreatDoorJ9
import Derived.Test.YtnbcmoaofmkjhaaGreatDoorJ5
import Derived.Test.YtnbcmoaofmkjhaaGreatDoorJ2
import Derived.Test.YtnbcmoaofmkjhaaGreatDoorJ0
import Derived.Test.YtnbcmoaofmkjhaaGreatDoorPvGy
import Derived.KernelRfl
import Derived.Lib.ItoaNum
import Derived.Test.YtnbcmoaofmkjhaaGreatDoorJ8
import Derived.Test.YtnbcmoaofmkjhaaGreatDoorJ7
import Derived.Test.YtnbcmoaofmkjhaaGreatDoorPvGh
set_option linter.unusedSimpArgs false
set_option linter.unusedVariables false
set_option maxRecDepth 100000
namespace Go.Proofs.YtnbcmoaofmkjhaaGreatDoor.E7
open Go Go.Pv Go.Proofs.YtnbcmoaofmkjhaaGreatDoor
theorem zF9 {β : Type} (Q : Nat → β → Prop) : ∀ (n : Nat), (∀ i, i < n → ∃ x, Q i x) → ∃ l : List β, l.length = n ∧ ∀ i x, l[i]? = some x → Q i x
 | 0, _ => ⟨[], rfl, fun i x h => by cases h⟩
 | n + 1, h => by
   obtain ⟨l, h1, h2⟩ := zF9 Q n fun i hi => h i (by omega);obtain ⟨x, hx⟩ := h n (by omega);refine ⟨l ++ [x], by simp [h1], fun i y hy => ?_⟩;by_cases hi : i < n
   · rw [List.getElem?_append_left (by omega)] at hy; exact h2 i y hy
   · have : i = n := by
       have := (List.getElem?_eq_some_iff.1 hy).1;rw [List.length_append, List.length_singleton] at this; omega
     subst this;rw [List.getElem?_append_right (by omega), h1, Nat.sub_self] at hy;cases hy; exact hx
def dzB (d : Nat) : Bool := [21, 23, 25, 27, 60, 78, 99, 117, 137, 161, 190].contains d
def DZ (k : Key) : Prop := dzB k.1 = true
def fzX (xe xb xm xr : List (List Int)) (gh gl : Nat) : List PV := [.lit false 1 (xe.map clf), .lit false 1 (xb.map clf), .lit false 1 (xm.map clf), .lit false 1 (xr.map clf), .map (28, gh), .map (29, gl)]
def InF (n b : Nat) (xs : List (List Int)) (L : Nat → Int → Prop) : Prop := xs.length = n ∧ ∀ i l, xs[i]? = some l → l.length ≤ b ∧ ∀ z, z ∈ l ↔ L i z
def NL (v : PV) (l : List Int) : Prop := (v = .nil ∧ l = []) ∨ v = .lit false 1 (l.map ci)
theorem zI0 {κ β γ : Type} [DecidableEq κ] (f : κ × β → γ) (a : κ) : ∀ l : List (κ × β), aGet a (l.map fun e => (e.1, f e)) = (aGet a l).map fun v => f (a, v)
 | [] => rfl
 | (k, v) :: l => by
   by_cases h : a = k
   · subst h; simp [aGet]
   · have := zI0 f a l;simp only [aGet, List.map_cons] at this ⊢;rw [if_neg h, if_neg h]; exact this
theorem lit_frz {h : Heap} {d : Nat} {u : PV} {l : List Int} (hd : dzB d = true) (hs : zAq h d u 1 (l.map ci)) : Frz h DZ u (.lit false 1 (l.map ci)) := by
 rcases hs with ⟨e1, rfl⟩ | ⟨g, rfl, hg⟩
 · rw [e1]; exact .nil 1
 · refine .row (rs := l.map ci) hd hg rfl (Nat.le_refl _) ?_ ?_ ?_
   · intro row hr; obtain ⟨z, _, rfl⟩ := List.mem_map.1 hr; rfl
   · intro row hr p hp; obtain ⟨z, _, rfl⟩ := List.mem_map.1 hr; simp [ci] at hp; subst hp; exact ⟨.sc _, rfl⟩
   · intro i j row row' p p' g1 g2 g3 g4;rw [g1] at g2; cases g2; rw [g3] at g4; cases g4; exact .refl _
theorem zLe {h : Heap} {d : Nat} {lh : List ((Int × Int) × PV)} {Q : Int × Int → List Int → Prop} (hd : dzB d = true) (hc : ∀ a v, aGet a lh = some v → ∃ l : List Int, zAq h d v 1 (l.map ci) ∧ Q a l) :
   ∃ lh2 : List ((Int × Int) × PV), lh2.length = lh.length ∧ (∀ (i : Nat) (e e2 : PV × PV), (zBb kl id lh)[i]? = some e → (zBb kl id lh2)[i]? = some e2 → (e2.2 = e.2 ∨ mval e2.2 = true) ∧ e2.1 = e.1 ∧ Frz h DZ e.2 e2.2) ∧
     ∀ a, (aGet a lh = none ∧ aGet a lh2 = none) ∨ ∃ l : List Int, Q a l ∧ aGet a lh2 = some (.lit false 1 (l.map ci)) := by
 have hx : ∀ e : (Int × Int) × PV, ∃ u : PV, (∃ l : List Int, zAq h d e.2 1 (l.map ci) ∧ Q e.1 l ∧ u = .lit false 1 (l.map ci)) ∨ (u = e.2 ∧ ¬ ∃ l : List Int, zAq h d e.2 1 (l.map ci) ∧ Q e.1 l) := fun e => by
   by_cases hl : ∃ l : List Int, zAq h d e.2 1 (l.map ci) ∧ Q e.1 l
   · obtain ⟨l, h1, h2⟩ := hl; exact ⟨_, .inl ⟨l, h1, h2, rfl⟩⟩
   · exact ⟨_, .inr ⟨rfl, hl⟩⟩
 obtain ⟨f, hf⟩ := Classical.axiomOfChoice hx;refine ⟨lh.map fun e => (e.1, f e), lM .., fun i e e2 h1 h2 => ?_, fun a => ?_⟩
 · rw [zBb, List.getElem?_map, Option.map_eq_some_iff] at h1 h2;obtain ⟨x, h3, rfl⟩ := h1;obtain ⟨y, h4, rfl⟩ := h2;rw [List.getElem?_map, h3, Option.map_some, Option.some.injEq] at h4;subst h4;rcases hf x with ⟨l, h5, _, h6⟩ | ⟨h5, _⟩
   · refine ⟨.inr ?_, rfl, ?_⟩
     · show mval (f x) = true; rw [h6]; rfl
     · show Frz h DZ x.2 (f x); rw [h6]; exact lit_frz hd h5
   · refine ⟨.inl h5, rfl, ?_⟩;show Frz h DZ x.2 (f x); rw [h5]; exact .refl _
 · rw [zI0];cases ha : aGet a lh with
   | none => exact .inl ⟨rfl, rfl⟩
   | some v =>
     refine .inr ?_;rcases hf (a, v) with ⟨l, _, h5, h6⟩ | ⟨_, h5⟩
     · exact ⟨l, h5, by rw [Option.map_some, h6]⟩
     · exact absurd (hc a v ha) h5
structure Fz (h : Heap) (s : Scaffold) (q gh gl : Nat) (xe xb xm xr : List (List Int)) (lh lr : List ((Int × Int) × PV)) : Prop where
 F : h (31, q) = some (.rows 8 [frow s (fzX xe xb xm xr gh gl)])
 ie : InF s.nodes.length 80 xe (csA s s.members.length).e
 ib : InF s.nodes.length 80 xb (csA s s.members.length).b
 im : InF s.nodes.length 80 xm (csA s s.members.length).m
 ir : InF s.nodes.length 80 xr (csA s s.members.length).r
 hm : MapAt h (28, gh) (zBb kl id lh)
 rm : MapAt h (29, gl) (zBb kl id lr)
 hh : ∀ a, NL ((aGet a lh).getD .nil) (hldL s s.members.length a)
 hr : ∀ a, ∃ l : List Int, NL ((aGet a lr).getD .nil) l ∧ l.length ≤ 80 ∧ ∀ z, z ∈ l ↔ (csA s s.members.length).l a z
theorem zIS {h : Heap} {d1 d2 : Nat} {vs : List PV} {b n : Nat} {L : Nat → Int → Prop} (hb : b ≤ 80) (ho : OA h d1 d2 vs b L) (hl : vs.length = n) (h1 : dzB d1 = true) (h2 : dzB d2 = true) :
   ∃ xs : List (List Int), InF n 80 xs L ∧ ∀ (i : Nat) (u : PV) (l : List Int), vs[i]? = some u → xs[i]? = some l → Frz h DZ u (.lit false 1 (l.map ci)) := by
 obtain ⟨xs, h3, h4⟩ := zF9 (fun i (l : List Int) => l.length ≤ 80 ∧ (∀ z, z ∈ l ↔ L i z) ∧ ∀ u, vs[i]? = some u → zAq h d1 u 1 (l.map ci) ∨ zAq h d2 u 1 (l.map ci)) n (fun i hi => by
   obtain ⟨u, hu⟩ : ∃ u, vs[i]? = some u := ⟨_, List.getElem?_eq_getElem (by omega)⟩
   obtain ⟨l, g1, g2, g3⟩ := ho.at_ i u hu;exact ⟨l, by omega, g3, fun u' hu' => by rw [hu] at hu'; cases hu'; exact g1⟩)
 refine ⟨xs, ⟨h3, fun i l hl => ⟨(h4 i l hl).1, (h4 i l hl).2.1⟩⟩, fun i u l hu hl => ?_⟩
 have key : ∀ d, dzB d = true → zAq h d u 1 (l.map ci) → Frz h DZ u (.lit false 1 (l.map ci)) := fun d hd hs => by
   rcases hs with ⟨e1, rfl⟩ | ⟨g, rfl, hg⟩
   · rw [e1]; exact .nil 1
   · refine .row (rs := l.map ci) hd hg rfl (Nat.le_refl _) ?_ ?_ ?_
     · intro row hr; obtain ⟨z, _, rfl⟩ := List.mem_map.1 hr; rfl
     · intro row hr p hp; obtain ⟨z, _, rfl⟩ := List.mem_map.1 hr; simp [ci] at hp; subst hp; exact ⟨.sc _, rfl⟩
     · intro i j row row' p p' g1 g2 g3 g4;rw [g1] at g2; cases g2; rw [g3] at g4; cases g4; exact .refl _
 rcases (h4 i l hl).2.2 u hu with hs | hs
 · exact key d1 h1 hs
 · exact key d2 h2 hs
theorem zIj {h : Heap} {k : Key} {vs : List PV} {xs : List (List Int)} {n : Nat} (hk : h k = some (.rows 1 (vs.map cv))) (hD : DZ k) (hl : vs.length = n) (hx : xs.length = n)
   (hf : ∀ (i : Nat) (u : PV) (l : List Int), vs[i]? = some u → xs[i]? = some l → Frz h DZ u (.lit false 1 (l.map ci))) : Frz h DZ (.ref k 1 0 n) (.lit false 1 (xs.map clf)) := by
 refine .row hD hk (by rw [lM]; exact hx) (by rw [lM]; omega) ?_ ?_ ?_
 · intro row hr; obtain ⟨z, _, rfl⟩ := List.mem_map.1 hr; rfl
 · intro row hr p hp;obtain ⟨z, _, rfl⟩ := List.mem_map.1 hr;exact ⟨zKc z p hp, by simp only [clf, List.mem_cons, List.not_mem_nil, or_false] at hp; subst hp; rfl⟩
 · intro i j row row' p p' g1 g2 g3 g4;rw [List.getElem?_map, Option.map_eq_some_iff] at g1 g2;obtain ⟨u, hu, rfl⟩ := g1;obtain ⟨l, hl, rfl⟩ := g2
   match j with
   | 0 => cases g3; cases g4; exact hf i _ _ hu hl
   | j + 1 => cases g3
def FzR (s : Scaffold) (v : PV) (h' : Heap) : Prop :=
 (scfE s ≠ 0 ∧ v = .tup [.sc (.pointer none), .int (scfE s)]) ∨ (scfE s = 0 ∧ ∃ q gh gl xe xb xm xr lh lr, v = .tup [.ptr (31, q) 8 0 0, .int 0] ∧ Fz h' s q gh gl xe xb xm xr lh lr ∧ h' (1, 0) = some (.rows 2 [Scaffold.enc s]))
theorem readZ (h0 : Heap) (c0 : Nat → Nat) (s : Scaffold) (hs1 : s.nodes.length ≤ 30) (hs2 : s.members.length ≤ 40) (hB : h0 (1, 0) = some (.rows 2 [Scaffold.enc s])) (hc1 : 1 ≤ c0 1) : zAy Tryz.prog 22 [.agg s.enc] h0 c0 (fun v h' _ => FzR s v h') := by
 refine (readF h0 c0 s hs1 hs2 hB hc1).thaw (fun v h' c' hR => ?_) trivial;rcases hR with ⟨h1, h2⟩ | ⟨h1, q, ge, gb, gm, gr, gh, gl, b, hb, h2, ⟨ve, vb, vm, vr, lh, lr, hI⟩, h3⟩
 · exact ⟨fun _ => False, h', v, ⟨fun k hk => hk.elim, fun k hk => hk, fun k o ho _ => ⟨o, ho, .inl rfl⟩⟩, .refl _, .inl ⟨h1, h2⟩⟩
 · obtain ⟨xe, e1, e2⟩ := zIS hb hI.oe hI.le rfl rfl;obtain ⟨xb, b1, b2⟩ := zIS hb hI.ob hI.lb rfl rfl;obtain ⟨xm, m1, m2⟩ := zIS hb hI.om hI.lm rfl rfl;obtain ⟨xr, r1, r2⟩ := zIS hb hI.or_ hI.lr_ rfl rfl;obtain ⟨lh2, k1, k2, k3⟩ := zLe (Q := fun a l => l = hldL s s.members.length a) (d := 161) rfl (fun a v hv => ⟨_, by have := hI.hc a; rw [hv] at this; exact this, rfl⟩)
   obtain ⟨lr2, r3, r4, r5⟩ := zLe (Q := fun a l => l.length ≤ 80 ∧ ∀ z, z ∈ l ↔ (csA s s.members.length).l a z) (d := 190) rfl (fun a v hv => by
     obtain ⟨l, g1, g2, g3⟩ := hI.ol.at_ a v hv;exact ⟨l, by rcases g1 with g | g <;> exact g, by omega, g3⟩)
   obtain ⟨bs1, clk1, m3, m4, m5, m6⟩ := hI.hm;obtain ⟨bs2, clk2, n3, n4, n5, n6⟩ := hI.rm;obtain ⟨h2', hh2⟩ : ∃ h2' : Heap, ∀ k : Key, h2' k = if dzB k.1 = true then none else if k = (31, q) then some (.rows 8 [frow s (fzX xe xb xm xr gh gl)]) else if k = (28, gh) then some (.map (zBb kl id lh2) bs1 clk1) else if k = (29, gl) then some (.map (zBb kl id lr2) bs2 clk2) else h' k := ⟨_, fun _ => rfl⟩
   have hnk : ∀ {a b c d : Nat}, Nat.beq a c = false → ¬ ((a, b) : Key) = (c, d) := fun h e => by cases e; simp at h
   have hL1 : (zBb kl id lh2).length = (zBb kl id lh).length := by rw [zBb, zBb, lM, lM, k1]
   have hL2 : (zBb kl id lr2).length = (zBb kl id lr).length := by rw [zBb, zBb, lM, lM, r3]
   refine ⟨DZ, h2', v, ⟨fun k hk => by rw [hh2]; exact if_pos hk, fun k hk => ?_, fun k o ho hD => ?_⟩, .refl _, .inr ⟨h1, q, gh, gl, xe, xb, xm, xr, lh2, lr2, h2, ⟨?_, e1, b1, m1, r1, ⟨bs1, clk1, ?_, by rw [m4, hL1], m5, m6⟩, ⟨bs2, clk2, ?_, by rw [n4, hL2], n5, n6⟩, fun a => ?_, fun a => ?_⟩, ?_⟩⟩
   rotate_left 5
   · rcases k3 a with ⟨g1, g2⟩ | ⟨l, rfl, g2⟩
     · rw [g2];have := hI.hc a;rw [g1] at this;rcases this with ⟨g3, _⟩ | ⟨g, g3, _⟩
       · exact .inl ⟨rfl, List.map_eq_nil_iff.1 g3⟩
       · cases g3
     · rw [g2]; exact .inr rfl
   · rcases r5 a with ⟨g1, g2⟩ | ⟨l, g3, g2⟩
     · exact ⟨[], .inl ⟨by rw [g2]; rfl, rfl⟩, Nat.zero_le _, fun z => ⟨fun h => (by cases h), fun h => absurd h (hI.ol.no a g1 z)⟩⟩
     · exact ⟨l, by rw [g2]; exact .inr rfl, g3.1, g3.2⟩
   · rw [hh2, if_neg (show ¬ dzB 1 = true by decide), if_neg (hnk rfl), if_neg (hnk rfl), if_neg (hnk rfl)]; exact h3
   all_goals rw [hh2]
   · by_cases hd : dzB k.1 = true
     · exact if_pos hd
     · rw [if_neg hd];by_cases hk2 : k = (31, q)
       · subst hk2; rw [hI.F] at hk; cases hk
       · rw [if_neg hk2];by_cases hk3 : k = (28, gh)
         · subst hk3; rw [m3] at hk; cases hk
         · rw [if_neg hk3];by_cases hk4 : k = (29, gl)
           · subst hk4; rw [n3] at hk; cases hk
           · rw [if_neg hk4]; exact hk
   · rw [if_neg (show ¬ dzB k.1 = true from hD)];by_cases hk2 : k = (31, q)
     · subst hk2;rw [hI.F] at ho; cases ho;rw [if_pos rfl];refine ⟨_, rfl, .inr (.inl ⟨8, _, _, rfl, rfl, rfl, ?_, ?_, ?_⟩)⟩
       · intro row hr; simp only [List.mem_singleton] at hr; subst hr; rfl
       · intro row hr p hp;simp only [List.mem_singleton] at hr; subst hr;simp only [frow, fzX, List.mem_cons, List.not_mem_nil, or_false] at hp;rcases hp with rfl | rfl | rfl | rfl | rfl | rfl | rfl | rfl <;> rfl
       · intro i j row row' p p' g1 g2 g3 g4
         match i with
         | i + 1 => cases g1
         | 0 =>
           cases g1; cases g2
           match j with
           | 0 => cases g3; cases g4; exact .refl _
           | 1 => cases g3; cases g4; exact .refl _
           | 2 => cases g3; cases g4; exact zIj hI.se rfl hI.le e1.1 e2
           | 3 => cases g3; cases g4; exact zIj hI.sb rfl hI.lb b1.1 b2
           | 4 => cases g3; cases g4; exact zIj hI.sm rfl hI.lm m1.1 m2
           | 5 => cases g3; cases g4; exact zIj hI.sr rfl hI.lr_ r1.1 r2
           | 6 => cases g3; cases g4; exact .refl _
           | 7 => cases g3; cases g4; exact .refl _
           | j + 8 => cases g3
     · rw [if_neg hk2];by_cases hk3 : k = (28, gh)
       · subst hk3;rw [m3] at ho; cases ho;rw [if_pos rfl];exact ⟨_, rfl, .inr (.inr ⟨_, _, _, _, rfl, rfl, hL1, k2⟩)⟩
       · rw [if_neg hk3];by_cases hk4 : k = (29, gl)
         · subst hk4;rw [n3] at ho; cases ho;rw [if_pos rfl];exact ⟨_, rfl, .inr (.inr ⟨_, _, _, _, rfl, rfl, hL2, r4⟩)⟩
         · rw [if_neg hk4]; exact ⟨o, ho, .inl rfl⟩
   · rw [if_neg (show ¬ dzB 31 = true by decide), if_pos rfl]
   · rw [if_neg (show ¬ dzB 28 = true by decide), if_neg (hnk rfl), if_pos rfl]
   · rw [if_neg (show ¬ dzB 29 = true by decide), if_neg (hnk rfl), if_neg (hnk rfl), if_pos rfl]
def onL (xe xb : List (List Int)) (z : Int) : List Int := if 0 < (xe.getD z.toNat []).length then xe.getD z.toNat [] else xb.getD z.toNat []
theorem on_t {xe xb : List (List Int)} {z : Int} {l : List Int} (h : xe[z.toNat]? = some l) (hl : 0 < l.length) : onL xe xb z = l := by
 rw [onL, List.getD_eq_getElem?_getD, h]; exact if_pos hl
theorem on_f {xe xb : List (List Int)} {z : Int} {l m : List Int} (h : xe[z.toNat]? = some l) (h2 : xb[z.toNat]? = some m) (hl : ¬ 0 < l.length) : onL xe xb z = m := by
 rw [onL, List.getD_eq_getElem?_getD, h, List.getD_eq_getElem?_getD, h2]; exact if_neg hl
theorem onH (h0 : Heap) (c0 : Nat → Nat) (s : Scaffold) (q gh gl : Nat) (xe xb xm xr : List (List Int)) (hF : h0 (31, q) = some (.rows 8 [frow s (fzX xe xb xm xr gh gl)])) (z : Int) (le lb : List Int) (hz : 0 ≤ z ∧ z < (s.nodes.length : Int)) (hxe : xe.length = s.nodes.length) (hxb : xb.length = s.nodes.length) (hle : xe[z.toNat]? = some le) (hlb : xb[z.toNat]? = some lb) : zAy Tryz.prog 59 [.ptr (31, q) 8 0 0, .int z] h0 c0 (fun v h c => v = .lit false 1 ((onL xe xb z).map ci) ∧ h = h0 ∧ c = c0) := by
 refine hco Tryz.func59 rfl rfl (zAa rfl fun K1 hK1 => p_e rfl (zAs (v := .nil) rfl) (p_end (hK1 _ ?_)));refine zAf (zAa rfl fun K2 hK2 => p_e rfl (zAi (v := .ptr _ _ _ _) rfl) (p_e rfl (zBe rfl) (p_e rfl (e_faQ plF rfl) (p_e rfl (e_lH (v := .lit _ _ _) rfl hF rfl) (p_mS rfl (p_e rfl (e_ixL rfl rfl) ?_))))));refine p_e rfl (e_lL (v := .lit _ _ _) rfl ((zAV hle _).trans rfl)) (p_e rfl (e_len rfl (by kernel_rfl)) (p_e rfl (e_gt rfl rfl) (p_end (hK2 _ ?_))));refine zAe rfl fun K3 hK3 => ⟨fun hb4 => ?_, fun hb4 => ?_⟩
 ·have hb4R := hb4; try simp only [zz] at hb4
  refine zAa rfl fun K5 hK5 => p_e rfl (zAi (v := .ptr _ _ _ _) rfl) (p_e rfl (zBe rfl) (p_e rfl (e_faQ plF rfl) (p_e rfl (e_lH (v := .lit _ _ _) rfl hF rfl) (p_mS rfl (p_e rfl (e_ixL rfl rfl) (p_e rfl (e_lL (v := .lit _ _ _) rfl ((zAV hle _).trans rfl)) ?_))))));refine p_e rfl (zAs (v := .lit _ _ _) rfl) (p_end (hK5 _ ?_));refine zAh (zAk (end1 (v := .lit _ _ _) rfl ?_))
  first
    | exact ⟨by rw [on_t hle (by first | omega | (simp only [lM] at *; omega))], rfl, rfl⟩
    | exact ⟨by rw [on_f hle hlb (by first | omega | (simp only [lM] at *; omega))], rfl, rfl⟩
 ·have hb4R := hb4; try simp only [zz] at hb4
  refine zAl (zAb (hK3 _ ?_));refine zAa rfl fun K6 hK6 => p_e rfl (zAi (v := .ptr _ _ _ _) rfl) (p_e rfl (zBe rfl) (p_e rfl (e_faQ plF rfl) (p_e rfl (e_lH (v := .lit _ _ _) rfl hF rfl) (p_mS rfl (p_e rfl (e_ixL rfl rfl) (p_e rfl (e_lL (v := .lit _ _ _) rfl ((zAV hlb _).trans rfl)) ?_))))));refine p_e rfl (zAs (v := .lit _ _ _) rfl) (p_end (hK6 _ ?_));refine zAh (end1 (v := .lit _ _ _) rfl ?_)
  first
    | exact ⟨by rw [on_t hle (by first | omega | (simp only [lM] at *; omega))], rfl, rfl⟩
    | exact ⟨by rw [on_f hle hlb (by first | omega | (simp only [lM] at *; omega))], rfl, rfl⟩
def cor12 (a b : Node) : List PV := [.int a.px, .int a.py, .int a.pz, .int b.px, .int a.py, .int a.pz, .int b.px, .int b.py, .int b.pz, .int a.px, .int b.py, .int a.pz]
theorem cornersH (h0 : Heap) (c0 : Nat → Nat) (s : Scaffold) (q gh gl : Nat) (xe xb xm xr : List (List Int)) (hF : h0 (31, q) = some (.rows 8 [frow s (fzX xe xb xm xr gh gl)])) (m : Member) (a b : Node) (hma : 0 ≤ m.a ∧ m.a < (s.nodes.length : Int)) (hmb : 0 ≤ m.b ∧ m.b < (s.nodes.length : Int)) (hna : s.nodes[m.a.toNat]? = some a) (hnb : s.nodes[m.b.toNat]? = some b) : zAy Tryz.prog 82 [.ptr (31, q) 8 0 0, .agg m.enc] h0 c0 (fun v h' _ => v = .agg (cor12 a b) ∧ ∀ k' : Key, k'.2 < c0 k'.1 → h' k' = h0 k') := by
 refine hco Tryz.func82 rfl rfl (zAa rfl fun K1 hK1 => p_new rfl (e_box (n := 3) rfl rfl) ⟨rfl, by decide⟩ (p_new rfl (zAR (cs := [.int 0, .int 0, .int 0, .int 0, .int 0, .int 0, .int 0, .int 0, .int 0, .int 0, .int 0, .int 0]) (n := 12) (by kernel_rfl) rfl (by decide)) (zAG (by decide)) (p_end (hK1 _ ?_))));refine zAm rfl fun K2 hK2 => zA0 (s_e rfl (zAi (v := .ptr _ _ _ _) rfl) (s_e rfl (zBe rfl) (s_e rfl (e_faQ plF rfl) (s_e rfl (e_faQ pl2 rfl) (s_eR [31] rfl (e_lH (v := .lit _ _ _) rfl (h2_ hF) rfl) (s_e rfl (e_faQ pl3 rfl) ?_))))));refine s_eR [3] rfl (e_lH (v := .sc _) rfl (h1_ w_) rfl) (s_e rfl (e_ixL rfl rfl) (s_e rfl (e_lB (n := 3) rfl (by first | exact zBj hna rfl)) (s_e rfl (zAi (v := .ptr _ _ _ _) rfl) (s_e rfl (zBe rfl) (s_e rfl (e_faQ plF rfl) (s_e rfl (e_faQ pl2 rfl) (s_eR [31] rfl (e_lH (v := .lit _ _ _) rfl (h2_ hF) rfl) ?_)))))));refine s_e rfl (e_faQ pl3 rfl) (s_eR [3] rfl (e_lH (v := .sc _) rfl (h1_ w_) rfl) (s_e rfl (e_ixL rfl rfl) (s_e rfl (e_lB (n := 3) rfl (by first | exact zBj hnb rfl)) (s_new [] (by simp) rfl rfl rfl rfl (zAR (cs := [.int 0, .int 0, .int 0]) (n := 3) (by kernel_rfl) rfl (by decide)) (zAG (by decide)) (s_new [] (by simp) rfl rfl rfl rfl (zAR (cs := [.int 0, .int 0, .int 0]) (n := 3) (by kernel_rfl) rfl (by decide)) (zAG (by decide)) (zA4 [5] (by simp) rfl rfl (zAB rfl (h1_ w_) rfl rfl rfl (by kernel_rfl) rfl (by kernel_rfl)) trivial (zA4 [6] (by simp) rfl rfl (zAB rfl (h1_ w_) rfl rfl rfl (by kernel_rfl) rfl (by kernel_rfl)) trivial ?_)))))));refine s_end (ds := []) (by kernel_rfl) (by kernel_rfl) (hK2 _ ?_);refine zAa rfl fun K3 hK3 => p_e rfl (e_lA (cs := Node.enc (a)) (n := 3) rfl (h1_ w_)) (p_e rfl (e_faQ pl3 rfl) (p_e rfl (e_lH (v := .sc _) rfl w_ rfl) (p_e rfl (e_faQ pl3 rfl) (p_e rfl (e_lH (v := .sc _) rfl (h1_ w_) rfl) (p_e rfl (e_faQ pl3 rfl) (p_e rfl (e_lH (v := .sc _) rfl (h1_ w_) rfl) ?_))))));refine p_e rfl (zCt (cs := Node.enc (⟨b.px, a.py, a.pz⟩ : Node)) (zs := [.int 0, .int 0, .int 0]) (pl := [(0, 1, false), (1, 1, false), (2, 1, false)]) (by kernel_rfl) (by kernel_rfl) (by kernel_rfl) rfl rfl (by exact ⟨by decide, rfl, nb_, rfl, ⟨by decide, rfl, nb_, rfl, ⟨by decide, rfl, nb_, rfl, trivial⟩⟩⟩) rfl) (p_e rfl (e_lA (cs := Node.enc (b)) (n := 3) rfl w_) (p_e rfl (e_faQ pl3 rfl) (p_e rfl (e_lH (v := .sc _) rfl (h1_ w_) rfl) (p_e rfl (e_faQ pl3 rfl) (p_e rfl (e_lH (v := .sc _) rfl w_ rfl) (p_e rfl (e_faQ pl3 rfl) (p_e rfl (e_lH (v := .sc _) rfl (h1_ w_) rfl) ?_)))))));refine p_e rfl (zCt (cs := Node.enc (⟨a.px, b.py, a.pz⟩ : Node)) (zs := [.int 0, .int 0, .int 0]) (pl := [(0, 1, false), (1, 1, false), (2, 1, false)]) (by kernel_rfl) (by kernel_rfl) (by kernel_rfl) rfl rfl (by exact ⟨by decide, rfl, nb_, rfl, ⟨by decide, rfl, nb_, rfl, ⟨by decide, rfl, nb_, rfl, trivial⟩⟩⟩) rfl) (p_e rfl (zES (zs := [.int 0, .int 0, .int 0, .int 0, .int 0, .int 0, .int 0, .int 0, .int 0, .int 0, .int 0, .int 0]) (pl := [(0, 3, true), (3, 3, true), (6, 3, true), (9, 3, true)]) (by kernel_rfl) (by kernel_rfl) (by kernel_rfl) rfl rfl (by exact ⟨by decide, rfl, nb_, rfl, ⟨by decide, rfl, nb_, rfl, ⟨by decide, rfl, nb_, rfl, ⟨by decide, rfl, nb_, rfl, trivial⟩⟩⟩⟩) rfl) (zAQ rfl (zAB rfl (h4_ w_) rfl rfl rfl (by kernel_rfl) rfl (by kernel_rfl)) trivial (p_end (hK3 _ ?_))));refine zAh (endC rfl w_ (by kernel_rfl) (by kernel_rfl) (by kernel_rfl) rfl ?_);exact ⟨rfl, fun k' hk' => (zAp (zBz hk' rfl)).trans ((zAp (zBz hk' rfl)).trans ((zAp (zBz hk' rfl)).trans ((zAp (zBz hk' rfl)).trans ((zAp (zBz hk' rfl)).trans ((zAp (zBz hk' rfl)).trans ((zAp (zBz hk' rfl)).trans (rfl)))))))⟩
def zMr : Goods := { ok := fun f => [34, 69].contains f }
theorem goodsD_ok : GoodsOK Tryz.prog zMr := ⟨fun f hf => List.all_eq_true.1 (show [34, 69].all (zFH Tryz.prog) = true by kernel_rfl) f (List.contains_iff_mem.1 hf), (fun _ _ _ _ _ _ _ h => by cases h), (fun _ _ _ _ _ h => by cases h)⟩
def dg (i : Nat) : List UInt8 := if i < 10 then [UInt8.ofNat (48 + i)] else [UInt8.ofNat (48 + i / 10), UInt8.ofNat (48 + i % 10)]
theorem zLS {i : Nat} (h : i < 100) : Lib.decDigits i = dg i := by
 unfold dg;by_cases h1 : i < 10
 · rw [if_pos h1, Lib.decDigits, dif_pos h1]
 · rw [if_neg h1, Lib.decDigits, dif_neg h1, Lib.decDigits, dif_pos (by omega)]; rfl
theorem decRuns : (List.range 40).map (fun i : Nat => zDm Tryz.prog zMr 300 34 [.int (i : Int)]) = (List.range 40).map (fun i : Nat => some (.str ⟨(dg i).toArray⟩)) := by kernel_rfl
theorem decimalC (i : Nat) (hi : i < 40) : PCalls Tryz.prog 34 [.int (i : Int)] (.str ⟨(Lib.decDigits i).toArray⟩) := by
 rw [zLS (by omega)];exact zCj mixed goodsD_ok (List.map_inj_left.1 decRuns i (List.mem_range.2 hi))
def nA (s : Scaffold) (z : Int) : Node := s.nodes.getD z.toNat default
def stdE (s : Scaffold) (n : Node) : Bool := s.members.any fun m => decide (m.kind = 0) && decide (nA s m.b = n)
def cor4 (s : Scaffold) (m : Member) : List Node := [nA s m.a, ⟨(nA s m.b).px, (nA s m.a).py, (nA s m.a).pz⟩, nA s m.b, ⟨(nA s m.a).px, (nA s m.b).py, (nA s m.a).pz⟩]
def corI (l : List Node) (n : Node) : Int := ixA (fun y => decide (y = n)) l
def inL (a b : Node) : Prop := a.px = b.px ∧ a.py = b.py
instance (a b : Node) : Decidable (inL a b) := inferInstanceAs (Decidable (_ ∧ _))
def ndB (s : Scaffold) (m o : Member) : Bool :=
 if m.kind = 0 then
   if o.kind = 9 ∨ o.kind = 8 then decide (inL (nA s m.a) (nA s o.a) ∧ (nA s o.a).pz ≤ (nA s m.a).pz)
   else if o.kind = 0 then decide (nA s o.b = nA s m.a)
   else if o.kind = 1 ∨ o.kind = 2 then decide (nA s o.a = nA s m.a ∨ nA s o.b = nA s m.a) && stdE s (nA s m.a)
   else if o.kind = 3 then decide (nA s o.b = nA s m.a) && stdE s (nA s m.a)
   else if o.kind = 4 ∨ o.kind = 5 then decide ((inL (nA s m.a) (nA s o.a) ∧ (nA s o.a).pz < (nA s m.a).pz) ∨ (inL (nA s m.a) (nA s o.b) ∧ (nA s o.b).pz < (nA s m.a).pz))
   else false
 else if m.kind = 1 ∨ m.kind = 2 ∨ m.kind = 3 then
   decide (o.kind = 0) && (decide (nA s o.b = nA s m.a ∨ nA s o.b = nA s m.b) || (decide (nA s o.a = nA s m.a) && !stdE s (nA s m.a) || decide (nA s o.a = nA s m.b) && !stdE s (nA s m.b)))
 else if m.kind = 6 then decide ((o.kind = 1 ∨ o.kind = 2) ∧ 0 ≤ corI (cor4 s m) (nA s o.a) ∧ 0 ≤ corI (cor4 s m) (nA s o.b))
 else if m.kind = 4 ∨ m.kind = 5 then
   if o.kind = 6 then decide (0 ≤ corI (cor4 s o) (nA s m.a) ∧ 0 ≤ corI (cor4 s o) (nA s m.b) ∧ (corI (cor4 s o) (nA s m.a) - corI (cor4 s o) (nA s m.b)).tmod 2 ≠ 0)
   else decide (o.kind = 0 ∧ (nA s o.a = nA s m.a ∨ nA s o.a = nA s m.b))
 else if m.kind = 7 then decide ((o.kind = 1 ∨ o.kind = 2) ∧ (nA s o.a = nA s m.b ∨ nA s o.b = nA s m.b))
 else if m.kind = 8 then decide (o.kind = 0 ∧ nA s o.b = nA s m.a)
 else false
def rnk (s : Scaffold) (m : Member) : Int :=
 if m.kind = 0 then 8 * (nA s m.a).pz + (if stdE s (nA s m.a) = true then 4 else 1)
 else if m.kind = 1 ∨ m.kind = 2 then 8 * (nA s m.a).pz + 2
 else if m.kind = 3 then 8 * (nA s m.b).pz + 2
 else if m.kind = 6 then 8 * (nA s m.a).pz + 3
 else if m.kind = 4 ∨ m.kind = 5 then 8 * (nA s m.a).pz + 5
 else if m.kind = 7 then 8 * (nA s m.b).pz + 6
 else 8 * (nA s m.a).pz
structure GeoM (s : Scaffold) (m : Member) : Prop where
 kd : 0 ≤ m.kind ∧ m.kind ≤ 9
 ra : 0 ≤ m.a ∧ m.a < (s.nodes.length : Int)
 rb : 0 ≤ m.b ∧ m.b < (s.nodes.length : Int)
 k07 : m.kind = 0 ∨ m.kind = 7 → (nA s m.a).px = (nA s m.b).px ∧ (nA s m.a).py = (nA s m.b).py ∧ (nA s m.a).pz < (nA s m.b).pz
 k3 : m.kind = 3 → (nA s m.a).pz < (nA s m.b).pz
 k6 : m.kind = 6 → (nA s m.a).pz = (nA s m.b).pz ∧ (nA s m.a).px < (nA s m.b).px ∧ (nA s m.a).py < (nA s m.b).py
 k89 : m.kind = 8 ∨ m.kind = 9 → m.a = m.b
 k12 : m.kind = 1 ∨ m.kind = 2 ∨ m.kind = 4 ∨ m.kind = 5 → (nA s m.a).pz = (nA s m.b).pz ∧ ((nA s m.a).px < (nA s m.b).px ∧ (nA s m.a).py = (nA s m.b).py ∨ (nA s m.a).px = (nA s m.b).px ∧ (nA s m.a).py < (nA s m.b).py)
theorem zDk {s : Scaffold} {k : Nat} {m : Member} (hs : scfE s = 0) (hm : s.members[k]? = some m) : GeoM s m := by
 obtain ⟨hra, hrb⟩ := zDj hs hm
 have hm0 : memE s k m = 0 := by
   unfold scfE at hs;split at hs
   · cases hs
   · split at hs
     · rename_i h1; exact absurd hs h1
     · have := zIO _ _ hs k m hm
       rwa [Nat.zero_add] at this
 unfold memE at hm0;split at hm0
 · cases hm0
 · rename_i hk;have hk := Decidable.not_not.1 hk;split at hm0
   · cases hm0
   · split at hm0
     · cases hm0
     · rename_i hg;rw [Bool.not_eq_false] at hg;have hg : geo2 s.nodes (nA s m.a) (nA s m.b) m = true := hg;refine ⟨hk, hra, hrb, fun h => ?_, fun h => ?_, fun h => ?_, fun h => ?_, fun h => ?_⟩
       · rw [geo_07 h, decide_eq_true_eq] at hg; exact hg
       · rw [geo_3 h, decide_eq_true_eq] at hg; exact hg.1
       · rw [geo_6 h, decide_eq_true_eq] at hg; exact ⟨hg.1, hg.2.1, hg.2.2.1⟩
       · rw [geo_89 h, decide_eq_true_eq] at hg; exact hg
       · rw [geo_x (by omega), decide_eq_true_eq] at hg; exact hg
theorem cor_z {s : Scaffold} {m : Member} {n : Node} (hz : (nA s m.a).pz = (nA s m.b).pz) (h : 0 ≤ corI (cor4 s m) n) : n.pz = (nA s m.a).pz := by
 have hm : n ∈ cor4 s m := by
   unfold corI ixA at h;split at h
   · rename_i i hi;obtain ⟨hlt, h1, _⟩ := List.findIdx?_eq_some_iff_getElem.1 hi;have := of_decide_eq_true h1;rw [← this]; exact List.getElem_mem _
   · omega
 simp only [cor4, List.mem_cons, List.not_mem_nil, or_false] at hm;rcases hm with rfl | rfl | rfl | rfl
 · rfl
 · rfl
 · exact hz.symm
 · rfl
theorem zJu {s : Scaffold} {m o : Member} (hm : GeoM s m) (ho : GeoM s o) (h : ndB s m o = true) : rnk s o < rnk s m := by
 unfold ndB at h;split at h
 · rename_i k0;have hr : rnk s m = 8 * (nA s m.a).pz + (if stdE s (nA s m.a) = true then 4 else 1) := by rw [rnk, if_pos k0]
   split at h
   · rename_i k9;rw [decide_eq_true_eq] at h;have : rnk s o = 8 * (nA s o.a).pz := by rw [rnk, if_neg (by omega), if_neg (by omega), if_neg (by omega), if_neg (by omega), if_neg (by omega), if_neg (by omega)]
     rw [hr, this]; have := h.2; split <;> omega
   · split at h
     · rename_i k00;rw [decide_eq_true_eq] at h;have h1 := ho.k07 (.inl k00);have : rnk s o ≤ 8 * (nA s o.a).pz + 4 := by rw [rnk, if_pos k00]; split <;> omega
       rw [h] at h1;rw [hr]; split <;> omega
     · split at h
       · rename_i k12;rw [Bool.and_eq_true, decide_eq_true_eq] at h;have h1 := (ho.k12 (by omega)).1;have : rnk s o = 8 * (nA s o.a).pz + 2 := by rw [rnk, if_neg (by omega), if_pos (by omega)]
         have hz : (nA s o.a).pz = (nA s m.a).pz := by
           rcases h.1 with h2 | h2
           · rw [h2]
           · rw [← h2]; exact h1
         rw [hr, this, if_pos h.2]; omega
       · split at h
         · rename_i k3;rw [Bool.and_eq_true, decide_eq_true_eq] at h;have : rnk s o = 8 * (nA s o.b).pz + 2 := by rw [rnk, if_neg (by omega), if_neg (by omega), if_pos (by omega)]
           rw [hr, this, if_pos h.2, h.1]; omega
         · split at h
           · rename_i k45;rw [decide_eq_true_eq] at h;have h1 := (ho.k12 (by omega)).1;have : rnk s o = 8 * (nA s o.a).pz + 5 := by rw [rnk, if_neg (by omega), if_neg (by omega), if_neg (by omega), if_neg (by omega), if_pos (by omega)]
             rw [hr, this];have h2 : (nA s o.a).pz < (nA s m.a).pz := by rcases h with h | h <;> omega
             split <;> omega
           · cases h
 · split at h
   · rename_i k0 k123;rw [Bool.and_eq_true, decide_eq_true_eq] at h;have h1 := ho.k07 (.inl h.1);have ho4 : rnk s o = 8 * (nA s o.a).pz + (if stdE s (nA s o.a) = true then 4 else 1) := by rw [rnk, if_pos h.1]
     have hab : (nA s m.a).pz ≤ (nA s m.b).pz := by
       rcases k123 with k | k | k
       · exact Int.le_of_eq (hm.k12 (by omega)).1
       · exact Int.le_of_eq (hm.k12 (by omega)).1
       · have := hm.k3 k; omega
     have hrm : rnk s m = 8 * (nA s m.b).pz + 2 := by
       rcases k123 with k | k | k
       · rw [rnk, if_neg (by omega), if_pos (by omega), (hm.k12 (by omega)).1]
       · rw [rnk, if_neg (by omega), if_pos (by omega), (hm.k12 (by omega)).1]
       · rw [rnk, if_neg (by omega), if_neg (by omega), if_pos k]
     have h2 := h.2;simp only [Bool.or_eq_true, Bool.and_eq_true, decide_eq_true_eq, Bool.not_eq_true'] at h2;rw [ho4, hrm];rcases h2 with (h2 | h2) | (⟨h2, h3⟩ | ⟨h2, h3⟩)
     · rw [h2] at h1; split <;> omega
     · rw [h2] at h1; split <;> omega
     · rw [h2, if_neg (by rw [h3]; decide)]; omega
     · rw [h2, if_neg (by rw [h3]; decide)]; omega
   · split at h
     · rename_i k6;rw [decide_eq_true_eq] at h;have h1 := cor_z (hm.k6 k6).1 h.2.1;have : rnk s o = 8 * (nA s o.a).pz + 2 := by rw [rnk, if_neg (by omega), if_pos (by omega)]
       have hrm : rnk s m = 8 * (nA s m.a).pz + 3 := by rw [rnk, if_neg (by omega), if_neg (by omega), if_neg (by omega), if_pos k6]
       rw [this, hrm, h1]; omega
     · split at h
       · rename_i k45;have hrm : rnk s m = 8 * (nA s m.a).pz + 5 := by rw [rnk, if_neg (by omega), if_neg (by omega), if_neg (by omega), if_neg (by omega), if_pos k45]
         split at h
         · rename_i k6;rw [decide_eq_true_eq] at h;have h1 := cor_z (ho.k6 k6).1 h.1;have : rnk s o = 8 * (nA s o.a).pz + 3 := by rw [rnk, if_neg (by omega), if_neg (by omega), if_neg (by omega), if_pos k6]
           rw [this, hrm, h1]; omega
         · rw [decide_eq_true_eq] at h;have h1 := (hm.k12 (by omega)).1;have : rnk s o ≤ 8 * (nA s o.a).pz + 4 := by rw [rnk, if_pos h.1]; split <;> omega
           rw [hrm];rcases h.2 with h2 | h2 <;> rw [h2] at this <;> omega
       · split at h
         · rename_i k7;rw [decide_eq_true_eq] at h;have h1 := (ho.k12 (by omega)).1;have : rnk s o = 8 * (nA s o.a).pz + 2 := by rw [rnk, if_neg (by omega), if_pos (by omega)]
           have hrm : rnk s m = 8 * (nA s m.b).pz + 6 := by rw [rnk, if_neg (by omega), if_neg (by omega), if_neg (by omega), if_neg (by omega), if_neg (by omega), if_pos k7]
           rw [this, hrm];rcases h.2 with h2 | h2
           · rw [h2]; omega
           · rw [h1, h2]; omega
         · split at h
           · rename_i k8;rw [decide_eq_true_eq] at h;have h1 := ho.k07 (.inl h.1);have : rnk s o ≤ 8 * (nA s o.a).pz + 4 := by rw [rnk, if_pos h.1]; split <;> omega
             have hrm : rnk s m = 8 * (nA s m.a).pz := by rw [rnk, if_neg (by omega), if_neg (by omega), if_neg (by omega), if_neg (by omega), if_neg (by omega), if_neg (by omega)]
             rw [hrm]; rw [h.2] at h1; omega
           · cases h
def crn (a b : Node) : List Node := [a, ⟨b.px, a.py, a.pz⟩, b, ⟨a.px, b.py, a.pz⟩]
structure Crn where
 a : Node
 b : Node
def Crn.enc (c : Crn) : List PV := [.int c.a.px, .int c.a.py, .int c.a.pz, .int c.b.px, .int c.a.py, .int c.a.pz, .int c.b.px, .int c.b.py, .int c.b.pz, .int c.a.px, .int c.b.py, .int c.a.pz]
theorem Crn.pure (c : Crn) : ∀ p ∈ c.enc, Pure p := fun p hp => by
 simp only [Crn.enc, List.mem_cons, List.not_mem_nil, or_false] at hp;rcases hp with rfl | rfl | rfl | rfl | rfl | rfl | rfl | rfl | rfl | rfl | rfl | rfl <;> exact .sc _
theorem zLn {c : Crn} {k : Nat} {x : Node} (hx : (crn c.a c.b)[k]? = some x) : aggAt [Crn.enc c] 0 (0 + (k : Int).toNat * 3) 3 = x.enc := by
 match k, hx with
 | 0, hx => cases hx; rfl
 | 1, hx => cases hx; rfl
 | 2, hx => cases hx; rfl
 | 3, hx => cases hx; rfl
theorem e_ixQ {P : Program} {ρ : Operand → PV} {h : Heap} {key : Key} {t : TypeId} {x y : Operand} {k : Key} {sz a b n : Nat} {e : TypeId} {kd : IntKind} {i : Int} (hx : ρ x = .ptr k sz a b) (hy : ρ y = .sc (.int kd i)) (ht : arrOk P t = some (n, e)) (hs : zAr P e = 3) (hi : 0 ≤ i ∧ i < n) :
   eff P ρ h key (.indexAddr t x y) = ⟨True, .ptr k sz a (b + i.toNat * 3), [], [], false⟩ := by
 simp only [eff, hx, hy, zBu, ht, hs]; simp [hi]
theorem nA_at {s : Scaffold} {z : Int} {n : Node} (h : s.nodes[z.toNat]? = some n) : nA s z = n := by
 rw [nA, List.getD_eq_getElem?_getD, h]; rfl
theorem crn_clean (c : Crn) : ∀ p ∈ c.enc, Pv.Clean p := fun p hp => by
 simp only [Crn.enc, List.mem_cons, List.not_mem_nil, or_false] at hp;rcases hp with rfl | rfl | rfl | rfl | rfl | rfl | rfl | rfl | rfl | rfl | rfl | rfl <;> exact .sc _
theorem zHk (n : Node) : ∀ p ∈ n.enc, Pv.Clean p := fun p hp => by
 simp only [Node.enc, List.mem_cons, List.not_mem_nil, or_false] at hp;rcases hp with rfl | rfl | rfl <;> exact .sc _
theorem lowC (s : Scaffold) (m : Member) (n : Node) (hm : 0 ≤ m.a ∧ m.a < (s.nodes.length : Int)) (hn : s.nodes[m.a.toNat]? = some n) : PCalls Tryz.prog 32 [.agg s.enc, .agg m.enc] (.agg n.enc) := by
 refine pco Tryz.func32 rfl rfl (.agg _ n.pure) (zAa rfl fun K1 hK1 => p_new rfl (e_box (n := 2) rfl rfl) ⟨rfl, by decide⟩ (p_new rfl (e_box (n := 3) rfl rfl) ⟨rfl, by decide⟩ (p_new rfl (zAR (cs := [.int 0, .int 0, .int 0]) (n := 3) (by kernel_rfl) rfl (by decide)) (zAG (by decide)) (p_end (hK1 _ ?_)))));refine zAa rfl fun K2 hK2 => p_e rfl (e_faQ pl2 rfl) (p_e rfl (e_lH (v := .lit _ _ _) rfl (h2_ w_) rfl) (p_e rfl (e_faQ pl3 rfl) (p_e rfl (e_lH (v := .sc _) rfl (h1_ w_) rfl) (p_e rfl (e_ixL rfl rfl) (p_e rfl (e_lB (n := 3) rfl (by first | exact zBj hn rfl)) (zAQ rfl (zAB rfl w_ rfl rfl rfl (by kernel_rfl) rfl (by kernel_rfl)) trivial ?_))))));refine p_end (hK2 _ ?_);refine zAh (endC rfl w_ (by kernel_rfl) (by kernel_rfl) (by kernel_rfl) rfl ?_);exact (show Out _ (.agg n.enc) (.agg n.enc) from zIt rfl (zHk n))
theorem highC (s : Scaffold) (m : Member) (n : Node) (hm : 0 ≤ m.b ∧ m.b < (s.nodes.length : Int)) (hn : s.nodes[m.b.toNat]? = some n) : PCalls Tryz.prog 33 [.agg s.enc, .agg m.enc] (.agg n.enc) := by
 refine pco Tryz.func33 rfl rfl (.agg _ n.pure) (zAa rfl fun K1 hK1 => p_new rfl (e_box (n := 2) rfl rfl) ⟨rfl, by decide⟩ (p_new rfl (e_box (n := 3) rfl rfl) ⟨rfl, by decide⟩ (p_new rfl (zAR (cs := [.int 0, .int 0, .int 0]) (n := 3) (by kernel_rfl) rfl (by decide)) (zAG (by decide)) (p_end (hK1 _ ?_)))));refine zAa rfl fun K2 hK2 => p_e rfl (e_faQ pl2 rfl) (p_e rfl (e_lH (v := .lit _ _ _) rfl (h2_ w_) rfl) (p_e rfl (e_faQ pl3 rfl) (p_e rfl (e_lH (v := .sc _) rfl (h1_ w_) rfl) (p_e rfl (e_ixL rfl rfl) (p_e rfl (e_lB (n := 3) rfl (by first | exact zBj hn rfl)) (zAQ rfl (zAB rfl w_ rfl rfl rfl (by kernel_rfl) rfl (by kernel_rfl)) trivial ?_))))));refine p_end (hK2 _ ?_);refine zAh (endC rfl w_ (by kernel_rfl) (by kernel_rfl) (by kernel_rfl) rfl ?_);exact (show Out _ (.agg n.enc) (.agg n.enc) from zIt rfl (zHk n))
theorem zE3 (a b : Node) : PCalls Tryz.prog 47 [.agg a.enc, .agg b.enc] (.bool (decide (inL a b))) := by
 refine pco Tryz.func47 rfl rfl (.sc _) (zAa rfl fun K1 hK1 => p_new rfl (e_box (n := 3) rfl rfl) ⟨rfl, by decide⟩ (p_new rfl (e_box (n := 3) rfl rfl) ⟨rfl, by decide⟩ (p_aS rfl (p_end (hK1 _ ?_)))));refine zAm rfl fun K2 hK2 => zAM (g_e rfl (e_faQ pl3 rfl) (g_e rfl (e_lH (v := .sc _) rfl (h1_ w_) rfl) (g_e rfl (e_faQ pl3 rfl) (g_e rfl (e_lH (v := .sc _) rfl w_ rfl) (g_e rfl (e_eq rfl rfl) (g_mS rfl rfl ?_))))));refine zAw (fun hb3 => ?_) (fun hb3 => ?_)
 ·try simp only [zz] at hb3
  refine g_e rfl (e_faQ pl3 rfl) (g_e rfl (e_lH (v := .sc _) rfl (h1_ w_) rfl) (g_e rfl (e_faQ pl3 rfl) (g_e rfl (e_lH (v := .sc _) rfl w_ rfl) (g_e rfl (e_eq rfl rfl) (g_pT rfl rfl rfl (g_aS rfl rfl (g_end (ds := [11, 12, 13, 14, 15]) rfl rfl (hK2 _ ?_))))))));refine zAh (end1 (v := .sc _) rfl (out_b ?_));rw [Bool.eq_iff_iff];simp only [decide_eq_true_eq, Bool.false_eq_true, false_iff, true_iff, iff_false, iff_true, Bool.and_eq_true];simp only [inL];omega
 try simp only [zz] at hb3
 iterate 5 refine gk_ ?_
 refine g_pF rfl rfl rfl (g_aS rfl rfl (g_end (ds := [11, 12, 13, 14, 15]) rfl rfl (hK2 _ ?_)));refine zAh (end1 (v := .sc _) rfl (out_b ?_));rw [Bool.eq_iff_iff];simp only [decide_eq_true_eq, Bool.false_eq_true, false_iff, true_iff, iff_false, iff_true, Bool.and_eq_true];simp only [inL];omega
theorem zE8 (c : Crn) (n : Node) : PCalls Tryz.prog 73 [.agg c.enc, .agg n.enc] (.int (corI (crn c.a c.b) n)) := by
 refine pco Tryz.func73 rfl rfl (.sc _) (zAa rfl fun K1 hK1 => p_new rfl (e_box (n := 12) rfl rfl) ⟨rfl, by decide⟩ (p_new rfl (e_box (n := 3) rfl rfl) ⟨rfl, by decide⟩ (p_aS rfl (p_end (hK1 _ ?_)))));refine zAf (zAa rfl fun K2 hK2 => p_aS rfl (p_end (hK2 _ ?_)));refine zAg fun K3 hK3 => zAE (α := Nat) [2, 3] (fun (k : Nat) => [(5, .int (k))]) (fun (k : Nat) (h : Heap) (_ : Nat → Nat) => ((k) ≤ 4) ∧ (∀ i, i < (k) → ∀ y, (crn c.a c.b)[i]? = some y → ndK n y = false) ∧ (h (2, 0) = some (.rows 12 [Crn.enc c])) ∧ (h (3, 0) = some (.rows 3 [Node.enc n]))) (fun (k : Nat) => 4 - (k)) (0) (by exact ⟨rfl, trivial⟩) (by exact ⟨by exact Nat.zero_le _, by exact nx_0, (h1_ w_), w_⟩) fun k r4 h5 c6 hj7 => ?_;obtain ⟨hk, hin, hihj7_0, hihj7_1⟩ := hj7;try dsimp only at hk
 try dsimp only at hin
 try dsimp only at hihj7_0
 try dsimp only at hihj7_1
 show pwp _ _ (loopQ _ _ _) ⟨sets (mix _ _ _) [(5, .int k)], _, _⟩;refine zAf (zAa rfl fun K8 hK8 => p_mS rfl (p_e rfl (e_lt rfl rfl) (p_end (hK8 _ ?_))));refine zAe rfl fun K9 hK9 => ⟨fun hb10 => ?_, fun hb10 => ?_⟩
 ·try simp only [zz] at hb10
  obtain ⟨x, hx⟩ : ∃ x, (crn c.a c.b)[k]? = some x := ⟨_, List.getElem?_eq_getElem (show k < 4 by omega)⟩
  refine zAl (zAb (hK9 _ ?_));refine zAg fun K11 hK11 => zAm rfl fun K12 hK12 => zAM (g_mS rfl rfl (g_e rfl (e_ixQ (i := (k : Int)) (n := 4) (e := 65) rfl rfl (by kernel_rfl) (by kernel_rfl) (by omega)) (g_e rfl (zAd rfl hihj7_0 (by kernel_rfl) (by kernel_rfl) (by kernel_rfl) (by exact Nat.zero_lt_one) (by omega) (zLn hx)) (g_e rfl (e_lA (cs := Node.enc (n)) (n := 3) rfl hihj7_1) (g_e rfl (e_aeq rfl rfl (by kernel_rfl) (zAI (x) (n)) (zAO (x) (n))) ?_)))));refine g_end (ds := []) (by kernel_rfl) rfl (hK12 _ ?_);refine zAt rfl (fun hb13 => ?_) (fun hb13 => ?_)
  ·try simp only [zz] at hb13
   refine zAa rfl fun K14 hK14 => p_mS rfl (p_aS rfl (p_end (hK14 _ ?_)));refine zAh (zAc (zAk (zAP (zAc (zAk (end1 (v := .sc _) rfl ?_))))));exact out_i (zHv (K := ndK n) hx hin (decide_eq_true (by assumption)))
  try simp only [zz] at hb13
  refine zAl (zAj (zAb (hK11 _ ?_)));refine zAn rfl fun K15 hK15 => p_mS rfl (p_e rfl (e_adL rfl rfl) (p_aS rfl (p_end (hK15 _ ?_))));exact zAo (k + 1) (by show _ < _; omega) ⟨rfl, rfl, trivial⟩ ⟨rfl, trivial⟩ (by exact ⟨by show _ + 1 ≤ _; omega, by exact zEo (K := ndK n) hin hx (decide_eq_false (by assumption)), hihj7_0, hihj7_1⟩)
 try simp only [zz] at hb10
 refine zAJ (zAK ?_);clear hK9 K9;refine zAC (zAA (zAb (hK3 _ ?_)));refine zAa rfl fun K16 hK16 => p_aS rfl (p_end (hK16 _ ?_));refine zAh (end1 (v := .sc _) rfl ?_);exact out_i (zLM (K := ndK n) hin (show 4 ≤ _ by omega))
theorem crn_rows {a b : Node} : zDH [Crn.enc ⟨a, b⟩] 0 0 4 3 = (crn a b).map Node.enc := rfl
theorem e_slQ {P : Program} {ρ : Operand → PV} {h : Heap} {key : Key} {t : TypeId} {x : Operand} {tt : Bool} {sz n : Nat} {rs rows : Pv.Rows} {e : TypeId} (hx : ρ x = .lptr tt sz rs 0 0) (ht : arrOk P t = some (n, e)) (hs : zAr P e = 3) (hn : 1 ≤ n) (hr : 0 < rs.length) (hj : 0 + n * 3 ≤ sz) (hv : zDH rs 0 0 n 3 = rows) :
   eff P ρ h key (.slice t x none none none) = ⟨True, .lit tt 3 rows, [], [], false⟩ := by
 simp only [eff, hx, Option.map_none, zDr, ht, hs, hv]; simp [hn, hr]; omega
theorem indexNC (xs : List Node) (n : Node) (hl : xs.length ≤ 1000000) : PCalls Tryz.prog 96 [.lit true 3 (xs.map Node.enc), .agg n.enc] (.int (ixA (ndK n) xs)) := by
 refine pco Tryz.func96 rfl rfl (.sc _) (zAa rfl fun K1 hK1 => p_new rfl (e_box (n := 3) rfl rfl) ⟨rfl, by decide⟩ (p_aS rfl (p_end (hK1 _ ?_))));refine zAf (zAa rfl fun K2 hK2 => p_e rfl (zAi (v := .lit _ _ _) rfl) (p_e rfl (e_len rfl (by kernel_rfl)) (p_mS rfl (p_end (hK2 _ ?_)))));refine zAg fun K3 hK3 => zAE (α := Nat) [0, 3, 7] (fun (k : Nat) => [(8, .int (k))]) (fun (k : Nat) (h : Heap) (_ : Nat → Nat) => ((k) ≤ xs.length) ∧ (∀ i, i < (k) → ∀ y, xs[i]? = some y → ndK n y = false) ∧ (h (3, 0) = some (.rows 3 [Node.enc n]))) (fun (k : Nat) => xs.length - (k)) (0) (by exact ⟨rfl, trivial⟩) (by exact ⟨by exact Nat.zero_le _, by exact nx_0, w_⟩) fun k r4 h5 c6 hj7 => ?_;obtain ⟨hk, hin, hihj7_0⟩ := hj7;try dsimp only at hk
 try dsimp only at hin
 try dsimp only at hihj7_0
 show pwp _ _ (loopQ _ _ _) ⟨sets (mix _ _ _) [(8, .int k)], _, _⟩;refine zAa rfl fun K8 hK8 => p_e rfl (e_lt rfl rfl) (p_end (hK8 _ ?_));refine zAe rfl fun K9 hK9 => ⟨fun hb10 => ?_, fun hb10 => ?_⟩
 ·have hb10R := hb10; try simp only [zz] at hb10
  obtain ⟨x, hx, hd, ht⟩ := zBx (xs := xs) (i := k) (by omega);refine zAl (zAb (hK9 _ ?_));refine zAg fun K11 hK11 => zAa rfl fun K12 hK12 => p_mS rfl (p_aS rfl (p_end (hK12 _ ?_)));refine zAm rfl fun K13 hK13 => zAM (g_e rfl (e_lA (cs := Node.enc (n)) (n := 3) rfl hihj7_0) (g_e rfl (zAi (v := .lit _ _ _) rfl) (g_mS rfl rfl (g_e rfl (e_ixL rfl rfl) (g_e rfl (e_lB (n := 3) rfl (by first | exact zBj hx rfl)) (g_e rfl (e_aeq rfl rfl (by kernel_rfl) (zAI (n) (x)) (zAO (n) (x))) ?_))))));refine g_end (ds := []) (by kernel_rfl) rfl (hK13 _ ?_);refine zAt rfl (fun hb14 => ?_) (fun hb14 => ?_)
  ·have hb14T := hb14; try simp only [zz] at hb14
   refine zAa rfl fun K15 hK15 => p_mS rfl (p_aS rfl (p_end (hK15 _ ?_)));refine zAh (zAc (zAk (zAP (zAc (zAk (end1 (v := .sc _) rfl ?_))))));exact out_i (zHv (K := ndK n) hx hin (decide_eq_true (Eq.symm (by assumption))))
  have hb14F := hb14; try simp only [zz] at hb14
  refine zAl (zAj (zAb (hK11 _ ?_)));refine zAn rfl fun K16 hK16 => p_e rfl (e_adL rfl rfl) (p_mS rfl (p_end (hK16 _ ?_)));exact zAo (k + 1) (by show _ < _; omega) ⟨rfl, rfl, rfl, trivial⟩ ⟨rfl, trivial⟩ (by exact ⟨by show _ + 1 ≤ _; simp only [lM] at *; omega, by exact zEo (K := ndK n) hin hx (decide_eq_false (fun q => absurd q.symm (by assumption))), hihj7_0⟩)
 have hb10R := hb10; try simp only [zz] at hb10
 refine zAJ (zAK ?_);clear hK9 K9;refine zAC (zAA (zAb (hK3 _ ?_)));refine zAa rfl fun K17 hK17 => p_aS rfl (p_end (hK17 _ ?_));refine zAh (end1 (v := .sc _) rfl ?_);exact out_i (zLM (K := ndK n) hin (by simp only [lM] at *; omega))
theorem containsNC (xs : List Node) (n : Node) (hl : xs.length ≤ 1000000) : PCalls Tryz.prog 84 [.lit true 3 (xs.map Node.enc), .agg n.enc] (.bool (decide (0 ≤ ixA (ndK n) xs))) := by
 refine pco Tryz.func84 rfl rfl (.sc _) (zAa rfl fun K1 hK1 => p_new rfl (e_box (n := 3) rfl rfl) ⟨rfl, by decide⟩ (p_aS rfl (p_end (hK1 _ ?_))));refine zAa rfl fun K2 hK2 => p_e rfl (zAi (v := .lit _ _ _) rfl) (p_e rfl (e_lA (cs := Node.enc (n)) (n := 3) rfl w_) (zBs rfl (.cons zBV (.cons (zAx (Node.pure _)) .nil)) (indexNC _ _ hl) (p_e rfl (e_ge rfl rfl) (p_aS rfl (p_end (hK2 _ ?_))))));refine zAh (end1 (v := .sc _) rfl ?_);exact out_b rfl
theorem zKE (h0 : Heap) (c0 : Nat → Nat) (s : Scaffold) (q gh gl : Nat) (xe xb xm xr : List (List Int)) (hF : h0 (31, q) = some (.rows 8 [frow s (fzX xe xb xm xr gh gl)])) (tt : Bool) (a b n : Node) (g : Nat) (z : Int) (hB : h0 (2, g) = some (.rows 1 [[.ptr (31, q) 8 0 0]])) (hz : 0 ≤ z ∧ z < (s.nodes.length : Int)) (hn : s.nodes[z.toNat]? = some n) : zAy Tryz.prog 83 [.int z, .lptr tt 12 [Crn.enc ⟨a, b⟩] 0 0, .ptr (2, g) 1 0 0] h0 c0 (fun v h c => v = .bool (decide (0 ≤ ixA (ndK n) (crn a b))) ∧ h = h0 ∧ c = c0) := by
 refine hco Tryz.func83 rfl rfl (zAa rfl fun K1 hK1 => p_aS rfl (p_end (hK1 _ ?_)));refine zAm rfl fun K2 hK2 => zAM (g_e rfl (e_slQ (n := 4) (e := 65) rfl (by kernel_rfl) (by kernel_rfl) (by decide) (by exact Nat.zero_lt_one) (by decide) crn_rows) (g_e rfl (e_lH (v := .ptr (31, q) 8 0 0) rfl hB rfl) (g_e rfl (zBe rfl) (g_e rfl (e_faQ plF rfl) (g_e rfl (e_faQ pl2 rfl) (g_e rfl (e_lH (v := .lit _ _ _) rfl hF rfl) ?_))))));refine g_mS rfl rfl (g_e rfl (e_ixL rfl rfl) (g_e rfl (e_lB (n := 3) rfl (by first | exact zBj hn rfl)) (zBd rfl rfl rfl rfl (.cons zBV (.cons (zAx (Node.pure _)) .nil)) (containsNC _ _ (by show 4 ≤ 1000000; omega)) (g_aS rfl rfl (g_end (ds := []) (by kernel_rfl) rfl (hK2 _ ?_))))));refine zAh (end1 (v := .sc _) rfl ?_);exact ⟨rfl, rfl, rfl⟩
end Go.Proofs.YtnbcmoaofmkjhaaGreatDoor.E7
