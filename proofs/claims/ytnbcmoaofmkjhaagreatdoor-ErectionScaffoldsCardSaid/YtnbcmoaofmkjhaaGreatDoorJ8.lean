import Derived.Test.YtnbcmoaofmkjhaaGreatDoorJ7
import Derived.Test.YtnbcmoaofmkjhaaGreatDoorPvGh
set_option linter.unusedSimpArgs false
set_option linter.unusedVariables false
namespace Go.Proofs.YtnbcmoaofmkjhaaGreatDoor.E7
open Go Go.Pv Go.Proofs.YtnbcmoaofmkjhaaGreatDoor
structure OF {ι : Type} (h : Heap) (d1 d2 : Nat) (F : ι → Option PV) (b : Nat) (L : ι → Int → Prop) : Prop where
 at_ : ∀ (i : ι) (v : PV), F i = some v → ∃ xs : List Int, (zAq h d1 v 1 (xs.map ci) ∨ zAq h d2 v 1 (xs.map ci)) ∧ xs.length ≤ b ∧ ∀ z, z ∈ xs ↔ L i z
 one : ∀ (i j : ι) (v : PV), F i = some v → F j = some v → v ≠ .nil → i = j
 no : ∀ i, F i = none → ∀ z, ¬ L i z
section
variable {ι : Type} {h h' : Heap} {c : Nat → Nat} {d d1 d2 : Nat} {F F' : ι → Option PV} {b : Nat} {v w : PV} {rows rows2 : Pv.Rows} {i j : ι} {L L' : ι → Int → Prop} {xs : List Int}
theorem zLA {k : Key} {sz n : Nat} (hs : zAq h d1 v 1 rows ∨ zAq h d2 v 1 rows) (he : v = .ref k sz 0 n) : h k = some (.rows 1 rows) ∧ n = rows.length ∧ sz = 1 ∧ (k.1 = d1 ∨ k.1 = d2) := by
 subst he;rcases hs with hs | hs <;> rcases hs with ⟨_, h1⟩ | ⟨g, h1, h2⟩
 · cases h1
 · cases h1; exact ⟨h2, rfl, rfl, .inl rfl⟩
 · cases h1
 · cases h1; exact ⟨h2, rfl, rfl, .inr rfl⟩
theorem OF.keep (hn : OF h d1 d2 F b L) (h1 : ∀ g, h' (d1, g) = h (d1, g)) (h2 : ∀ g, h' (d2, g) = h (d2, g)) : OF h' d1 d2 F b L :=
 ⟨fun i v hv => by obtain ⟨xs, g1, g2⟩ := hn.at_ i v hv; exact ⟨xs, g1.imp (·.keep h1) (·.keep h2), g2⟩, hn.one, hn.no⟩
theorem OF.mono {b' : Nat} (hn : OF h d1 d2 F b L) (hb : b ≤ b') : OF h d1 d2 F b' L :=
 ⟨fun i v hv => by obtain ⟨xs, g1, g2, g3⟩ := hn.at_ i v hv; exact ⟨xs, g1, Nat.le_trans g2 hb, g3⟩, hn.one, hn.no⟩
theorem OF.cong (hn : OF h d1 d2 F b L) (hL : ∀ i z, L i z ↔ L' i z) : OF h d1 d2 F b L' :=
 ⟨fun i v hv => by obtain ⟨xs, g1, g2, g3⟩ := hn.at_ i v hv; exact ⟨xs, g1, g2, fun z => (g3 z).trans (hL i z)⟩, hn.one, fun i hi z hz => hn.no i hi z ((hL i z).2 hz)⟩
theorem OF.other (hn : OF h d1 d2 F b L) (hd : d = d1 ∨ d = d2) (hf : Fresh h c d) (hv : F i = some v ∨ v = .nil) (hs : zAq h d1 v 1 rows ∨ zAq h d2 v 1 rows)
   (hk : ∀ k' : Key, k' ≠ (d, c d) → (∀ g, v = .ref (d1, g) 1 0 rows.length → k' ≠ (d1, g)) → (∀ g, v = .ref (d2, g) 1 0 rows.length → k' ≠ (d2, g)) → h' k' = h k')
   (hj : j ≠ i) (hw : F j = some w) {k : Key} {n : Nat} (he : w = .ref k 1 0 n) : h' k = h k := by
 obtain ⟨xs3, g1, _⟩ := hn.at_ j w hw;obtain ⟨g2, g3, _, _⟩ := zLA g1 he
 have main : ∀ dd g, v = .ref (dd, g) 1 0 rows.length → k ≠ (dd, g) := fun dd g hvv hkk => by
   subst hkk;obtain ⟨g5, g6, _, _⟩ := zLA hs hvv;rw [g2] at g5;have hr : xs3.map ci = rows := by simpa using g5
   have hwv : w = v := by rw [he, hvv, g3, hr]
   rcases hv with hv | hv
   · exact hj (hn.one j i w hw (by rw [hv, hwv]) (by rw [he]; intro q; cases q))
   · rw [hvv] at hv; cases hv
 refine hk k (fun q => ?_) (main d1) (main d2);subst q;exact absurd (hf (c d) _ g2) (Nat.lt_irrefl _)
theorem OF.far (hn : OF h d1 d2 F b L) (hd : d = d1 ∨ d = d2) (hf : Fresh h c d) (hv : F i = some v ∨ v = .nil) (hs : zAq h d1 v 1 rows ∨ zAq h d2 v 1 rows)
   (hk : ∀ k' : Key, k' ≠ (d, c d) → (∀ g, v = .ref (d1, g) 1 0 rows.length → k' ≠ (d1, g)) → (∀ g, v = .ref (d2, g) 1 0 rows.length → k' ≠ (d2, g)) → h' k' = h k')
   (hj : j ≠ i) (hw : F j = some w) {dx : Nat} (hx : zAq h dx w 1 rows2) : zAq h' dx w 1 rows2 := by
 rcases hx with hx | ⟨g, h1, h2⟩
 · exact .inl hx
 · exact .inr ⟨g, h1, (hn.other hd hf hv hs hk hj hw h1).trans h2⟩
theorem OF.app [DecidableEq ι] (hn : OF h d1 d2 F b L) (hd : d = d1 ∨ d = d2) (hf : Fresh h c d) (hv : F i = some v ∨ v = .nil) (hs : zAq h d1 v 1 (xs.map ci) ∨ zAq h d2 v 1 (xs.map ci)) (hb : xs.length ≤ b) (hm : ∀ z, z ∈ xs ↔ L i z) {y : Int} (hr : h' (d, c d) = some (.rows 1 (xs.map ci ++ [ci y])))
   (hk : ∀ k' : Key, k' ≠ (d, c d) → (∀ g, v = .ref (d1, g) 1 0 (xs.map ci).length → k' ≠ (d1, g)) → (∀ g, v = .ref (d2, g) 1 0 (xs.map ci).length → k' ≠ (d2, g)) → h' k' = h k')
   (hF : ∀ j, F' j = if j = i then some (.ref (d, c d) 1 0 ((xs.map ci).length + 1)) else F j) : OF h' d1 d2 F' (b + 1) (fun j z => L j z ∨ (j = i ∧ z = y)) := by
 have hnew : ∀ w j, j ≠ i → F j = some w → w ≠ .ref (d, c d) 1 0 ((xs.map ci).length + 1) := fun w j hj hw he => by
   obtain ⟨xs3, g1, _⟩ := hn.at_ j w hw;exact absurd (hf (c d) _ (zLA g1 he).1) (Nat.lt_irrefl _)
 refine ⟨fun j w hw => ?_, fun j k w h1 h2 h3 => ?_, fun j hj z hz => ?_⟩
 · rw [hF] at hw;by_cases hj : j = i
   · rw [if_pos hj] at hw;cases hw;have hl : (xs.map ci ++ [ci y]).length = (xs.map ci).length + 1 := by simp
     have he : xs.map ci ++ [ci y] = (xs ++ [y]).map ci := by simp
     refine ⟨xs ++ [y], ?_, by rw [List.length_append, List.length_singleton]; omega, fun z => ?_⟩
     · rw [← he];rcases hd with rfl | rfl
       · exact .inl (.inr ⟨_, by rw [hl], hr⟩)
       · exact .inr (.inr ⟨_, by rw [hl], hr⟩)
     · rw [List.mem_append, List.mem_singleton, hm z, hj]; simp
   · rw [if_neg hj] at hw;obtain ⟨xs3, g1, g2, g3⟩ := hn.at_ j w hw;exact ⟨xs3, g1.imp (hn.far hd hf hv hs hk hj hw) (hn.far hd hf hv hs hk hj hw), by omega, fun z => by rw [g3 z]; simp [hj]⟩
 · rw [hF] at h1 h2;by_cases hj : j = i
   · by_cases hk2 : k = i
     · rw [hj, hk2]
     · rw [if_pos hj] at h1; rw [if_neg hk2] at h2;cases h1; exact absurd rfl (hnew _ k hk2 h2)
   · rw [if_neg hj] at h1;by_cases hk2 : k = i
     · rw [if_pos hk2] at h2;cases h2; exact absurd rfl (hnew _ j hj h1)
     · rw [if_neg hk2] at h2;exact hn.one j k w h1 h2 h3
 · rw [hF] at hj;by_cases hi : j = i
   · rw [if_pos hi] at hj; cases hj
   · rw [if_neg hi] at hj;rcases hz with hz | ⟨hz, _⟩
     · exact hn.no j hj z hz
     · exact hi hz
end
abbrev OA (h : Heap) (d1 d2 : Nat) (vs : List PV) (b : Nat) (L : Nat → Int → Prop) : Prop := OF h d1 d2 (fun i : Nat => vs[i]?) b L
abbrev OM (h : Heap) (d : Nat) (l : List ((Int × Int) × PV)) (b : Nat) (L : (Int × Int) → Int → Prop) : Prop := OF h d d (fun a : Int × Int => aGet a l) b L
theorem OA.zero {h : Heap} {d1 d2 n b : Nat} : OA h d1 d2 (List.replicate n .nil) b (fun _ _ => False) := by
 refine ⟨fun i v hv => ?_, fun i j v h1 h2 h3 => ?_, fun _ _ _ h => h⟩
 · rw [List.getElem?_replicate] at hv;split at hv
   · cases hv; exact ⟨[], .inl .nil, Nat.zero_le _, fun z => by simp⟩
   · cases hv
 · rw [List.getElem?_replicate] at h1;split at h1
   · cases h1; exact absurd rfl h3
   · cases h1
theorem OM.zero {h : Heap} {d b : Nat} : OM h d [] b (fun _ _ => False) := ⟨fun i v hv => by simp [aGet] at hv, fun i j v h1 => by simp [aGet] at h1, fun _ _ _ h => h⟩
theorem set_F {vs : List PV} {i : Nat} {w : PV} (hi : i < vs.length) (j : Nat) : (vs.set i w)[j]? = if j = i then some w else vs[j]? := by
 rw [List.getElem?_set];by_cases e : i = j
 · subst e; rw [if_pos rfl, if_pos hi, if_pos rfl]
 · rw [if_neg e, if_neg (fun q => e q.symm)]
def kl (l : Int × Int) : PV := .agg [.int l.1, .int l.2]
theorem kl_eq (a b : Int × Int) : keyEq (kl a) (kl b) = decide (a = b) := by
 show scsEq [.int a.1, .int a.2] [.int b.1, .int b.2] = _;rw [Bool.eq_iff_iff];cases a; cases b;simp [scsEq, scEq]
theorem kl_ok (a : Int × Int) : keyOk Tryz.prog 87 (kl a) := by
 show zI3 Tryz.prog 87 [.int a.1, .int a.2] = true;kernel_rfl
def lnA (s : Scaffold) (z : Int) : Int × Int := ((s.nodes.getD z.toNat default).px, (s.nodes.getD z.toNat default).py)
def zA (s : Scaffold) (z : Int) : Int := (s.nodes.getD z.toNat default).pz
def hldB (s : Scaffold) (a : Int × Int) (i : Nat) : Bool := decide (((s.members.getD i default).kind = 9 ∨ (s.members.getD i default).kind = 8) ∧ lnA s (s.members.getD i default).a = a)
def hldL (s : Scaffold) (k : Nat) (a : Int × Int) : List Int := ((List.range k).filter (hldB s a)).map fun i : Nat => (i : Int)
theorem zGO {s : Scaffold} {k : Nat} {a : Int × Int} : hldL s (k + 1) a = hldL s k a ++ if hldB s a k = true then [(k : Int)] else [] := by
 rw [hldL, List.range_succ, List.filter_append, List.map_append, List.filter_cons];split <;> simp [hldL]
theorem zGP {s : Scaffold} {k : Nat} {a : Int × Int} : (hldL s k a).length ≤ k := by
 rw [hldL, lM];exact Nat.le_trans (List.length_filter_le _ _) (by simp)
theorem zCG {s : Scaffold} {k : Nat} {m : Member} (hm : s.members[k]? = some m) : s.members.getD k default = m := by rw [List.getD_eq_getElem?_getD, hm]; rfl
theorem zMl {s : Scaffold} {k : Nat} {m : Member} (hm : s.members[k]? = some m) (hk : m.kind = 9 ∨ m.kind = 8) : hldL s (k + 1) (lnA s m.a) = hldL s k (lnA s m.a) ++ [(k : Int)] := by
 rw [zGO, if_pos];rw [hldB, zCG hm]; exact decide_eq_true ⟨hk, rfl⟩
theorem zMm {s : Scaffold} {k : Nat} {m : Member} {a : Int × Int} (hm : s.members[k]? = some m) (ha : a ≠ lnA s m.a) : hldL s (k + 1) a = hldL s k a := by
 rw [zGO, if_neg, List.append_nil];rw [hldB, zCG hm, decide_eq_true_eq];exact fun q => ha q.2.symm
theorem zMn {s : Scaffold} {k : Nat} {m : Member} {a : Int × Int} (hm : s.members[k]? = some m) (hk : ¬ (m.kind = 9 ∨ m.kind = 8)) : hldL s (k + 1) a = hldL s k a := by
 rw [zGO, if_neg, List.append_nil];rw [hldB, zCG hm, decide_eq_true_eq];exact fun q => hk q.1
def HC (h : Heap) (s : Scaffold) (l : List ((Int × Int) × PV)) (k : Nat) : Prop := ∀ a, zAq h 161 ((aGet a l).getD .nil) 1 ((hldL s k a).map ci)
theorem HC.zero {h : Heap} {s : Scaffold} : HC h s [] 0 := fun a => by simp [aGet, hldL]; exact .nil
theorem HC.keep {h h' : Heap} {s : Scaffold} {l : List ((Int × Int) × PV)} {k : Nat} (hn : HC h s l k) (hk : ∀ g, h' (161, g) = h (161, g)) : HC h' s l k := fun a => (hn a).keep hk
theorem HC.skip {h : Heap} {s : Scaffold} {l : List ((Int × Int) × PV)} {k : Nat} {m : Member} (hn : HC h s l k) (hm : s.members[k]? = some m) (hk : ¬ (m.kind = 9 ∨ m.kind = 8)) : HC h s l (k + 1) := fun a => by
 rw [zMn hm hk]; exact hn a
theorem HC.app {h h' : Heap} {c : Nat → Nat} {s : Scaffold} {l : List ((Int × Int) × PV)} {k b : Nat} {m : Member} {v : PV} (hn : HC h s l k) {L : (Int × Int) → Int → Prop} (ho : OM h 161 l b L) (hf : Fresh h c 161) (hm : s.members[k]? = some m) (hkd : m.kind = 9 ∨ m.kind = 8) (hv : v = (aGet (lnA s m.a) l).getD .nil)
   (hr : h' (161, c 161) = some (.rows 1 ((hldL s k (lnA s m.a)).map ci ++ [ci (k : Int)])))
   (hk : ∀ k' : Key, k' ≠ (161, c 161) → (∀ g, v = .ref (161, g) 1 0 ((hldL s k (lnA s m.a)).map ci).length → k' ≠ (161, g)) → h' k' = h k') : HC h' s (aSet (lnA s m.a) (.ref (161, c 161) 1 0 (((hldL s k (lnA s m.a)).map ci).length + 1)) l) (k + 1) := fun a => by
 rw [zDg];by_cases e : a = lnA s m.a
 · subst e;rw [if_pos rfl, zMl hm hkd];exact .inr ⟨c 161, by simp, by rw [hr, List.map_append]; rfl⟩
 · rw [if_neg e, zMm hm e];cases hw : aGet a l with
   | none => have := hn a; rw [hw] at this; rcases this with h1 | ⟨g, h1, _⟩
             · exact .inl h1
             · cases h1
   | some w =>
     have h1 := hn a;rw [hw] at h1;have hs := hn (lnA s m.a);rw [← hv] at hs
     have hv2 : (fun a : Int × Int => aGet a l) (lnA s m.a) = some v ∨ v = .nil := by
       cases q : aGet (lnA s m.a) l with
       | none => rw [q] at hv; exact .inr hv
       | some u => rw [q] at hv; exact .inl (by rw [hv]; exact q)
     exact ho.far (d := 161) (.inl rfl) hf hv2 (.inl hs) (fun k' g1 g2 _ => hk k' g1 g2) e hw h1
end Go.Proofs.YtnbcmoaofmkjhaaGreatDoor.E7
set_option maxRecDepth 100000
namespace Go.Proofs.YtnbcmoaofmkjhaaGreatDoor.E7
open Go Go.Pv Go.Proofs.YtnbcmoaofmkjhaaGreatDoor
abbrev plF : List (Nat × Nat × Bool) := [(0, 2, true), (2, 1, false), (3, 1, false), (4, 1, false), (5, 1, false), (6, 1, false), (7, 1, false)]
section
variable {P : Program} {Q : Exit → PS → Prop} {s : PS}
theorem zCH {id : Nat} {ops : Array Oper} {d : Bool} (hg : (zCn ops && !d) = false) (h : Known s → ∀ K : PS → Prop, (∀ s', Q .normal s' → K s') → gOps P ops d K ops.toList 0 ⟨s, fun _ => true⟩ []) : pwp P (.region id ops d) Q s := by
 show zBA P ops d (Q .normal) s;unfold zBA;intro hk;rw [hg];exact .inl (h hk _ fun _ h => h)
end
section
variable {P : Program} {K : PS → Prop} {d : Nat} {op : Op} {ty t : TypeId} {pos : String} {aft : Array Edge} {rest : List Oper} {r : Nat → PV} {h : Heap} {cnt : Nat → Nat} {ops : Array Oper} {i : Nat} {G : Nat → Bool} {dd : Bool} {x y : Operand}
theorem zL3 {ts : Array TypeId} {t2 : TypeId} {u u2 : PV} {sz d1 : Nat} {rows rows2 : Pv.Rows} {tl : List Ft} {ds : List Nat} (rs ws : List Nat) (hr1 : d1 ∈ rs) (hr2 : ∀ z ∈ ds, z ∈ rs) (hw1 : d1 ∈ ws ∧ d ∈ ws) (hts : ts.toList = [t, t2]) (hx : ev r x = u) (hy : ev r y = u2) (hs : zAq h d1 u sz rows) (hsr : SrcAt h ds sz u2 rows2)
   (hv : zCL r G (.call { callee := .builtin .append, args := #[x, y], argTypes := ts }) = true)
   (hok : (zAN P t && (decide (P.bytesOf (zAu P t) < 2 ^ 15) && (decide (zBm P t2 = none) && (zEg P (zAu P t) && ((P.underlying t2).isSome && decide (zAr P (zAu P t) = sz)))))) = true) (hlen : rows.length + rows2.length < 2 ^ 32) (hne : rows2 ≠ [])
   (hk : ∀ h', h' (d, cnt d) = some (.rows sz (rows ++ rows2)) → (∀ k' : Key, k' ≠ (d, cnt d) → (∀ g, u = .ref (d1, g) sz 0 rows.length → k' ≠ (d1, g)) → h' k' = h k') → sRun P ops dd K rest (i + 1) ⟨setT r d (.ref (d, cnt d) sz 0 (rows.length + rows2.length)), h', cset cnt d⟩ (setB G d true) (tl ++ [⟨i, rs, ws⟩])) :
   sRun P ops dd K (⟨some d, .call { callee := .builtin .append, args := #[x, y], argTypes := ts }, ty, pos, aft, none⟩ :: rest) i ⟨r, h, cnt⟩ G tl := by
 simp only [Bool.and_eq_true, decide_eq_true_eq] at hok;obtain ⟨o1, o2, o3, o4, o5, o6⟩ := hok;subst o6;obtain ⟨hs1, hs2, hs3⟩ := hsr
 have he : ∀ u, ev r x = u → eff P (ev r) h (d, cnt d) (.call { callee := .builtin .append, args := #[x, y], argTypes := ts }) = zA3 P h (d, cnt d) t t2 u u2 := fun u hu => by
   show zA9 P h (d, cnt d) .append ts.toList [ev r x, ev r y] = _;rw [hts, hu, hy]; rfl
 have hrs : ∀ k ∈ (zAU h (zAr P (zAu P t)) u2).2.2, k.1 ∈ rs := fun k hk' => hr2 _ (hs3 k hk');have hie : rows2.isEmpty = false := by cases rows2 <;> first | exact absurd rfl hne | rfl
 rcases hs with ⟨rfl, rfl⟩ | ⟨g, rfl, hg⟩
 · have hq := he _ hx;unfold zA3 at hq;simp only [hs2] at hq;rw [hie] at hq;simp only [cond_false] at hq;have hk2 := hk (hset h (d, cnt d) (some (.rows (zAr P (zAu P t)) rows2))) (by rw [List.nil_append]; exact zBk _ _ _) (fun k' h1 _ => zAp h1);rw [List.length_nil, Nat.zero_add] at hk2;exact s_any rs ws rfl rfl hrs (by simp [hw1.2]) rfl hv hq ⟨⟨o1, o2, o3, o4, o5⟩, hs1, hne, by simp at hlen; omega⟩ hk2
 · have hq := he _ hx;unfold zA3 at hq;simp only [hg, hs2] at hq;refine s_any rs ws rfl rfl (by intro k hk'; rcases List.mem_cons.1 hk' with rfl | hk'; exact hr1; exact hrs k hk') (by simp [hw1.1, hw1.2]) rfl hv hq (by refine ⟨⟨o1, o2, o3, o4, o5⟩, hs1, ?_⟩; simp; omega) (hk (hset (hset h (d1, g) none) (d, cnt d) (some (.rows (zAr P (zAu P t)) (rows.take rows.length ++ rows2)))) ?_ fun k' h1 h2 => ?_)
   · rw [zBk]; first | rw [List.drop_zero, List.take_length] | rw [List.take_length]
   · rw [zAp h1, zAp (h2 g rfl)]
end
theorem zK9 {s : Scaffold} {z : Int} {n : Node} (hn : s.nodes[z.toNat]? = some n) : s.nodes.getD z.toNat default = n := by rw [List.getD_eq_getElem?_getD, hn]; rfl
theorem lnA_at {s : Scaffold} {z : Int} {n : Node} (hn : s.nodes[z.toNat]? = some n) : lnA s z = (n.px, n.py) := by rw [lnA, zK9 hn]
theorem zA_at {s : Scaffold} {z : Int} {n : Node} (hn : s.nodes[z.toNat]? = some n) : zA s z = n.pz := by rw [zA, zK9 hn]
def frow (s : Scaffold) (X : List PV) : List PV := .lit true 3 (s.nodes.map Node.enc) :: .lit true 3 (s.members.map Member.enc) :: X
section
variable {P : Program} {K : PS → Prop} {d : Nat} {op : Op} {ty t : TypeId} {pos : String} {aft : Array Edge} {rest : List Oper} {r : Nat → PV} {h : Heap} {cnt : Nat → Nat} {ops : Array Oper} {i : Nat} {G : Nat → Bool} {dd : Bool} {x y : Operand}
theorem zDs {ts : Array TypeId} {t2 : TypeId} {u u2 : PV} {sz d1 d2 : Nat} {rows rows2 : Pv.Rows} {tl : List Ft} {ds : List Nat} (rs ws : List Nat) (hr1 : d1 ∈ rs ∧ d2 ∈ rs) (hr2 : ∀ z ∈ ds, z ∈ rs) (hw1 : (d1 ∈ ws ∧ d2 ∈ ws) ∧ d ∈ ws) (hts : ts.toList = [t, t2]) (hx : ev r x = u) (hy : ev r y = u2) (hs : zAq h d1 u sz rows ∨ zAq h d2 u sz rows) (hsr : SrcAt h ds sz u2 rows2)
   (hv : zCL r G (.call { callee := .builtin .append, args := #[x, y], argTypes := ts }) = true)
   (hok : (zAN P t && (decide (P.bytesOf (zAu P t) < 2 ^ 15) && (decide (zBm P t2 = none) && (zEg P (zAu P t) && ((P.underlying t2).isSome && decide (zAr P (zAu P t) = sz)))))) = true) (hlen : rows.length + rows2.length < 2 ^ 32) (hne : rows2 ≠ [])
   (hk : ∀ h', h' (d, cnt d) = some (.rows sz (rows ++ rows2)) → (∀ k' : Key, k' ≠ (d, cnt d) → (∀ g, u = .ref (d1, g) sz 0 rows.length → k' ≠ (d1, g)) → (∀ g, u = .ref (d2, g) sz 0 rows.length → k' ≠ (d2, g)) → h' k' = h k') → sRun P ops dd K rest (i + 1) ⟨setT r d (.ref (d, cnt d) sz 0 (rows.length + rows2.length)), h', cset cnt d⟩ (setB G d true) (tl ++ [⟨i, rs, ws⟩])) :
   sRun P ops dd K (⟨some d, .call { callee := .builtin .append, args := #[x, y], argTypes := ts }, ty, pos, aft, none⟩ :: rest) i ⟨r, h, cnt⟩ G tl := by
 rcases hs with hs | hs
 · exact zL3 rs ws hr1.1 hr2 ⟨hw1.1.1, hw1.2⟩ hts hx hy hs hsr hv hok hlen hne fun h' g1 g2 => hk h' g1 fun k' q1 q2 _ => g2 k' q1 q2
 · exact zL3 rs ws hr1.2 hr2 ⟨hw1.1.2, hw1.2⟩ hts hx hy hs hsr hv hok hlen hne fun h' g1 g2 => hk h' g1 fun k' q1 _ q3 => g2 k' q1 q3
end
theorem lineH (h0 : Heap) (c0 : Nat → Nat) (s : Scaffold) (q : Nat) (z : Int) (X : List PV) (n : Node) (hF : h0 (31, q) = some (.rows 8 [frow s X])) (hz : 0 ≤ z ∧ z < (s.nodes.length : Int)) (hn : s.nodes[z.toNat]? = some n) : zAy Tryz.prog 46 [.ptr (31, q) 8 0 0, .int z] h0 c0 (fun v h' _ => v = kl (lnA s z) ∧ ∀ k' : Key, k'.2 < c0 k'.1 → h' k' = h0 k') := by
 refine hco Tryz.func46 rfl rfl (zAa rfl fun K1 hK1 => p_new rfl (zAR (cs := [.int 0, .int 0]) (n := 2) (by kernel_rfl) rfl (by decide)) (zAG (by decide)) (p_end (hK1 _ ?_)));refine zAm rfl fun K2 hK2 => zA0 (s_e rfl (zAi (v := .ptr _ _ _ _) rfl) (s_e rfl (zBe rfl) (s_e rfl (e_faQ [(0, 2, true), (2, 1, false), (3, 1, false), (4, 1, false), (5, 1, false), (6, 1, false), (7, 1, false)] rfl) (s_e rfl (e_faQ pl2 rfl) (s_eR [31] rfl (e_lH (v := .lit _ _ _) rfl (h1_ hF) rfl) (s_e rfl (zAi (v := .sc _) rfl) ?_))))));refine s_e rfl (e_ixL rfl rfl) (s_e rfl (e_fb pl3 rfl) (s_e rfl (e_lL (v := .sc _) rfl ((zAV hn _).trans rfl)) (s_e rfl (zAi (v := .ptr _ _ _ _) rfl) (s_e rfl (zBe rfl) (s_e rfl (e_faQ [(0, 2, true), (2, 1, false), (3, 1, false), (4, 1, false), (5, 1, false), (6, 1, false), (7, 1, false)] rfl) (s_e rfl (e_faQ pl2 rfl) (s_eR [31] rfl (e_lH (v := .lit _ _ _) rfl (h1_ hF) rfl) ?_)))))));refine s_e rfl (zAi (v := .sc _) rfl) (s_e rfl (e_ixL rfl rfl) (s_e rfl (e_fb pl3 rfl) (s_e rfl (e_lL (v := .sc _) rfl ((zAV hn _).trans rfl)) (s_e rfl (zCt (zs := [.int 0, .int 0]) (pl := [(0, 1, false), (1, 1, false)]) (by kernel_rfl) (by kernel_rfl) (by kernel_rfl) rfl rfl (by exact ⟨by decide, rfl, nb_, rfl, ⟨by decide, rfl, nb_, rfl, trivial⟩⟩) rfl) (zA4 [4] (by simp) rfl rfl (zAB rfl w_ rfl rfl rfl (by kernel_rfl) rfl (by kernel_rfl)) trivial (s_end (ds := []) (by kernel_rfl) (by kernel_rfl) (hK2 _ ?_)))))));refine zAh (endC rfl w_ (by kernel_rfl) (by kernel_rfl) (by kernel_rfl) rfl ?_);exact ⟨by rw [lnA_at hn]; rfl, fun k' hk' => (zAp (zBz hk' rfl)).trans ((zAp (zBz hk' rfl)).trans (rfl))⟩
theorem zH (h0 : Heap) (c0 : Nat → Nat) (s : Scaffold) (q : Nat) (z : Int) (X : List PV) (n : Node) (hF : h0 (31, q) = some (.rows 8 [frow s X])) (hz : 0 ≤ z ∧ z < (s.nodes.length : Int)) (hn : s.nodes[z.toNat]? = some n) : zAy Tryz.prog 24 [.ptr (31, q) 8 0 0, .int z] h0 c0 (fun v h' _ => v = .int (zA s z) ∧ ∀ k' : Key, k'.2 < c0 k'.1 → h' k' = h0 k') := by
 refine hco Tryz.func24 rfl rfl (zAa rfl fun K1 hK1 => p_aS rfl (p_end (hK1 _ ?_)));refine zAa rfl fun K2 hK2 => p_e rfl (zAi (v := .ptr _ _ _ _) rfl) (p_e rfl (zBe rfl) (p_e rfl (e_faQ [(0, 2, true), (2, 1, false), (3, 1, false), (4, 1, false), (5, 1, false), (6, 1, false), (7, 1, false)] rfl) (p_e rfl (e_faQ pl2 rfl) (p_e rfl (e_lH (v := .lit _ _ _) rfl hF rfl) (p_mS rfl (p_e rfl (e_ixL rfl rfl) ?_))))));refine p_e rfl (e_fb pl3 rfl) (p_e rfl (e_lL (v := .sc _) rfl ((zAV hn _).trans rfl)) (p_aS rfl (p_end (hK2 _ ?_))));refine zAh (end1 (v := .sc _) rfl ?_);exact ⟨by rw [zA_at hn], fun k' hk' => rfl⟩
theorem zK8 {s : Scaffold} {z : Int} (hz : 0 ≤ z ∧ z < (s.nodes.length : Int)) : ∃ n, s.nodes[z.toNat]? = some n := ⟨_, List.getElem?_eq_getElem (by omega)⟩
theorem lineM (h : Heap) (c : Nat → Nat) (s : Scaffold) (q : Nat) (z : Int) (X : List PV) (hF : h (31, q) = some (.rows 8 [frow s X])) (hz : 0 ≤ z ∧ z < (s.nodes.length : Int)) : zAy Tryz.prog 46 [.ptr (31, q) 8 0 0, .int z] h c fun v h2 c2 => v = kl (lnA s z) ∧ h2 = h ∧ c2 = c := by
 obtain ⟨n, hn⟩ := zK8 hz;exact (lineH h c s q z X n hF hz hn).forget2 (rep_agg2 rfl rfl)
theorem zM (h : Heap) (c : Nat → Nat) (s : Scaffold) (q : Nat) (z : Int) (X : List PV) (hF : h (31, q) = some (.rows 8 [frow s X])) (hz : 0 ≤ z ∧ z < (s.nodes.length : Int)) : zAy Tryz.prog 24 [.ptr (31, q) 8 0 0, .int z] h c fun v h2 c2 => v = .int (zA s z) ∧ h2 = h ∧ c2 = c := by
 obtain ⟨n, hn⟩ := zK8 hz;exact (zH h c s q z X n hF hz hn).forget2 (rep_sc0 rfl)
def fsB (d : Nat) : Bool := [21, 23, 25, 27, 28, 29, 31, 60, 78, 99, 117, 137, 161, 190].contains d
def fX (n ge gb gm gr gh gl : Nat) : List PV := [.ref (21, ge) 1 0 n, .ref (23, gb) 1 0 n, .ref (25, gm) 1 0 n, .ref (27, gr) 1 0 n, .map (28, gh), .map (29, gl)]
structure Cs where
 e : Nat → Int → Prop
 b : Nat → Int → Prop
 m : Nat → Int → Prop
 r : Nat → Int → Prop
 l : (Int × Int) → Int → Prop
def Cs.zero : Cs := ⟨fun _ _ => False, fun _ _ => False, fun _ _ => False, fun _ _ => False, fun _ _ => False⟩
def Cs.addE (C : Cs) (i : Nat) (z : Int) : Cs := { C with e := fun j y => C.e j y ∨ (j = i ∧ y = z) }
def Cs.addB (C : Cs) (i : Nat) (z : Int) : Cs := { C with b := fun j y => C.b j y ∨ (j = i ∧ y = z) }
def Cs.addM (C : Cs) (i : Nat) (z : Int) : Cs := { C with m := fun j y => C.m j y ∨ (j = i ∧ y = z) }
def Cs.addR (C : Cs) (i : Nat) (z : Int) : Cs := { C with r := fun j y => C.r j y ∨ (j = i ∧ y = z) }
def Cs.addL (C : Cs) (a : Int × Int) (z : Int) : Cs := { C with l := fun j y => C.l j y ∨ (j = a ∧ y = z) }
structure Cs.Eq (C C' : Cs) : Prop where
 e : ∀ i z, C.e i z ↔ C'.e i z
 b : ∀ i z, C.b i z ↔ C'.b i z
 m : ∀ i z, C.m i z ↔ C'.m i z
 r : ∀ i z, C.r i z ↔ C'.r i z
 l : ∀ i z, C.l i z ↔ C'.l i z
structure Fr (h : Heap) (s : Scaffold) (q ge gb gm gr gh gl : Nat) (ve vb vm vr : List PV) (lh lr : List ((Int × Int) × PV)) (b kh : Nat) (C : Cs) : Prop where
 F : h (31, q) = some (.rows 8 [frow s (fX s.nodes.length ge gb gm gr gh gl)])
 se : h (21, ge) = some (.rows 1 (ve.map cv))
 sb : h (23, gb) = some (.rows 1 (vb.map cv))
 sm : h (25, gm) = some (.rows 1 (vm.map cv))
 sr : h (27, gr) = some (.rows 1 (vr.map cv))
 le : ve.length = s.nodes.length
 lb : vb.length = s.nodes.length
 lm : vm.length = s.nodes.length
 lr_ : vr.length = s.nodes.length
 oe : OA h 78 78 ve b C.e
 ob : OA h 60 60 vb b C.b
 om : OA h 99 117 vm b C.m
 or_ : OA h 137 137 vr b C.r
 hm : MapAt h (28, gh) (zBb kl id lh)
 rm : MapAt h (29, gl) (zBb kl id lr)
 oh : OM h 161 lh b (fun a y => y ∈ hldL s kh a)
 ol : OM h 190 lr b C.l
 hc : HC h s lh kh
def FrI (h : Heap) (s : Scaffold) (q ge gb gm gr gh gl b kh : Nat) (C : Cs) : Prop := ∃ ve vb vm vr lh lr, Fr h s q ge gb gm gr gh gl ve vb vm vr lh lr b kh C
section
variable {C C' : Cs} {xs : List Int} {z : Int} {h h1 h' : Heap} {s : Scaffold} {q ge gb gm gr gh gl : Nat} {ve vb vm vr : List PV} {lh lr : List ((Int × Int) × PV)} {b b' kh : Nat} {d g : Nat} {o : Option PObj}
theorem Fr.keep (hn : Fr h s q ge gb gm gr gh gl ve vb vm vr lh lr b kh C) (hk : ∀ k' : Key, fsB k'.1 = true → h' k' = h k') : Fr h' s q ge gb gm gr gh gl ve vb vm vr lh lr b kh C where
 F := (hk _ rfl).trans hn.F
 se := (hk _ rfl).trans hn.se
 sb := (hk _ rfl).trans hn.sb
 sm := (hk _ rfl).trans hn.sm
 sr := (hk _ rfl).trans hn.sr
 le := hn.le
 lb := hn.lb
 lm := hn.lm
 lr_ := hn.lr_
 oe := hn.oe.keep (fun _ => hk _ rfl) (fun _ => hk _ rfl)
 ob := hn.ob.keep (fun _ => hk _ rfl) (fun _ => hk _ rfl)
 om := hn.om.keep (fun _ => hk _ rfl) (fun _ => hk _ rfl)
 or_ := hn.or_.keep (fun _ => hk _ rfl) (fun _ => hk _ rfl)
 hm := hn.hm.keep (hk _ rfl)
 rm := hn.rm.keep (hk _ rfl)
 oh := hn.oh.keep (fun _ => hk _ rfl) (fun _ => hk _ rfl)
 ol := hn.ol.keep (fun _ => hk _ rfl) (fun _ => hk _ rfl)
 hc := hn.hc.keep (fun _ => hk _ rfl)
theorem Fr.set (hd : fsB d = false) (hn : Fr h s q ge gb gm gr gh gl ve vb vm vr lh lr b kh C) : Fr (hset h (d, g) o) s q ge gb gm gr gh gl ve vb vm vr lh lr b kh C :=
 hn.keep fun k' hk => zAp fun e => by rw [e] at hk; rw [hd] at hk; cases hk
theorem Fr.mono (hn : Fr h s q ge gb gm gr gh gl ve vb vm vr lh lr b kh C) (hb : b ≤ b') : Fr h s q ge gb gm gr gh gl ve vb vm vr lh lr b' kh C where
 F := hn.F
 se := hn.se
 sb := hn.sb
 sm := hn.sm
 sr := hn.sr
 le := hn.le
 lb := hn.lb
 lm := hn.lm
 lr_ := hn.lr_
 oe := hn.oe.mono hb
 ob := hn.ob.mono hb
 om := hn.om.mono hb
 or_ := hn.or_.mono hb
 hm := hn.hm
 rm := hn.rm
 oh := hn.oh.mono hb
 ol := hn.ol.mono hb
 hc := hn.hc
theorem FrI.set (hd : fsB d = false) (hn : FrI h s q ge gb gm gr gh gl b kh C) : FrI (hset h (d, g) o) s q ge gb gm gr gh gl b kh C := by
 obtain ⟨ve, vb, vm, vr, lh, lr, hn⟩ := hn; exact ⟨ve, vb, vm, vr, lh, lr, hn.set hd⟩
theorem FrI.mono (hn : FrI h s q ge gb gm gr gh gl b kh C) (hb : b ≤ b') : FrI h s q ge gb gm gr gh gl b' kh C := by
 obtain ⟨ve, vb, vm, vr, lh, lr, hn⟩ := hn; exact ⟨ve, vb, vm, vr, lh, lr, hn.mono hb⟩
theorem FrI.cong (hn : FrI h s q ge gb gm gr gh gl b kh C) (he : Cs.Eq C C') : FrI h s q ge gb gm gr gh gl b kh C' := by
 obtain ⟨ve, vb, vm, vr, lh, lr, hn⟩ := hn;exact ⟨ve, vb, vm, vr, lh, lr, hn.F, hn.se, hn.sb, hn.sm, hn.sr, hn.le, hn.lb, hn.lm, hn.lr_, hn.oe.cong he.e, hn.ob.cong he.b, hn.om.cong he.m, hn.or_.cong he.r, hn.hm, hn.rm, hn.oh, hn.ol.cong he.l, hn.hc⟩
theorem FrI.skip {m : Member} (hn : FrI h s q ge gb gm gr gh gl b kh C) (hm : s.members[kh]? = some m) (hk : ¬ (m.kind = 9 ∨ m.kind = 8)) : FrI h s q ge gb gm gr gh gl b (kh + 1) C := by
 obtain ⟨ve, vb, vm, vr, lh, lr, hn⟩ := hn;exact ⟨ve, vb, vm, vr, lh, lr, { hn with hc := hn.hc.skip hm hk, oh := hn.oh.cong fun a y => by rw [zMn hm hk] }⟩
variable {i : Nat} {u : PV} {rows : Pv.Rows} {row : List PV} {c : Nat}
def ApK (h h1 : Heap) (d c d1 d2 : Nat) (u : PV) (n : Nat) : Prop := ∀ k' : Key, k' ≠ (d, c) → (∀ g, u = .ref (d1, g) 1 0 n → k' ≠ (d1, g)) → (∀ g, u = .ref (d2, g) 1 0 n → k' ≠ (d2, g)) → h1 k' = h k'
theorem ApK.ne {d c d1 d2 n : Nat} (hk : ApK h h1 d c d1 d2 u n) {e g : Nat} (h0 : Nat.beq e d = false) (hd1 : Nat.beq e d1 = false) (hd2 : Nat.beq e d2 = false) : h1 (e, g) = h (e, g) := hk _ (zAv h0) (fun _ _ => zAv hd1) (fun _ _ => zAv hd2)
theorem Fr.appE (hn : Fr h s q ge gb gm gr gh gl ve vb vm vr lh lr b kh C) (hu : ve[i]? = some u) (hs : zAq h 78 u 1 (xs.map ci) ∨ zAq h 78 u 1 (xs.map ci)) (hb : xs.length ≤ b) (hm0 : ∀ y, y ∈ xs ↔ C.e i y) (hr : h1 (78, c) = some (.rows 1 ((xs.map ci) ++ [ci z]))) (hk : ApK h h1 78 c 78 78 u (xs.map ci).length) (hf : ∀ g o, h (78, g) = some o → g < c) :
   FrI (hset h1 (21, ge) (some (.rows 1 ((ve.set i (.ref (78, c) 1 0 ((xs.map ci).length + 1))).map cv)))) s q ge gb gm gr gh gl (b + 1) kh (C.addE i z) := by
 have hi : i < ve.length := (List.getElem?_eq_some_iff.1 hu).1;have hn2 : OA h1 78 78 (ve.set i (.ref (78, c) 1 0 ((xs.map ci).length + 1))) (b + 1) (C.addE i z).e := OF.app (c := fun _ => c) hn.oe (.inl rfl) hf (.inl hu) hs hb hm0 hr hk (set_F hi);have hkn : ∀ {e g : Nat}, Nat.beq e 78 = false → h1 (e, g) = h (e, g) := fun {e g} h0 => hk.ne h0 h0 h0
 exact ⟨(ve.set i (.ref (78, c) 1 0 ((xs.map ci).length + 1))), vb, vm, vr, lh, lr,
   ⟨(h1_ (hkn rfl)).trans hn.F,
   zBk _ _ _,
   (h1_ (hkn rfl)).trans hn.sb,
   (h1_ (hkn rfl)).trans hn.sm,
   (h1_ (hkn rfl)).trans hn.sr,
   (List.length_set ..).trans hn.le,
   hn.lb,
   hn.lm,
   hn.lr_,
   hn2.keep (fun _ => zAp (zAv rfl)) (fun _ => zAp (zAv rfl)),
   (hn.ob.keep (fun _ => (h1_ (hkn rfl))) (fun _ => (h1_ (hkn rfl)))).mono (Nat.le_succ _),
   (hn.om.keep (fun _ => (h1_ (hkn rfl))) (fun _ => (h1_ (hkn rfl)))).mono (Nat.le_succ _),
   (hn.or_.keep (fun _ => (h1_ (hkn rfl))) (fun _ => (h1_ (hkn rfl)))).mono (Nat.le_succ _),
   hn.hm.keep (h1_ (hkn rfl)),
   hn.rm.keep (h1_ (hkn rfl)),
   (hn.oh.keep (fun _ => (h1_ (hkn rfl))) (fun _ => (h1_ (hkn rfl)))).mono (Nat.le_succ _),
   (hn.ol.keep (fun _ => (h1_ (hkn rfl))) (fun _ => (h1_ (hkn rfl)))).mono (Nat.le_succ _),
   hn.hc.keep (fun _ => (h1_ (hkn rfl)))⟩⟩
theorem Fr.appB (hn : Fr h s q ge gb gm gr gh gl ve vb vm vr lh lr b kh C) (hu : vb[i]? = some u) (hs : zAq h 60 u 1 (xs.map ci) ∨ zAq h 60 u 1 (xs.map ci)) (hb : xs.length ≤ b) (hm0 : ∀ y, y ∈ xs ↔ C.b i y) (hr : h1 (60, c) = some (.rows 1 ((xs.map ci) ++ [ci z]))) (hk : ApK h h1 60 c 60 60 u (xs.map ci).length) (hf : ∀ g o, h (60, g) = some o → g < c) :
   FrI (hset h1 (23, gb) (some (.rows 1 ((vb.set i (.ref (60, c) 1 0 ((xs.map ci).length + 1))).map cv)))) s q ge gb gm gr gh gl (b + 1) kh (C.addB i z) := by
 have hi : i < vb.length := (List.getElem?_eq_some_iff.1 hu).1;have hn2 : OA h1 60 60 (vb.set i (.ref (60, c) 1 0 ((xs.map ci).length + 1))) (b + 1) (C.addB i z).b := OF.app (c := fun _ => c) hn.ob (.inl rfl) hf (.inl hu) hs hb hm0 hr hk (set_F hi);have hkn : ∀ {e g : Nat}, Nat.beq e 60 = false → h1 (e, g) = h (e, g) := fun {e g} h0 => hk.ne h0 h0 h0
 exact ⟨ve, (vb.set i (.ref (60, c) 1 0 ((xs.map ci).length + 1))), vm, vr, lh, lr,
   ⟨(h1_ (hkn rfl)).trans hn.F,
   (h1_ (hkn rfl)).trans hn.se,
   zBk _ _ _,
   (h1_ (hkn rfl)).trans hn.sm,
   (h1_ (hkn rfl)).trans hn.sr,
   hn.le,
   (List.length_set ..).trans hn.lb,
   hn.lm,
   hn.lr_,
   (hn.oe.keep (fun _ => (h1_ (hkn rfl))) (fun _ => (h1_ (hkn rfl)))).mono (Nat.le_succ _),
   hn2.keep (fun _ => zAp (zAv rfl)) (fun _ => zAp (zAv rfl)),
   (hn.om.keep (fun _ => (h1_ (hkn rfl))) (fun _ => (h1_ (hkn rfl)))).mono (Nat.le_succ _),
   (hn.or_.keep (fun _ => (h1_ (hkn rfl))) (fun _ => (h1_ (hkn rfl)))).mono (Nat.le_succ _),
   hn.hm.keep (h1_ (hkn rfl)),
   hn.rm.keep (h1_ (hkn rfl)),
   (hn.oh.keep (fun _ => (h1_ (hkn rfl))) (fun _ => (h1_ (hkn rfl)))).mono (Nat.le_succ _),
   (hn.ol.keep (fun _ => (h1_ (hkn rfl))) (fun _ => (h1_ (hkn rfl)))).mono (Nat.le_succ _),
   hn.hc.keep (fun _ => (h1_ (hkn rfl)))⟩⟩
theorem Fr.appM (hn : Fr h s q ge gb gm gr gh gl ve vb vm vr lh lr b kh C) (hd : d = 99 ∨ d = 117) (hu : vm[i]? = some u) (hs : zAq h 99 u 1 (xs.map ci) ∨ zAq h 117 u 1 (xs.map ci)) (hb : xs.length ≤ b) (hm0 : ∀ y, y ∈ xs ↔ C.m i y) (hr : h1 (d, c) = some (.rows 1 ((xs.map ci) ++ [ci z]))) (hk : ApK h h1 d c 99 117 u (xs.map ci).length) (hf : ∀ g o, h (d, g) = some o → g < c) :
   FrI (hset h1 (25, gm) (some (.rows 1 ((vm.set i (.ref (d, c) 1 0 ((xs.map ci).length + 1))).map cv)))) s q ge gb gm gr gh gl (b + 1) kh (C.addM i z) := by
 have hi : i < vm.length := (List.getElem?_eq_some_iff.1 hu).1;have hn2 : OA h1 99 117 (vm.set i (.ref (d, c) 1 0 ((xs.map ci).length + 1))) (b + 1) (C.addM i z).m := OF.app (c := fun _ => c) hn.om hd hf (.inl hu) hs hb hm0 hr hk (set_F hi)
 have hkn : ∀ {e g : Nat}, (Nat.beq e 99 || Nat.beq e 117) = false → h1 (e, g) = h (e, g) := fun {e g} h0 => by
   rw [Bool.or_eq_false_iff] at h0;rcases hd with rfl | rfl
   · exact hk.ne h0.1 h0.1 h0.2
   · exact hk.ne h0.2 h0.1 h0.2
 exact ⟨ve, vb, (vm.set i (.ref (d, c) 1 0 ((xs.map ci).length + 1))), vr, lh, lr,
   ⟨(h1_ (hkn rfl)).trans hn.F,
   (h1_ (hkn rfl)).trans hn.se,
   (h1_ (hkn rfl)).trans hn.sb,
   zBk _ _ _,
   (h1_ (hkn rfl)).trans hn.sr,
   hn.le,
   hn.lb,
   (List.length_set ..).trans hn.lm,
   hn.lr_,
   (hn.oe.keep (fun _ => (h1_ (hkn rfl))) (fun _ => (h1_ (hkn rfl)))).mono (Nat.le_succ _),
   (hn.ob.keep (fun _ => (h1_ (hkn rfl))) (fun _ => (h1_ (hkn rfl)))).mono (Nat.le_succ _),
   hn2.keep (fun _ => zAp (zAv rfl)) (fun _ => zAp (zAv rfl)),
   (hn.or_.keep (fun _ => (h1_ (hkn rfl))) (fun _ => (h1_ (hkn rfl)))).mono (Nat.le_succ _),
   hn.hm.keep (h1_ (hkn rfl)),
   hn.rm.keep (h1_ (hkn rfl)),
   (hn.oh.keep (fun _ => (h1_ (hkn rfl))) (fun _ => (h1_ (hkn rfl)))).mono (Nat.le_succ _),
   (hn.ol.keep (fun _ => (h1_ (hkn rfl))) (fun _ => (h1_ (hkn rfl)))).mono (Nat.le_succ _),
   hn.hc.keep (fun _ => (h1_ (hkn rfl)))⟩⟩
theorem Fr.appR (hn : Fr h s q ge gb gm gr gh gl ve vb vm vr lh lr b kh C) (hu : vr[i]? = some u) (hs : zAq h 137 u 1 (xs.map ci) ∨ zAq h 137 u 1 (xs.map ci)) (hb : xs.length ≤ b) (hm0 : ∀ y, y ∈ xs ↔ C.r i y) (hr : h1 (137, c) = some (.rows 1 ((xs.map ci) ++ [ci z]))) (hk : ApK h h1 137 c 137 137 u (xs.map ci).length) (hf : ∀ g o, h (137, g) = some o → g < c) :
   FrI (hset h1 (27, gr) (some (.rows 1 ((vr.set i (.ref (137, c) 1 0 ((xs.map ci).length + 1))).map cv)))) s q ge gb gm gr gh gl (b + 1) kh (C.addR i z) := by
 have hi : i < vr.length := (List.getElem?_eq_some_iff.1 hu).1;have hn2 : OA h1 137 137 (vr.set i (.ref (137, c) 1 0 ((xs.map ci).length + 1))) (b + 1) (C.addR i z).r := OF.app (c := fun _ => c) hn.or_ (.inl rfl) hf (.inl hu) hs hb hm0 hr hk (set_F hi);have hkn : ∀ {e g : Nat}, Nat.beq e 137 = false → h1 (e, g) = h (e, g) := fun {e g} h0 => hk.ne h0 h0 h0
 exact ⟨ve, vb, vm, (vr.set i (.ref (137, c) 1 0 ((xs.map ci).length + 1))), lh, lr,
   ⟨(h1_ (hkn rfl)).trans hn.F,
   (h1_ (hkn rfl)).trans hn.se,
   (h1_ (hkn rfl)).trans hn.sb,
   (h1_ (hkn rfl)).trans hn.sm,
   zBk _ _ _,
   hn.le,
   hn.lb,
   hn.lm,
   (List.length_set ..).trans hn.lr_,
   (hn.oe.keep (fun _ => (h1_ (hkn rfl))) (fun _ => (h1_ (hkn rfl)))).mono (Nat.le_succ _),
   (hn.ob.keep (fun _ => (h1_ (hkn rfl))) (fun _ => (h1_ (hkn rfl)))).mono (Nat.le_succ _),
   (hn.om.keep (fun _ => (h1_ (hkn rfl))) (fun _ => (h1_ (hkn rfl)))).mono (Nat.le_succ _),
   hn2.keep (fun _ => zAp (zAv rfl)) (fun _ => zAp (zAv rfl)),
   hn.hm.keep (h1_ (hkn rfl)),
   hn.rm.keep (h1_ (hkn rfl)),
   (hn.oh.keep (fun _ => (h1_ (hkn rfl))) (fun _ => (h1_ (hkn rfl)))).mono (Nat.le_succ _),
   (hn.ol.keep (fun _ => (h1_ (hkn rfl))) (fun _ => (h1_ (hkn rfl)))).mono (Nat.le_succ _),
   hn.hc.keep (fun _ => (h1_ (hkn rfl)))⟩⟩
theorem Fr.appH {m : Member} (hn : Fr h s q ge gb gm gr gh gl ve vb vm vr lh lr b kh C) (hm : s.members[kh]? = some m) (hkd : m.kind = 9 ∨ m.kind = 8) (hb : kh ≤ b) (hr : h1 (161, c) = some (.rows 1 ((hldL s kh (lnA s m.a)).map ci ++ [ci (kh : Int)]))) (hk : ApK h h1 161 c 161 161 ((aGet (lnA s m.a) lh).getD .nil) ((hldL s kh (lnA s m.a)).map ci).length) (hf : ∀ g o, h (161, g) = some o → g < c) :
   FrI (hset h1 (28, gh) (some (mSet (h1 (28, gh)) (kl (lnA s m.a)) (.ref (161, c) 1 0 (((hldL s kh (lnA s m.a)).map ci).length + 1))))) s q ge gb gm gr gh gl (b + 1) (kh + 1) C := by
 have hs := hn.hc (lnA s m.a);have hl := zGP (s := s) (k := kh) (a := lnA s m.a);have hv2 : (fun a : Int × Int => aGet a lh) (lnA s m.a) = some ((aGet (lnA s m.a) lh).getD .nil) ∨ (aGet (lnA s m.a) lh).getD .nil = .nil := by cases q : aGet (lnA s m.a) lh <;> simp [q]
 have hn2 : OM h1 161 (aSet (lnA s m.a) (.ref (161, c) 1 0 (((hldL s kh (lnA s m.a)).map ci).length + 1)) lh) (b + 1) (fun a y => y ∈ hldL s (kh + 1) a) := (OF.app (c := fun _ => c) hn.oh (.inl rfl) hf hv2 (.inl hs) (by omega) (fun _ => Iff.rfl) hr hk (fun j => zDg ..)).cong fun a y => by
   by_cases ha : a = lnA s m.a
   · subst ha; rw [zMl hm hkd, List.mem_append, List.mem_singleton]; simp
   · rw [zMm hm ha]; simp [ha]
 have hc2 : HC h1 s (aSet (lnA s m.a) (.ref (161, c) 1 0 (((hldL s kh (lnA s m.a)).map ci).length + 1)) lh) (kh + 1) := HC.app (c := fun _ => c) hn.hc hn.oh hf hm hkd rfl hr (fun k' q1 q2 => hk k' q1 q2 q2);have hkn : ∀ {e g : Nat}, Nat.beq e 161 = false → h1 (e, g) = h (e, g) := fun {e g} h0 => hk.ne h0 h0 h0
 exact ⟨ve, vb, vm, vr, (aSet (lnA s m.a) (.ref (161, c) 1 0 (((hldL s kh (lnA s m.a)).map ci).length + 1)) lh), lr,
   ⟨(h1_ (hkn rfl)).trans hn.F,
   (h1_ (hkn rfl)).trans hn.se,
   (h1_ (hkn rfl)).trans hn.sb,
   (h1_ (hkn rfl)).trans hn.sm,
   (h1_ (hkn rfl)).trans hn.sr,
   hn.le,
   hn.lb,
   hn.lm,
   hn.lr_,
   (hn.oe.keep (fun _ => (h1_ (hkn rfl))) (fun _ => (h1_ (hkn rfl)))).mono (Nat.le_succ _),
   (hn.ob.keep (fun _ => (h1_ (hkn rfl))) (fun _ => (h1_ (hkn rfl)))).mono (Nat.le_succ _),
   (hn.om.keep (fun _ => (h1_ (hkn rfl))) (fun _ => (h1_ (hkn rfl)))).mono (Nat.le_succ _),
   (hn.or_.keep (fun _ => (h1_ (hkn rfl))) (fun _ => (h1_ (hkn rfl)))).mono (Nat.le_succ _),
   MapAt.set kl_eq (hn.hm.keep (hkn rfl)) _ _,
   hn.rm.keep (h1_ (hkn rfl)),
   hn2.keep (fun _ => zAp (zAv rfl)) (fun _ => zAp (zAv rfl)),
   (hn.ol.keep (fun _ => (h1_ (hkn rfl))) (fun _ => (h1_ (hkn rfl)))).mono (Nat.le_succ _),
   hc2.keep (fun _ => zAp (zAv rfl))⟩⟩
theorem Fr.appL {a : Int × Int} (hn : Fr h s q ge gb gm gr gh gl ve vb vm vr lh lr b kh C) (hu : aGet a lr = some u ∨ u = .nil) (hs : zAq h 190 u 1 (xs.map ci) ∨ zAq h 190 u 1 (xs.map ci)) (hb : xs.length ≤ b) (hm0 : ∀ y, y ∈ xs ↔ C.l a y) (hr : h1 (190, c) = some (.rows 1 ((xs.map ci) ++ [ci z]))) (hk : ApK h h1 190 c 190 190 u (xs.map ci).length) (hf : ∀ g o, h (190, g) = some o → g < c) :
   FrI (hset h1 (29, gl) (some (mSet (h1 (29, gl)) (kl a) (.ref (190, c) 1 0 ((xs.map ci).length + 1))))) s q ge gb gm gr gh gl (b + 1) kh (C.addL a z) := by
 have hn2 : OM h1 190 (aSet a (.ref (190, c) 1 0 ((xs.map ci).length + 1)) lr) (b + 1) (C.addL a z).l := OF.app (c := fun _ => c) hn.ol (.inl rfl) hf hu hs hb hm0 hr hk (fun j => zDg ..);have hkn : ∀ {e g : Nat}, Nat.beq e 190 = false → h1 (e, g) = h (e, g) := fun {e g} h0 => hk.ne h0 h0 h0
 exact ⟨ve, vb, vm, vr, lh, (aSet a (.ref (190, c) 1 0 ((xs.map ci).length + 1)) lr),
   ⟨(h1_ (hkn rfl)).trans hn.F,
   (h1_ (hkn rfl)).trans hn.se,
   (h1_ (hkn rfl)).trans hn.sb,
   (h1_ (hkn rfl)).trans hn.sm,
   (h1_ (hkn rfl)).trans hn.sr,
   hn.le,
   hn.lb,
   hn.lm,
   hn.lr_,
   (hn.oe.keep (fun _ => (h1_ (hkn rfl))) (fun _ => (h1_ (hkn rfl)))).mono (Nat.le_succ _),
   (hn.ob.keep (fun _ => (h1_ (hkn rfl))) (fun _ => (h1_ (hkn rfl)))).mono (Nat.le_succ _),
   (hn.om.keep (fun _ => (h1_ (hkn rfl))) (fun _ => (h1_ (hkn rfl)))).mono (Nat.le_succ _),
   (hn.or_.keep (fun _ => (h1_ (hkn rfl))) (fun _ => (h1_ (hkn rfl)))).mono (Nat.le_succ _),
   hn.hm.keep (h1_ (hkn rfl)),
   MapAt.set kl_eq (hn.rm.keep (hkn rfl)) _ _,
   (hn.oh.keep (fun _ => (h1_ (hkn rfl))) (fun _ => (h1_ (hkn rfl)))).mono (Nat.le_succ _),
   hn2.keep (fun _ => zAp (zAv rfl)) (fun _ => zAp (zAv rfl)),
   hn.hc.keep (fun _ => (h1_ (hkn rfl)))⟩⟩
end
theorem Fr.new {h : Heap} {s : Scaffold} {q ge gb gm gr gh gl : Nat} (hF : h (31, q) = some (.rows 8 [frow s (fX s.nodes.length ge gb gm gr gh gl)]))
   (h1 : h (21, ge) = some (.rows 1 ((List.replicate s.nodes.length PV.nil).map cv))) (h2 : h (23, gb) = some (.rows 1 ((List.replicate s.nodes.length PV.nil).map cv))) (h3 : h (25, gm) = some (.rows 1 ((List.replicate s.nodes.length PV.nil).map cv))) (h4 : h (27, gr) = some (.rows 1 ((List.replicate s.nodes.length PV.nil).map cv)))
   (h5 : h (28, gh) = some (.map [] [] 0)) (h6 : h (29, gl) = some (.map [] [] 0)) : FrI h s q ge gb gm gr gh gl 0 0 Cs.zero :=
 ⟨_, _, _, _, [], [], hF, h1, h2, h3, h4, List.length_replicate .., List.length_replicate .., List.length_replicate .., List.length_replicate .., OA.zero, OA.zero, OA.zero, OA.zero, ⟨[], 0, h5, rfl, List.nodup_nil, by simp⟩, ⟨[], 0, h6, rfl, List.nodup_nil, by simp⟩, OM.zero.cong (fun a y => by simp [hldL]), OM.zero, HC.zero⟩
theorem zDj {s : Scaffold} {k : Nat} {m : Member} (hs : scfE s = 0) (hm : s.members[k]? = some m) : (0 ≤ m.a ∧ m.a < (s.nodes.length : Int)) ∧ (0 ≤ m.b ∧ m.b < (s.nodes.length : Int)) := by
 by_cases h1 : 1000 < s.nodes.length ∨ 4000 < s.members.length
 · rw [← zJr h1] at hs; cases hs
 by_cases h2 : frsF (nodE s.nodes) 0 s.nodes = 0
 · rw [← zEE h1 h2 rfl] at hs;have h3 := zIO (E := memE s) _ _ hs k m hm;by_cases h4 : 0 ≤ m.kind ∧ m.kind ≤ 9
   · by_cases h5 : (0 ≤ m.a ∧ m.a < (s.nodes.length : Int)) ∧ (0 ≤ m.b ∧ m.b < (s.nodes.length : Int))
     · exact h5
     · rw [zJM h4 h5] at h3; cases h3
   · rw [zLH h4] at h3; cases h3
 · rw [← zHN h1 rfl h2] at hs; exact absurd hs h2
end Go.Proofs.YtnbcmoaofmkjhaaGreatDoor.E7
