import Derived.Test.YtjmjiegplnfiiaaSfB
import Derived.Test.YtjmjiegplnfiiaaPvGh
/- Families of own slices, and what is told of the frame of a scaffold: plain laws. No conditions. -/
set_option linter.unusedSimpArgs false
set_option linter.unusedVariables false
namespace Go.Proofs.Ytjmjiegplnfiiaa
open Go Go.Pv

/-! ### Families of own slices -/
/-- Own slices, each of its own block, made at one of two places of the text. -/
structure OF {ι : Type} (h : Heap) (d1 d2 : Nat) (F : ι → Option PV) (b : Nat) : Prop where
 at_ : ∀ (i : ι) (v : PV), F i = some v → ∃ rows : Pv.Rows, (SliceAt h d1 v 1 rows ∨ SliceAt h d2 v 1 rows) ∧ rows.length ≤ b
 one : ∀ (i j : ι) (v : PV), F i = some v → F j = some v → v ≠ .nil → i = j
section
variable {ι : Type} {h h' : Heap} {c : Nat → Nat} {d d1 d2 : Nat} {F F' : ι → Option PV} {b : Nat} {v w : PV} {rows rows2 : Pv.Rows} {i j : ι}
theorem sl_key {k : Key} {sz n : Nat} (hs : SliceAt h d1 v 1 rows ∨ SliceAt h d2 v 1 rows) (he : v = .ref k sz 0 n) : h k = some (.rows 1 rows) ∧ n = rows.length ∧ sz = 1 ∧ (k.1 = d1 ∨ k.1 = d2) := by
 subst he
 rcases hs with hs | hs <;> rcases hs with ⟨_, h1⟩ | ⟨g, h1, h2⟩
 · cases h1
 · cases h1; exact ⟨h2, rfl, rfl, .inl rfl⟩
 · cases h1
 · cases h1; exact ⟨h2, rfl, rfl, .inr rfl⟩
theorem OF.keep (hn : OF h d1 d2 F b) (h1 : ∀ g, h' (d1, g) = h (d1, g)) (h2 : ∀ g, h' (d2, g) = h (d2, g)) : OF h' d1 d2 F b :=
 ⟨fun i v hv => by obtain ⟨rows, g1, g2⟩ := hn.at_ i v hv; exact ⟨rows, g1.imp (·.keep h1) (·.keep h2), g2⟩, hn.one⟩
theorem OF.mono {b' : Nat} (hn : OF h d1 d2 F b) (hb : b ≤ b') : OF h d1 d2 F b' :=
 ⟨fun i v hv => by obtain ⟨rows, g1, g2⟩ := hn.at_ i v hv; exact ⟨rows, g1, Nat.le_trans g2 hb⟩, hn.one⟩
/-- The key of another slice of the family is neither the new one nor that of the one that goes. -/
theorem OF.other (hn : OF h d1 d2 F b) (hd : d = d1 ∨ d = d2) (hf : Fresh h c d) (hv : F i = some v ∨ v = .nil) (hs : SliceAt h d1 v 1 rows ∨ SliceAt h d2 v 1 rows)
   (hk : ∀ k' : Key, k' ≠ (d, c d) → (∀ g, v = .ref (d1, g) 1 0 rows.length → k' ≠ (d1, g)) → (∀ g, v = .ref (d2, g) 1 0 rows.length → k' ≠ (d2, g)) → h' k' = h k')
   (hj : j ≠ i) (hw : F j = some w) {k : Key} {n : Nat} (he : w = .ref k 1 0 n) : h' k = h k := by
 obtain ⟨rows3, g1, _⟩ := hn.at_ j w hw
 obtain ⟨g2, g3, _, _⟩ := sl_key g1 he
 have main : ∀ dd g, v = .ref (dd, g) 1 0 rows.length → k ≠ (dd, g) := fun dd g hvv hkk => by
   subst hkk
   obtain ⟨g5, g6, _, _⟩ := sl_key hs hvv
   rw [g2] at g5
   have hr : rows3 = rows := by simpa using g5
   have hwv : w = v := by rw [he, hvv, g3, hr]
   rcases hv with hv | hv
   · exact hj (hn.one j i w hw (by rw [hv, hwv]) (by rw [he]; intro q; cases q))
   · rw [hvv] at hv; cases hv
 refine hk k (fun q => ?_) (main d1) (main d2)
 subst q
 exact absurd (hf (c d) _ g2) (Nat.lt_irrefl _)
theorem OF.far (hn : OF h d1 d2 F b) (hd : d = d1 ∨ d = d2) (hf : Fresh h c d) (hv : F i = some v ∨ v = .nil) (hs : SliceAt h d1 v 1 rows ∨ SliceAt h d2 v 1 rows)
   (hk : ∀ k' : Key, k' ≠ (d, c d) → (∀ g, v = .ref (d1, g) 1 0 rows.length → k' ≠ (d1, g)) → (∀ g, v = .ref (d2, g) 1 0 rows.length → k' ≠ (d2, g)) → h' k' = h k')
   (hj : j ≠ i) (hw : F j = some w) {dx : Nat} (hx : SliceAt h dx w 1 rows2) : SliceAt h' dx w 1 rows2 := by
 rcases hx with hx | ⟨g, h1, h2⟩
 · exact .inl hx
 · exact .inr ⟨g, h1, (hn.other hd hf hv hs hk hj hw h1).trans h2⟩
theorem OF.app [DecidableEq ι] (hn : OF h d1 d2 F b) (hd : d = d1 ∨ d = d2) (hf : Fresh h c d) (hv : F i = some v ∨ v = .nil) (hs : SliceAt h d1 v 1 rows ∨ SliceAt h d2 v 1 rows) (hb : rows.length ≤ b) {row : List PV} (hr : h' (d, c d) = some (.rows 1 (rows ++ [row])))
   (hk : ∀ k' : Key, k' ≠ (d, c d) → (∀ g, v = .ref (d1, g) 1 0 rows.length → k' ≠ (d1, g)) → (∀ g, v = .ref (d2, g) 1 0 rows.length → k' ≠ (d2, g)) → h' k' = h k')
   (hF : ∀ j, F' j = if j = i then some (.ref (d, c d) 1 0 (rows.length + 1)) else F j) : OF h' d1 d2 F' (b + 1) := by
 have hnew : ∀ w j, j ≠ i → F j = some w → w ≠ .ref (d, c d) 1 0 (rows.length + 1) := fun w j hj hw he => by
   obtain ⟨rows3, g1, _⟩ := hn.at_ j w hw
   exact absurd (hf (c d) _ (sl_key g1 he).1) (Nat.lt_irrefl _)
 refine ⟨fun j w hw => ?_, fun j k w h1 h2 h3 => ?_⟩
 · rw [hF] at hw
   by_cases hj : j = i
   · rw [if_pos hj] at hw
     cases hw
     have hl : (rows ++ [row]).length = rows.length + 1 := by simp
     refine ⟨rows ++ [row], ?_, by rw [hl]; omega⟩
     rcases hd with rfl | rfl
     · exact .inl (.inr ⟨_, by rw [hl], hr⟩)
     · exact .inr (.inr ⟨_, by rw [hl], hr⟩)
   · rw [if_neg hj] at hw
     obtain ⟨rows3, g1, g2⟩ := hn.at_ j w hw
     exact ⟨rows3, g1.imp (hn.far hd hf hv hs hk hj hw) (hn.far hd hf hv hs hk hj hw), by omega⟩
 · rw [hF] at h1 h2
   by_cases hj : j = i
   · by_cases hk2 : k = i
     · rw [hj, hk2]
     · rw [if_pos hj] at h1; rw [if_neg hk2] at h2
       cases h1; exact absurd rfl (hnew _ k hk2 h2)
   · rw [if_neg hj] at h1
     by_cases hk2 : k = i
     · rw [if_pos hk2] at h2
       cases h2; exact absurd rfl (hnew _ j hj h1)
     · rw [if_neg hk2] at h2
       exact hn.one j k w h1 h2 h3
end
abbrev OA (h : Heap) (d1 d2 : Nat) (vs : List PV) (b : Nat) : Prop := OF h d1 d2 (fun i : Nat => vs[i]?) b
abbrev OM (h : Heap) (d : Nat) (l : List ((Int × Int) × PV)) (b : Nat) : Prop := OF h d d (fun a : Int × Int => aGet a l) b
theorem OA.zero {h : Heap} {d1 d2 n b : Nat} : OA h d1 d2 (List.replicate n .nil) b := by
 refine ⟨fun i v hv => ?_, fun i j v h1 h2 h3 => ?_⟩
 · rw [List.getElem?_replicate] at hv
   split at hv
   · cases hv; exact ⟨[], .inl .nil, Nat.zero_le _⟩
   · cases hv
 · rw [List.getElem?_replicate] at h1
   split at h1
   · cases h1; exact absurd rfl h3
   · cases h1
theorem OM.zero {h : Heap} {d b : Nat} : OM h d [] b := ⟨fun i v hv => by simp [aGet] at hv, fun i j v h1 => by simp [aGet] at h1⟩
theorem set_F {vs : List PV} {i : Nat} {w : PV} (hi : i < vs.length) (j : Nat) : (vs.set i w)[j]? = if j = i then some w else vs[j]? := by
 rw [List.getElem?_set]
 by_cases e : i = j
 · subst e; rw [if_pos rfl, if_pos hi, if_pos rfl]
 · rw [if_neg e, if_neg (fun q => e q.symm)]

/-! ### Lines, heights, and what holds -/
def kl (l : Int × Int) : PV := .agg [.int l.1, .int l.2]
theorem kl_eq (a b : Int × Int) : keyEq (kl a) (kl b) = decide (a = b) := by
 show scsEq [.int a.1, .int a.2] [.int b.1, .int b.2] = _
 rw [Bool.eq_iff_iff]
 cases a; cases b
 simp [scsEq, scEq]
theorem kl_ok (a : Int × Int) : keyOk Try.prog 161 (kl a) := by
 show keyAgg Try.prog 161 [.int a.1, .int a.2] = true
 kernel_rfl
def lnA (s : Scaffold) (z : Int) : Int × Int := ((s.nodes.getD z.toNat default).px, (s.nodes.getD z.toNat default).py)
def zA (s : Scaffold) (z : Int) : Int := (s.nodes.getD z.toNat default).pz
def hldB (s : Scaffold) (a : Int × Int) (i : Nat) : Bool := decide (((s.members.getD i default).kind = 9 ∨ (s.members.getD i default).kind = 8) ∧ lnA s (s.members.getD i default).a = a)
def hldL (s : Scaffold) (k : Nat) (a : Int × Int) : List Int := ((List.range k).filter (hldB s a)).map fun i : Nat => (i : Int)
theorem hldL_succ {s : Scaffold} {k : Nat} {a : Int × Int} : hldL s (k + 1) a = hldL s k a ++ if hldB s a k = true then [(k : Int)] else [] := by
 rw [hldL, List.range_succ, List.filter_append, List.map_append, List.filter_cons]
 split <;> simp [hldL]
theorem hldL_len {s : Scaffold} {k : Nat} {a : Int × Int} : (hldL s k a).length ≤ k := by
 rw [hldL, List.length_map]
 exact Nat.le_trans (List.length_filter_le _ _) (by simp)
theorem mem_at {s : Scaffold} {k : Nat} {m : Member} (hm : s.members[k]? = some m) : s.members.getD k default = m := by rw [List.getD_eq_getElem?_getD, hm]; rfl
theorem hldL_t {s : Scaffold} {k : Nat} {m : Member} (hm : s.members[k]? = some m) (hk : m.kind = 9 ∨ m.kind = 8) : hldL s (k + 1) (lnA s m.a) = hldL s k (lnA s m.a) ++ [(k : Int)] := by
 rw [hldL_succ, if_pos]
 rw [hldB, mem_at hm]; exact decide_eq_true ⟨hk, rfl⟩
theorem hldL_o {s : Scaffold} {k : Nat} {m : Member} {a : Int × Int} (hm : s.members[k]? = some m) (ha : a ≠ lnA s m.a) : hldL s (k + 1) a = hldL s k a := by
 rw [hldL_succ, if_neg, List.append_nil]
 rw [hldB, mem_at hm, decide_eq_true_eq]
 exact fun q => ha q.2.symm
theorem hldL_f {s : Scaffold} {k : Nat} {m : Member} {a : Int × Int} (hm : s.members[k]? = some m) (hk : ¬ (m.kind = 9 ∨ m.kind = 8)) : hldL s (k + 1) a = hldL s k a := by
 rw [hldL_succ, if_neg, List.append_nil]
 rw [hldB, mem_at hm, decide_eq_true_eq]
 exact fun q => hk q.1
/-- What the map of what holds holds. -/
def HC (h : Heap) (s : Scaffold) (l : List ((Int × Int) × PV)) (k : Nat) : Prop := ∀ a, SliceAt h 161 ((aGet a l).getD .nil) 1 ((hldL s k a).map ci)
theorem HC.zero {h : Heap} {s : Scaffold} : HC h s [] 0 := fun a => by simp [aGet, hldL]; exact .nil
theorem HC.keep {h h' : Heap} {s : Scaffold} {l : List ((Int × Int) × PV)} {k : Nat} (hn : HC h s l k) (hk : ∀ g, h' (161, g) = h (161, g)) : HC h' s l k := fun a => (hn a).keep hk
theorem HC.skip {h : Heap} {s : Scaffold} {l : List ((Int × Int) × PV)} {k : Nat} {m : Member} (hn : HC h s l k) (hm : s.members[k]? = some m) (hk : ¬ (m.kind = 9 ∨ m.kind = 8)) : HC h s l (k + 1) := fun a => by
 rw [hldL_f hm hk]; exact hn a
theorem HC.app {h h' : Heap} {c : Nat → Nat} {s : Scaffold} {l : List ((Int × Int) × PV)} {k b : Nat} {m : Member} {v : PV} (hn : HC h s l k) (ho : OM h 161 l b) (hf : Fresh h c 161) (hm : s.members[k]? = some m) (hkd : m.kind = 9 ∨ m.kind = 8) (hv : v = (aGet (lnA s m.a) l).getD .nil)
   (hr : h' (161, c 161) = some (.rows 1 ((hldL s k (lnA s m.a)).map ci ++ [ci (k : Int)])))
   (hk : ∀ k' : Key, k' ≠ (161, c 161) → (∀ g, v = .ref (161, g) 1 0 ((hldL s k (lnA s m.a)).map ci).length → k' ≠ (161, g)) → h' k' = h k') : HC h' s (aSet (lnA s m.a) (.ref (161, c 161) 1 0 (((hldL s k (lnA s m.a)).map ci).length + 1)) l) (k + 1) := fun a => by
 rw [aGet_aSet]
 by_cases e : a = lnA s m.a
 · subst e
   rw [if_pos rfl, hldL_t hm hkd]
   exact .inr ⟨c 161, by simp, by rw [hr, List.map_append]; rfl⟩
 · rw [if_neg e, hldL_o hm e]
   cases hw : aGet a l with
   | none => have := hn a; rw [hw] at this; rcases this with h1 | ⟨g, h1, _⟩
             · exact .inl h1
             · cases h1
   | some w =>
     have h1 := hn a
     rw [hw] at h1
     have hs := hn (lnA s m.a)
     rw [← hv] at hs
     have hv2 : (fun a : Int × Int => aGet a l) (lnA s m.a) = some v ∨ v = .nil := by
       cases q : aGet (lnA s m.a) l with
       | none => rw [q] at hv; exact .inr hv
       | some u => rw [q] at hv; exact .inl (by rw [hv]; exact q)
     exact ho.far (d := 161) (.inl rfl) hf hv2 (.inl hs) (fun k' g1 g2 _ => hk k' g1 g2) e hw h1
end Go.Proofs.Ytjmjiegplnfiiaa

/- Lines and heights of a frame. No conditions. -/
set_option linter.unusedSimpArgs false
set_option linter.unusedVariables false
set_option maxRecDepth 100000
namespace Go.Proofs.Ytjmjiegplnfiiaa
open Go Go.Pv
abbrev plF : List (Nat × Nat × Bool) := [(0, 2, true), (2, 1, false), (3, 1, false), (4, 1, false), (5, 1, false), (6, 1, false), (7, 1, false)]
theorem node_at {s : Scaffold} {z : Int} {n : Node} (hn : s.nodes[z.toNat]? = some n) : s.nodes.getD z.toNat default = n := by rw [List.getD_eq_getElem?_getD, hn]; rfl
theorem lnA_at {s : Scaffold} {z : Int} {n : Node} (hn : s.nodes[z.toNat]? = some n) : lnA s z = (n.px, n.py) := by rw [lnA, node_at hn]
theorem zA_at {s : Scaffold} {z : Int} {n : Node} (hn : s.nodes[z.toNat]? = some n) : zA s z = n.pz := by rw [zA, node_at hn]
def frow (s : Scaffold) (X : List PV) : List PV := .lit true 3 (s.nodes.map Node.enc) :: .lit true 3 (s.members.map Member.enc) :: X
section
variable {P : Program} {K : PS → Prop} {d : Nat} {op : Op} {ty t : TypeId} {pos : String} {aft : Array Edge} {rest : List Oper} {r : Nat → PV} {h : Heap} {cnt : Nat → Nat} {ops : Array Oper} {i : Nat} {G : Nat → Bool} {dd : Bool} {x y : Operand}
/-- A drawn append, told in full, to a slice that was made at one of two places. -/
theorem s_appK2 {ts : Array TypeId} {t2 : TypeId} {u u2 : PV} {sz d1 d2 : Nat} {rows rows2 : Pv.Rows} {tl : List Ft} {ds : List Nat} (rs ws : List Nat) (hr1 : d1 ∈ rs ∧ d2 ∈ rs) (hr2 : ∀ z ∈ ds, z ∈ rs) (hw1 : (d1 ∈ ws ∧ d2 ∈ ws) ∧ d ∈ ws) (hts : ts.toList = [t, t2]) (hx : ev r x = u) (hy : ev r y = u2) (hs : SliceAt h d1 u sz rows ∨ SliceAt h d2 u sz rows) (hsr : SrcAt h ds sz u2 rows2)
   (hv : validB r G (.call { callee := .builtin .append, args := #[x, y], argTypes := ts }) = true)
   (hok : (sliceOk P t && (decide (P.bytesOf (elemTy P t) < 2 ^ 15) && (decide (intKind P t2 = none) && (zeroOk P (elemTy P t) && ((P.underlying t2).isSome && decide (tySize P (elemTy P t) = sz)))))) = true) (hlen : rows.length + rows2.length < 2 ^ 32) (hne : rows2 ≠ [])
   (hk : ∀ h', h' (d, cnt d) = some (.rows sz (rows ++ rows2)) → (∀ k' : Key, k' ≠ (d, cnt d) → (∀ g, u = .ref (d1, g) sz 0 rows.length → k' ≠ (d1, g)) → (∀ g, u = .ref (d2, g) sz 0 rows.length → k' ≠ (d2, g)) → h' k' = h k') → sRun P ops dd K rest (i + 1) ⟨setT r d (.ref (d, cnt d) sz 0 (rows.length + rows2.length)), h', cset cnt d⟩ (setB G d true) (tl ++ [⟨i, rs, ws⟩])) :
   sRun P ops dd K (⟨some d, .call { callee := .builtin .append, args := #[x, y], argTypes := ts }, ty, pos, aft, none⟩ :: rest) i ⟨r, h, cnt⟩ G tl := by
 rcases hs with hs | hs
 · exact s_appK rs ws hr1.1 hr2 ⟨hw1.1.1, hw1.2⟩ hts hx hy hs hsr hv hok hlen hne fun h' g1 g2 => hk h' g1 fun k' q1 q2 _ => g2 k' q1 q2
 · exact s_appK rs ws hr1.2 hr2 ⟨hw1.1.2, hw1.2⟩ hts hx hy hs hsr hv hok hlen hne fun h' g1 g2 => hk h' g1 fun k' q1 _ q3 => g2 k' q1 q3
end

theorem frH101 : (inFrame Try.f101.ntmps (Try.f101.body.getD .skip) && Try.f101.results.toList.all (resScope Try.f101.ntmps)) = true := by kernel_rfl
theorem lineH (h0 : Heap) (c0 : Nat → Nat) (s : Scaffold) (q : Nat) (z : Int) (X : List PV) (n : Node) (hF : h0 (31, q) = some (.rows 8 [frow s X])) (hz : 0 ≤ z ∧ z < (s.nodes.length : Int)) (hn : s.nodes[z.toNat]? = some n) : HCallsR Try.prog 101 [.ptr (31, q) 8 0 0, .int z] h0 c0 (fun v h' _ => v = kl (lnA s z) ∧ ∀ k' : Key, k'.2 < c0 k'.1 → h' k' = h0 k') := by
 refine HCallsR.of_code Try.func101 rfl rfl (by kernel_rfl) mixed frH101 (by show _ ≤ 24; simp) ?_
 refine pwp_seq_plain rfl fun K1 hK1 => ?_
 refine p_new rfl (e_alloc (cs := [.int 0, .int 0]) (n := 2) (by kernel_rfl) rfl (by decide)) (ob_alloc (by decide)) ?_
 refine p_end (hK1 _ ?_); clear hK1 K1
 refine pwp_seq_gops rfl fun K2 hK2 => ?_
 refine s_begin ?_
 refine s_e rfl (e_move (v := .ptr _ _ _ _) rfl) ?_
 refine s_e rfl (e_nilc rfl) ?_
 refine s_e rfl (e_faQ [(0, 2, true), (2, 1, false), (3, 1, false), (4, 1, false), (5, 1, false), (6, 1, false), (7, 1, false)] rfl) ?_
 refine s_e rfl (e_faQ pl2 rfl) ?_
 refine s_step [31] (by simp) rfl rfl rfl rfl (e_lH (v := .lit _ _ _) rfl ((hset_ne (key_ne rfl)).trans hF) rfl) trivial ?_
 refine s_e rfl (e_move (v := .sc _) rfl) ?_
 refine s_e rfl (e_ixL rfl rfl) ?_
 refine s_e rfl (e_fb pl3 rfl) ?_
 refine s_e rfl (e_load (v := .sc _) rfl (by kernel_rfl) (by kernel_rfl) (by kernel_rfl) (by first | omega | (simp only [List.length_map]; omega)) (by decide) ((cell_map hn _).trans rfl)) ?_
 refine s_e rfl (e_move (v := .ptr _ _ _ _) rfl) ?_
 refine s_e rfl (e_nilc rfl) ?_
 refine s_e rfl (e_faQ [(0, 2, true), (2, 1, false), (3, 1, false), (4, 1, false), (5, 1, false), (6, 1, false), (7, 1, false)] rfl) ?_
 refine s_e rfl (e_faQ pl2 rfl) ?_
 refine s_step [31] (by simp) rfl rfl rfl rfl (e_lH (v := .lit _ _ _) rfl ((hset_ne (key_ne rfl)).trans hF) rfl) trivial ?_
 refine s_e rfl (e_move (v := .sc _) rfl) ?_
 refine s_e rfl (e_ixL rfl rfl) ?_
 refine s_e rfl (e_fb pl3 rfl) ?_
 refine s_e rfl (e_load (v := .sc _) rfl (by kernel_rfl) (by kernel_rfl) (by kernel_rfl) (by first | omega | (simp only [List.length_map]; omega)) (by decide) ((cell_map hn _).trans rfl)) ?_
 refine s_e rfl (e_build (zs := [.int 0, .int 0]) (pl := [(0, 1, false), (1, 1, false)]) (by kernel_rfl) (by kernel_rfl) (by kernel_rfl) rfl rfl (by exact ⟨by decide, rfl, Nat.le_of_ble_eq_true rfl, rfl, ⟨by decide, rfl, Nat.le_of_ble_eq_true rfl, rfl, trivial⟩⟩) rfl) ?_
 refine s_store [4] (by simp) rfl rfl (e_storeA rfl (hset_self _ _ _) rfl rfl rfl (by kernel_rfl) rfl (by kernel_rfl)) trivial ?_
 refine s_end (ds := []) (by kernel_rfl) (by kernel_rfl) (hK2 _ ?_); clear hK2 K2
 refine pwp_ret ?_
 refine endC rfl (hset_self _ _ _) (by kernel_rfl) (by kernel_rfl) (by kernel_rfl) rfl ?_
 exact ⟨by rw [lnA_at hn]; rfl, fun k' hk' => (hset_ne (old_ne hk' rfl)).trans ((hset_ne (old_ne hk' rfl)).trans (rfl))⟩

theorem frH102 : (inFrame Try.f102.ntmps (Try.f102.body.getD .skip) && Try.f102.results.toList.all (resScope Try.f102.ntmps)) = true := by kernel_rfl
theorem zH (h0 : Heap) (c0 : Nat → Nat) (s : Scaffold) (q : Nat) (z : Int) (X : List PV) (n : Node) (hF : h0 (31, q) = some (.rows 8 [frow s X])) (hz : 0 ≤ z ∧ z < (s.nodes.length : Int)) (hn : s.nodes[z.toNat]? = some n) : HCallsR Try.prog 102 [.ptr (31, q) 8 0 0, .int z] h0 c0 (fun v h' _ => v = .int (zA s z) ∧ ∀ k' : Key, k'.2 < c0 k'.1 → h' k' = h0 k') := by
 refine HCallsR.of_code Try.func102 rfl rfl (by kernel_rfl) mixed frH102 (by show _ ≤ 14; simp) ?_
 refine pwp_seq_plain rfl fun K1 hK1 => ?_
 refine p_aS rfl ?_
 refine p_end (hK1 _ ?_); clear hK1 K1
 refine pwp_seq_plain rfl fun K2 hK2 => ?_
 refine p_e rfl (e_move (v := .ptr _ _ _ _) rfl) ?_
 refine p_e rfl (e_nilc rfl) ?_
 refine p_e rfl (e_faQ [(0, 2, true), (2, 1, false), (3, 1, false), (4, 1, false), (5, 1, false), (6, 1, false), (7, 1, false)] rfl) ?_
 refine p_e rfl (e_faQ pl2 rfl) ?_
 refine p_e rfl (e_lH (v := .lit _ _ _) rfl hF rfl) ?_
 refine p_mS rfl ?_
 refine p_e rfl (e_ixL rfl rfl) ?_
 refine p_e rfl (e_fb pl3 rfl) ?_
 refine p_e rfl (e_load (v := .sc _) rfl (by kernel_rfl) (by kernel_rfl) (by kernel_rfl) (by first | omega | (simp only [List.length_map]; omega)) (by decide) ((cell_map hn _).trans rfl)) ?_
 refine p_aS rfl ?_
 refine p_end (hK2 _ ?_); clear hK2 K2
 refine pwp_ret ?_
 refine end1 (v := .sc _) rfl ?_
 exact ⟨by rw [zA_at hn], fun k' hk' => rfl⟩

theorem node_ex {s : Scaffold} {z : Int} (hz : 0 ≤ z ∧ z < (s.nodes.length : Int)) : ∃ n, s.nodes[z.toNat]? = some n := ⟨_, List.getElem?_eq_getElem (by omega)⟩
theorem lineM (h : Heap) (c : Nat → Nat) (s : Scaffold) (q : Nat) (z : Int) (X : List PV) (hF : h (31, q) = some (.rows 8 [frow s X])) (hz : 0 ≤ z ∧ z < (s.nodes.length : Int)) : HCallsR Try.prog 101 [.ptr (31, q) 8 0 0, .int z] h c fun v h2 c2 => v = kl (lnA s z) ∧ h2 = h ∧ c2 = c := by
 obtain ⟨n, hn⟩ := node_ex hz
 exact (lineH h c s q z X n hF hz hn).forget2 (rep_agg2 rfl rfl)
theorem zM (h : Heap) (c : Nat → Nat) (s : Scaffold) (q : Nat) (z : Int) (X : List PV) (hF : h (31, q) = some (.rows 8 [frow s X])) (hz : 0 ≤ z ∧ z < (s.nodes.length : Int)) : HCallsR Try.prog 102 [.ptr (31, q) 8 0 0, .int z] h c fun v h2 c2 => v = .int (zA s z) ∧ h2 = h ∧ c2 = c := by
 obtain ⟨n, hn⟩ := node_ex hz
 exact (zH h c s q z X n hF hz hn).forget2 (rep_sc0 rfl)

end Go.Proofs.Ytjmjiegplnfiiaa

/- The frame of a scaffold while it is read: what is kept, and each step. No conditions. -/
set_option linter.unusedSimpArgs false
set_option linter.unusedVariables false
namespace Go.Proofs.Ytjmjiegplnfiiaa
open Go Go.Pv

def fsB (d : Nat) : Bool := [21, 23, 25, 27, 28, 29, 31, 60, 78, 99, 117, 137, 161, 190].contains d
def fX (n ge gb gm gr gh gl : Nat) : List PV := [.ref (21, ge) 1 0 n, .ref (23, gb) 1 0 n, .ref (25, gm) 1 0 n, .ref (27, gr) 1 0 n, .map (28, gh), .map (29, gl)]
/-- The frame, its lists, its maps: b bounds all lengths, kh tells how far the map of what holds is. -/
structure Fr (h : Heap) (s : Scaffold) (q ge gb gm gr gh gl : Nat) (ve vb vm vr : List PV) (lh lr : List ((Int × Int) × PV)) (b kh : Nat) : Prop where
 F : h (31, q) = some (.rows 8 [frow s (fX s.nodes.length ge gb gm gr gh gl)])
 se : h (21, ge) = some (.rows 1 (ve.map cv))
 sb : h (23, gb) = some (.rows 1 (vb.map cv))
 sm : h (25, gm) = some (.rows 1 (vm.map cv))
 sr : h (27, gr) = some (.rows 1 (vr.map cv))
 le : ve.length = s.nodes.length
 lb : vb.length = s.nodes.length
 lm : vm.length = s.nodes.length
 lr_ : vr.length = s.nodes.length
 oe : OA h 78 78 ve b
 ob : OA h 60 60 vb b
 om : OA h 99 117 vm b
 or_ : OA h 137 137 vr b
 hm : MapAt h (28, gh) (entsOf kl id lh)
 rm : MapAt h (29, gl) (entsOf kl id lr)
 oh : OM h 161 lh b
 ol : OM h 190 lr b
 hc : HC h s lh kh
def FrI (h : Heap) (s : Scaffold) (q ge gb gm gr gh gl b kh : Nat) : Prop := ∃ ve vb vm vr lh lr, Fr h s q ge gb gm gr gh gl ve vb vm vr lh lr b kh
section
variable {h h1 h' : Heap} {s : Scaffold} {q ge gb gm gr gh gl : Nat} {ve vb vm vr : List PV} {lh lr : List ((Int × Int) × PV)} {b b' kh : Nat} {d g : Nat} {o : Option PObj}
theorem Fr.keep (hn : Fr h s q ge gb gm gr gh gl ve vb vm vr lh lr b kh) (hk : ∀ k' : Key, fsB k'.1 = true → h' k' = h k') : Fr h' s q ge gb gm gr gh gl ve vb vm vr lh lr b kh where
 F := (hk _ rfl).trans hn.F
 se := (hk _ rfl).trans hn.se
 sb := (hk _ rfl).trans hn.sb
 sm := (hk _ rfl).trans hn.sm
 sr := (hk _ rfl).trans hn.sr
 le := hn.le
 lb := hn.lb
 lm := hn.lm
 lr_ := hn.lr_
 oe := hn.oe.keep (fun _ => hk _ rfl) (fun _ => hk _ rfl)
 ob := hn.ob.keep (fun _ => hk _ rfl) (fun _ => hk _ rfl)
 om := hn.om.keep (fun _ => hk _ rfl) (fun _ => hk _ rfl)
 or_ := hn.or_.keep (fun _ => hk _ rfl) (fun _ => hk _ rfl)
 hm := hn.hm.keep (hk _ rfl)
 rm := hn.rm.keep (hk _ rfl)
 oh := hn.oh.keep (fun _ => hk _ rfl) (fun _ => hk _ rfl)
 ol := hn.ol.keep (fun _ => hk _ rfl) (fun _ => hk _ rfl)
 hc := hn.hc.keep (fun _ => hk _ rfl)
theorem Fr.set (hd : fsB d = false) (hn : Fr h s q ge gb gm gr gh gl ve vb vm vr lh lr b kh) : Fr (hset h (d, g) o) s q ge gb gm gr gh gl ve vb vm vr lh lr b kh :=
 hn.keep fun k' hk => hset_ne fun e => by rw [e] at hk; rw [hd] at hk; cases hk
theorem Fr.mono (hn : Fr h s q ge gb gm gr gh gl ve vb vm vr lh lr b kh) (hb : b ≤ b') : Fr h s q ge gb gm gr gh gl ve vb vm vr lh lr b' kh where
 F := hn.F
 se := hn.se
 sb := hn.sb
 sm := hn.sm
 sr := hn.sr
 le := hn.le
 lb := hn.lb
 lm := hn.lm
 lr_ := hn.lr_
 oe := hn.oe.mono hb
 ob := hn.ob.mono hb
 om := hn.om.mono hb
 or_ := hn.or_.mono hb
 hm := hn.hm
 rm := hn.rm
 oh := hn.oh.mono hb
 ol := hn.ol.mono hb
 hc := hn.hc
theorem FrI.set (hd : fsB d = false) (hn : FrI h s q ge gb gm gr gh gl b kh) : FrI (hset h (d, g) o) s q ge gb gm gr gh gl b kh := by
 obtain ⟨ve, vb, vm, vr, lh, lr, hn⟩ := hn; exact ⟨ve, vb, vm, vr, lh, lr, hn.set hd⟩
theorem FrI.mono (hn : FrI h s q ge gb gm gr gh gl b kh) (hb : b ≤ b') : FrI h s q ge gb gm gr gh gl b' kh := by
 obtain ⟨ve, vb, vm, vr, lh, lr, hn⟩ := hn; exact ⟨ve, vb, vm, vr, lh, lr, hn.mono hb⟩
theorem FrI.skip {m : Member} (hn : FrI h s q ge gb gm gr gh gl b kh) (hm : s.members[kh]? = some m) (hk : ¬ (m.kind = 9 ∨ m.kind = 8)) : FrI h s q ge gb gm gr gh gl b (kh + 1) := by
 obtain ⟨ve, vb, vm, vr, lh, lr, hn⟩ := hn
 exact ⟨ve, vb, vm, vr, lh, lr, { hn with hc := hn.hc.skip hm hk }⟩
variable {i : Nat} {u : PV} {rows : Pv.Rows} {row : List PV} {c : Nat}
/-- The keys of a slice that was appended to. -/
def ApK (h h1 : Heap) (d c d1 d2 : Nat) (u : PV) (n : Nat) : Prop := ∀ k' : Key, k' ≠ (d, c) → (∀ g, u = .ref (d1, g) 1 0 n → k' ≠ (d1, g)) → (∀ g, u = .ref (d2, g) 1 0 n → k' ≠ (d2, g)) → h1 k' = h k'
theorem ApK.ne {d c d1 d2 n : Nat} (hk : ApK h h1 d c d1 d2 u n) {e g : Nat} (h0 : Nat.beq e d = false) (hd1 : Nat.beq e d1 = false) (hd2 : Nat.beq e d2 = false) : h1 (e, g) = h (e, g) := hk _ (key_ne h0) (fun _ _ => key_ne hd1) (fun _ _ => key_ne hd2)

theorem Fr.appE (hn : Fr h s q ge gb gm gr gh gl ve vb vm vr lh lr b kh) (hu : ve[i]? = some u) (hs : SliceAt h 78 u 1 rows ∨ SliceAt h 78 u 1 rows) (hb : rows.length ≤ b) (hr : h1 (78, c) = some (.rows 1 (rows ++ [row]))) (hk : ApK h h1 78 c 78 78 u rows.length) (hf : ∀ g o, h (78, g) = some o → g < c) :
   FrI (hset h1 (21, ge) (some (.rows 1 ((ve.set i (.ref (78, c) 1 0 (rows.length + 1))).map cv)))) s q ge gb gm gr gh gl (b + 1) kh := by
 have hi : i < ve.length := (List.getElem?_eq_some_iff.1 hu).1
 have hn2 : OA h1 78 78 (ve.set i (.ref (78, c) 1 0 (rows.length + 1))) (b + 1) := OF.app (c := fun _ => c) hn.oe (.inl rfl) hf (.inl hu) hs hb hr hk (set_F hi)
 have hkn : ∀ {e g : Nat}, Nat.beq e 78 = false → h1 (e, g) = h (e, g) := fun {e g} h0 => hk.ne h0 h0 h0
 exact ⟨(ve.set i (.ref (78, c) 1 0 (rows.length + 1))), vb, vm, vr, lh, lr,
   ⟨((hset_ne (key_ne rfl)).trans (hkn rfl)).trans hn.F,
   hset_self _ _ _,
   ((hset_ne (key_ne rfl)).trans (hkn rfl)).trans hn.sb,
   ((hset_ne (key_ne rfl)).trans (hkn rfl)).trans hn.sm,
   ((hset_ne (key_ne rfl)).trans (hkn rfl)).trans hn.sr,
   (List.length_set ..).trans hn.le,
   hn.lb,
   hn.lm,
   hn.lr_,
   hn2.keep (fun _ => hset_ne (key_ne rfl)) (fun _ => hset_ne (key_ne rfl)),
   (hn.ob.keep (fun _ => ((hset_ne (key_ne rfl)).trans (hkn rfl))) (fun _ => ((hset_ne (key_ne rfl)).trans (hkn rfl)))).mono (Nat.le_succ _),
   (hn.om.keep (fun _ => ((hset_ne (key_ne rfl)).trans (hkn rfl))) (fun _ => ((hset_ne (key_ne rfl)).trans (hkn rfl)))).mono (Nat.le_succ _),
   (hn.or_.keep (fun _ => ((hset_ne (key_ne rfl)).trans (hkn rfl))) (fun _ => ((hset_ne (key_ne rfl)).trans (hkn rfl)))).mono (Nat.le_succ _),
   hn.hm.keep ((hset_ne (key_ne rfl)).trans (hkn rfl)),
   hn.rm.keep ((hset_ne (key_ne rfl)).trans (hkn rfl)),
   (hn.oh.keep (fun _ => ((hset_ne (key_ne rfl)).trans (hkn rfl))) (fun _ => ((hset_ne (key_ne rfl)).trans (hkn rfl)))).mono (Nat.le_succ _),
   (hn.ol.keep (fun _ => ((hset_ne (key_ne rfl)).trans (hkn rfl))) (fun _ => ((hset_ne (key_ne rfl)).trans (hkn rfl)))).mono (Nat.le_succ _),
   hn.hc.keep (fun _ => ((hset_ne (key_ne rfl)).trans (hkn rfl)))⟩⟩
theorem Fr.appB (hn : Fr h s q ge gb gm gr gh gl ve vb vm vr lh lr b kh) (hu : vb[i]? = some u) (hs : SliceAt h 60 u 1 rows ∨ SliceAt h 60 u 1 rows) (hb : rows.length ≤ b) (hr : h1 (60, c) = some (.rows 1 (rows ++ [row]))) (hk : ApK h h1 60 c 60 60 u rows.length) (hf : ∀ g o, h (60, g) = some o → g < c) :
   FrI (hset h1 (23, gb) (some (.rows 1 ((vb.set i (.ref (60, c) 1 0 (rows.length + 1))).map cv)))) s q ge gb gm gr gh gl (b + 1) kh := by
 have hi : i < vb.length := (List.getElem?_eq_some_iff.1 hu).1
 have hn2 : OA h1 60 60 (vb.set i (.ref (60, c) 1 0 (rows.length + 1))) (b + 1) := OF.app (c := fun _ => c) hn.ob (.inl rfl) hf (.inl hu) hs hb hr hk (set_F hi)
 have hkn : ∀ {e g : Nat}, Nat.beq e 60 = false → h1 (e, g) = h (e, g) := fun {e g} h0 => hk.ne h0 h0 h0
 exact ⟨ve, (vb.set i (.ref (60, c) 1 0 (rows.length + 1))), vm, vr, lh, lr,
   ⟨((hset_ne (key_ne rfl)).trans (hkn rfl)).trans hn.F,
   ((hset_ne (key_ne rfl)).trans (hkn rfl)).trans hn.se,
   hset_self _ _ _,
   ((hset_ne (key_ne rfl)).trans (hkn rfl)).trans hn.sm,
   ((hset_ne (key_ne rfl)).trans (hkn rfl)).trans hn.sr,
   hn.le,
   (List.length_set ..).trans hn.lb,
   hn.lm,
   hn.lr_,
   (hn.oe.keep (fun _ => ((hset_ne (key_ne rfl)).trans (hkn rfl))) (fun _ => ((hset_ne (key_ne rfl)).trans (hkn rfl)))).mono (Nat.le_succ _),
   hn2.keep (fun _ => hset_ne (key_ne rfl)) (fun _ => hset_ne (key_ne rfl)),
   (hn.om.keep (fun _ => ((hset_ne (key_ne rfl)).trans (hkn rfl))) (fun _ => ((hset_ne (key_ne rfl)).trans (hkn rfl)))).mono (Nat.le_succ _),
   (hn.or_.keep (fun _ => ((hset_ne (key_ne rfl)).trans (hkn rfl))) (fun _ => ((hset_ne (key_ne rfl)).trans (hkn rfl)))).mono (Nat.le_succ _),
   hn.hm.keep ((hset_ne (key_ne rfl)).trans (hkn rfl)),
   hn.rm.keep ((hset_ne (key_ne rfl)).trans (hkn rfl)),
   (hn.oh.keep (fun _ => ((hset_ne (key_ne rfl)).trans (hkn rfl))) (fun _ => ((hset_ne (key_ne rfl)).trans (hkn rfl)))).mono (Nat.le_succ _),
   (hn.ol.keep (fun _ => ((hset_ne (key_ne rfl)).trans (hkn rfl))) (fun _ => ((hset_ne (key_ne rfl)).trans (hkn rfl)))).mono (Nat.le_succ _),
   hn.hc.keep (fun _ => ((hset_ne (key_ne rfl)).trans (hkn rfl)))⟩⟩
theorem Fr.appM (hn : Fr h s q ge gb gm gr gh gl ve vb vm vr lh lr b kh) (hd : d = 99 ∨ d = 117) (hu : vm[i]? = some u) (hs : SliceAt h 99 u 1 rows ∨ SliceAt h 117 u 1 rows) (hb : rows.length ≤ b) (hr : h1 (d, c) = some (.rows 1 (rows ++ [row]))) (hk : ApK h h1 d c 99 117 u rows.length) (hf : ∀ g o, h (d, g) = some o → g < c) :
   FrI (hset h1 (25, gm) (some (.rows 1 ((vm.set i (.ref (d, c) 1 0 (rows.length + 1))).map cv)))) s q ge gb gm gr gh gl (b + 1) kh := by
 have hi : i < vm.length := (List.getElem?_eq_some_iff.1 hu).1
 have hn2 : OA h1 99 117 (vm.set i (.ref (d, c) 1 0 (rows.length + 1))) (b + 1) := OF.app (c := fun _ => c) hn.om hd hf (.inl hu) hs hb hr hk (set_F hi)
 have hkn : ∀ {e g : Nat}, (Nat.beq e 99 || Nat.beq e 117) = false → h1 (e, g) = h (e, g) := fun {e g} h0 => by
   rw [Bool.or_eq_false_iff] at h0
   rcases hd with rfl | rfl
   · exact hk.ne h0.1 h0.1 h0.2
   · exact hk.ne h0.2 h0.1 h0.2
 exact ⟨ve, vb, (vm.set i (.ref (d, c) 1 0 (rows.length + 1))), vr, lh, lr,
   ⟨((hset_ne (key_ne rfl)).trans (hkn rfl)).trans hn.F,
   ((hset_ne (key_ne rfl)).trans (hkn rfl)).trans hn.se,
   ((hset_ne (key_ne rfl)).trans (hkn rfl)).trans hn.sb,
   hset_self _ _ _,
   ((hset_ne (key_ne rfl)).trans (hkn rfl)).trans hn.sr,
   hn.le,
   hn.lb,
   (List.length_set ..).trans hn.lm,
   hn.lr_,
   (hn.oe.keep (fun _ => ((hset_ne (key_ne rfl)).trans (hkn rfl))) (fun _ => ((hset_ne (key_ne rfl)).trans (hkn rfl)))).mono (Nat.le_succ _),
   (hn.ob.keep (fun _ => ((hset_ne (key_ne rfl)).trans (hkn rfl))) (fun _ => ((hset_ne (key_ne rfl)).trans (hkn rfl)))).mono (Nat.le_succ _),
   hn2.keep (fun _ => hset_ne (key_ne rfl)) (fun _ => hset_ne (key_ne rfl)),
   (hn.or_.keep (fun _ => ((hset_ne (key_ne rfl)).trans (hkn rfl))) (fun _ => ((hset_ne (key_ne rfl)).trans (hkn rfl)))).mono (Nat.le_succ _),
   hn.hm.keep ((hset_ne (key_ne rfl)).trans (hkn rfl)),
   hn.rm.keep ((hset_ne (key_ne rfl)).trans (hkn rfl)),
   (hn.oh.keep (fun _ => ((hset_ne (key_ne rfl)).trans (hkn rfl))) (fun _ => ((hset_ne (key_ne rfl)).trans (hkn rfl)))).mono (Nat.le_succ _),
   (hn.ol.keep (fun _ => ((hset_ne (key_ne rfl)).trans (hkn rfl))) (fun _ => ((hset_ne (key_ne rfl)).trans (hkn rfl)))).mono (Nat.le_succ _),
   hn.hc.keep (fun _ => ((hset_ne (key_ne rfl)).trans (hkn rfl)))⟩⟩
theorem Fr.appR (hn : Fr h s q ge gb gm gr gh gl ve vb vm vr lh lr b kh) (hu : vr[i]? = some u) (hs : SliceAt h 137 u 1 rows ∨ SliceAt h 137 u 1 rows) (hb : rows.length ≤ b) (hr : h1 (137, c) = some (.rows 1 (rows ++ [row]))) (hk : ApK h h1 137 c 137 137 u rows.length) (hf : ∀ g o, h (137, g) = some o → g < c) :
   FrI (hset h1 (27, gr) (some (.rows 1 ((vr.set i (.ref (137, c) 1 0 (rows.length + 1))).map cv)))) s q ge gb gm gr gh gl (b + 1) kh := by
 have hi : i < vr.length := (List.getElem?_eq_some_iff.1 hu).1
 have hn2 : OA h1 137 137 (vr.set i (.ref (137, c) 1 0 (rows.length + 1))) (b + 1) := OF.app (c := fun _ => c) hn.or_ (.inl rfl) hf (.inl hu) hs hb hr hk (set_F hi)
 have hkn : ∀ {e g : Nat}, Nat.beq e 137 = false → h1 (e, g) = h (e, g) := fun {e g} h0 => hk.ne h0 h0 h0
 exact ⟨ve, vb, vm, (vr.set i (.ref (137, c) 1 0 (rows.length + 1))), lh, lr,
   ⟨((hset_ne (key_ne rfl)).trans (hkn rfl)).trans hn.F,
   ((hset_ne (key_ne rfl)).trans (hkn rfl)).trans hn.se,
   ((hset_ne (key_ne rfl)).trans (hkn rfl)).trans hn.sb,
   ((hset_ne (key_ne rfl)).trans (hkn rfl)).trans hn.sm,
   hset_self _ _ _,
   hn.le,
   hn.lb,
   hn.lm,
   (List.length_set ..).trans hn.lr_,
   (hn.oe.keep (fun _ => ((hset_ne (key_ne rfl)).trans (hkn rfl))) (fun _ => ((hset_ne (key_ne rfl)).trans (hkn rfl)))).mono (Nat.le_succ _),
   (hn.ob.keep (fun _ => ((hset_ne (key_ne rfl)).trans (hkn rfl))) (fun _ => ((hset_ne (key_ne rfl)).trans (hkn rfl)))).mono (Nat.le_succ _),
   (hn.om.keep (fun _ => ((hset_ne (key_ne rfl)).trans (hkn rfl))) (fun _ => ((hset_ne (key_ne rfl)).trans (hkn rfl)))).mono (Nat.le_succ _),
   hn2.keep (fun _ => hset_ne (key_ne rfl)) (fun _ => hset_ne (key_ne rfl)),
   hn.hm.keep ((hset_ne (key_ne rfl)).trans (hkn rfl)),
   hn.rm.keep ((hset_ne (key_ne rfl)).trans (hkn rfl)),
   (hn.oh.keep (fun _ => ((hset_ne (key_ne rfl)).trans (hkn rfl))) (fun _ => ((hset_ne (key_ne rfl)).trans (hkn rfl)))).mono (Nat.le_succ _),
   (hn.ol.keep (fun _ => ((hset_ne (key_ne rfl)).trans (hkn rfl))) (fun _ => ((hset_ne (key_ne rfl)).trans (hkn rfl)))).mono (Nat.le_succ _),
   hn.hc.keep (fun _ => ((hset_ne (key_ne rfl)).trans (hkn rfl)))⟩⟩
theorem Fr.appH {m : Member} (hn : Fr h s q ge gb gm gr gh gl ve vb vm vr lh lr b kh) (hm : s.members[kh]? = some m) (hkd : m.kind = 9 ∨ m.kind = 8) (hb : kh ≤ b) (hr : h1 (161, c) = some (.rows 1 ((hldL s kh (lnA s m.a)).map ci ++ [ci (kh : Int)]))) (hk : ApK h h1 161 c 161 161 ((aGet (lnA s m.a) lh).getD .nil) ((hldL s kh (lnA s m.a)).map ci).length) (hf : ∀ g o, h (161, g) = some o → g < c) :
   FrI (hset h1 (28, gh) (some (mSet (h1 (28, gh)) (kl (lnA s m.a)) (.ref (161, c) 1 0 (((hldL s kh (lnA s m.a)).map ci).length + 1))))) s q ge gb gm gr gh gl (b + 1) (kh + 1) := by
 have hs := hn.hc (lnA s m.a)
 have hl := hldL_len (s := s) (k := kh) (a := lnA s m.a)
 have hv2 : (fun a : Int × Int => aGet a lh) (lnA s m.a) = some ((aGet (lnA s m.a) lh).getD .nil) ∨ (aGet (lnA s m.a) lh).getD .nil = .nil := by cases q : aGet (lnA s m.a) lh <;> simp [q]
 have hn2 : OM h1 161 (aSet (lnA s m.a) (.ref (161, c) 1 0 (((hldL s kh (lnA s m.a)).map ci).length + 1)) lh) (b + 1) := OF.app (c := fun _ => c) hn.oh (.inl rfl) hf hv2 (.inl hs) (by rw [List.length_map]; omega) hr hk (fun j => aGet_aSet ..)
 have hc2 : HC h1 s (aSet (lnA s m.a) (.ref (161, c) 1 0 (((hldL s kh (lnA s m.a)).map ci).length + 1)) lh) (kh + 1) := HC.app (c := fun _ => c) hn.hc hn.oh hf hm hkd rfl hr (fun k' q1 q2 => hk k' q1 q2 q2)
 have hkn : ∀ {e g : Nat}, Nat.beq e 161 = false → h1 (e, g) = h (e, g) := fun {e g} h0 => hk.ne h0 h0 h0
 exact ⟨ve, vb, vm, vr, (aSet (lnA s m.a) (.ref (161, c) 1 0 (((hldL s kh (lnA s m.a)).map ci).length + 1)) lh), lr,
   ⟨((hset_ne (key_ne rfl)).trans (hkn rfl)).trans hn.F,
   ((hset_ne (key_ne rfl)).trans (hkn rfl)).trans hn.se,
   ((hset_ne (key_ne rfl)).trans (hkn rfl)).trans hn.sb,
   ((hset_ne (key_ne rfl)).trans (hkn rfl)).trans hn.sm,
   ((hset_ne (key_ne rfl)).trans (hkn rfl)).trans hn.sr,
   hn.le,
   hn.lb,
   hn.lm,
   hn.lr_,
   (hn.oe.keep (fun _ => ((hset_ne (key_ne rfl)).trans (hkn rfl))) (fun _ => ((hset_ne (key_ne rfl)).trans (hkn rfl)))).mono (Nat.le_succ _),
   (hn.ob.keep (fun _ => ((hset_ne (key_ne rfl)).trans (hkn rfl))) (fun _ => ((hset_ne (key_ne rfl)).trans (hkn rfl)))).mono (Nat.le_succ _),
   (hn.om.keep (fun _ => ((hset_ne (key_ne rfl)).trans (hkn rfl))) (fun _ => ((hset_ne (key_ne rfl)).trans (hkn rfl)))).mono (Nat.le_succ _),
   (hn.or_.keep (fun _ => ((hset_ne (key_ne rfl)).trans (hkn rfl))) (fun _ => ((hset_ne (key_ne rfl)).trans (hkn rfl)))).mono (Nat.le_succ _),
   MapAt.set kl_eq (hn.hm.keep (hkn rfl)) _ _,
   hn.rm.keep ((hset_ne (key_ne rfl)).trans (hkn rfl)),
   hn2.keep (fun _ => hset_ne (key_ne rfl)) (fun _ => hset_ne (key_ne rfl)),
   (hn.ol.keep (fun _ => ((hset_ne (key_ne rfl)).trans (hkn rfl))) (fun _ => ((hset_ne (key_ne rfl)).trans (hkn rfl)))).mono (Nat.le_succ _),
   hc2.keep (fun _ => hset_ne (key_ne rfl))⟩⟩
theorem Fr.appL {a : Int × Int} (hn : Fr h s q ge gb gm gr gh gl ve vb vm vr lh lr b kh) (hu : aGet a lr = some u ∨ u = .nil) (hs : SliceAt h 190 u 1 rows ∨ SliceAt h 190 u 1 rows) (hb : rows.length ≤ b) (hr : h1 (190, c) = some (.rows 1 (rows ++ [row]))) (hk : ApK h h1 190 c 190 190 u rows.length) (hf : ∀ g o, h (190, g) = some o → g < c) :
   FrI (hset h1 (29, gl) (some (mSet (h1 (29, gl)) (kl a) (.ref (190, c) 1 0 (rows.length + 1))))) s q ge gb gm gr gh gl (b + 1) kh := by
 have hn2 : OM h1 190 (aSet a (.ref (190, c) 1 0 (rows.length + 1)) lr) (b + 1) := OF.app (c := fun _ => c) hn.ol (.inl rfl) hf hu hs hb hr hk (fun j => aGet_aSet ..)
 have hkn : ∀ {e g : Nat}, Nat.beq e 190 = false → h1 (e, g) = h (e, g) := fun {e g} h0 => hk.ne h0 h0 h0
 exact ⟨ve, vb, vm, vr, lh, (aSet a (.ref (190, c) 1 0 (rows.length + 1)) lr),
   ⟨((hset_ne (key_ne rfl)).trans (hkn rfl)).trans hn.F,
   ((hset_ne (key_ne rfl)).trans (hkn rfl)).trans hn.se,
   ((hset_ne (key_ne rfl)).trans (hkn rfl)).trans hn.sb,
   ((hset_ne (key_ne rfl)).trans (hkn rfl)).trans hn.sm,
   ((hset_ne (key_ne rfl)).trans (hkn rfl)).trans hn.sr,
   hn.le,
   hn.lb,
   hn.lm,
   hn.lr_,
   (hn.oe.keep (fun _ => ((hset_ne (key_ne rfl)).trans (hkn rfl))) (fun _ => ((hset_ne (key_ne rfl)).trans (hkn rfl)))).mono (Nat.le_succ _),
   (hn.ob.keep (fun _ => ((hset_ne (key_ne rfl)).trans (hkn rfl))) (fun _ => ((hset_ne (key_ne rfl)).trans (hkn rfl)))).mono (Nat.le_succ _),
   (hn.om.keep (fun _ => ((hset_ne (key_ne rfl)).trans (hkn rfl))) (fun _ => ((hset_ne (key_ne rfl)).trans (hkn rfl)))).mono (Nat.le_succ _),
   (hn.or_.keep (fun _ => ((hset_ne (key_ne rfl)).trans (hkn rfl))) (fun _ => ((hset_ne (key_ne rfl)).trans (hkn rfl)))).mono (Nat.le_succ _),
   hn.hm.keep ((hset_ne (key_ne rfl)).trans (hkn rfl)),
   MapAt.set kl_eq (hn.rm.keep (hkn rfl)) _ _,
   (hn.oh.keep (fun _ => ((hset_ne (key_ne rfl)).trans (hkn rfl))) (fun _ => ((hset_ne (key_ne rfl)).trans (hkn rfl)))).mono (Nat.le_succ _),
   hn2.keep (fun _ => hset_ne (key_ne rfl)) (fun _ => hset_ne (key_ne rfl)),
   hn.hc.keep (fun _ => ((hset_ne (key_ne rfl)).trans (hkn rfl)))⟩⟩
end
theorem Fr.new {h : Heap} {s : Scaffold} {q ge gb gm gr gh gl : Nat} (hF : h (31, q) = some (.rows 8 [frow s (fX s.nodes.length ge gb gm gr gh gl)]))
   (h1 : h (21, ge) = some (.rows 1 ((List.replicate s.nodes.length PV.nil).map cv))) (h2 : h (23, gb) = some (.rows 1 ((List.replicate s.nodes.length PV.nil).map cv))) (h3 : h (25, gm) = some (.rows 1 ((List.replicate s.nodes.length PV.nil).map cv))) (h4 : h (27, gr) = some (.rows 1 ((List.replicate s.nodes.length PV.nil).map cv)))
   (h5 : h (28, gh) = some (.map [] [] 0)) (h6 : h (29, gl) = some (.map [] [] 0)) : FrI h s q ge gb gm gr gh gl 0 0 :=
 ⟨_, _, _, _, [], [], hF, h1, h2, h3, h4, List.length_replicate .., List.length_replicate .., List.length_replicate .., List.length_replicate .., OA.zero, OA.zero, OA.zero, OA.zero, ⟨[], 0, h5, rfl, List.nodup_nil, by simp⟩, ⟨[], 0, h6, rfl, List.nodup_nil, by simp⟩, OM.zero, OM.zero, HC.zero⟩
/-- The nodes of a member of a right scaffold. -/
theorem scf_rng {s : Scaffold} {k : Nat} {m : Member} (hs : scfE s = 0) (hm : s.members[k]? = some m) : (0 ≤ m.a ∧ m.a < (s.nodes.length : Int)) ∧ (0 ≤ m.b ∧ m.b < (s.nodes.length : Int)) := by
 by_cases h1 : 1000 < s.nodes.length ∨ 4000 < s.members.length
 · rw [← scfE_8 h1] at hs; cases hs
 by_cases h2 : frsF (nodE s.nodes) 0 s.nodes = 0
 · rw [← scfE_m h1 h2 rfl] at hs
   have h3 := frs_all (E := memE s) _ _ hs k m hm
   by_cases h4 : 0 ≤ m.kind ∧ m.kind ≤ 9
   · by_cases h5 : (0 ≤ m.a ∧ m.a < (s.nodes.length : Int)) ∧ (0 ≤ m.b ∧ m.b < (s.nodes.length : Int))
     · exact h5
     · rw [memE_6 h4 h5] at h3; cases h3
   · rw [memE_2 h4] at h3; cases h3
 · rw [← scfE_n h1 rfl h2] at hs; exact absurd hs h2
end Go.Proofs.Ytjmjiegplnfiiaa
