/- Families of own slices; the network in memory. No conditions. -/
import Derived.Test.YtigdmkhdmbbfiaaFe
set_option linter.unusedSimpArgs false
set_option linter.unusedVariables false
set_option maxRecDepth 100000
namespace Go.Proofs.Ytigdmkhdmbbfiaa
open Go Go.Pv
/-! ### Families of own slices -/
/-- Own slices, each of its own block, made at one of two places of the text. -/
structure OF {ι : Type} (h : Heap) (d1 d2 : Nat) (F : ι → Option PV) (b : Nat) : Prop where
 at_ : ∀ (i : ι) (v : PV), F i = some v → ∃ rows : Pv.Rows, (SliceAt h d1 v 1 rows ∨ SliceAt h d2 v 1 rows) ∧ rows.length ≤ b
 one : ∀ (i j : ι) (v : PV), F i = some v → F j = some v → v ≠ .nil → i = j
section
variable {ι : Type} {h h' : Heap} {c : Nat → Nat} {d d1 d2 : Nat} {F F' : ι → Option PV} {b : Nat} {v w : PV} {rows rows2 : Pv.Rows} {i j : ι}
theorem sl_key {k : Key} {sz n : Nat} (hs : SliceAt h d1 v 1 rows ∨ SliceAt h d2 v 1 rows) (he : v = .ref k sz 0 n) : h k = some (.rows 1 rows) ∧ n = rows.length ∧ sz = 1 ∧ (k.1 = d1 ∨ k.1 = d2) := by
 subst he
 rcases hs with hs | hs <;> rcases hs with ⟨_, h1⟩ | ⟨g, h1, h2⟩
 · cases h1
 · cases h1; exact ⟨h2, rfl, rfl, .inl rfl⟩
 · cases h1
 · cases h1; exact ⟨h2, rfl, rfl, .inr rfl⟩
theorem OF.keep (hn : OF h d1 d2 F b) (h1 : ∀ g, h' (d1, g) = h (d1, g)) (h2 : ∀ g, h' (d2, g) = h (d2, g)) : OF h' d1 d2 F b :=
 ⟨fun i v hv => by obtain ⟨rows, g1, g2⟩ := hn.at_ i v hv; exact ⟨rows, g1.imp (·.keep h1) (·.keep h2), g2⟩, hn.one⟩
/-- The key of another slice of the family is neither the new one nor that of the one that goes. -/
theorem OF.other (hn : OF h d1 d2 F b) (hd : d = d1 ∨ d = d2) (hf : Fresh h c d) (hv : F i = some v ∨ v = .nil) (hs : SliceAt h d1 v 1 rows ∨ SliceAt h d2 v 1 rows)
   (hk : ∀ k' : Key, k' ≠ (d, c d) → (∀ g, v = .ref (d1, g) 1 0 rows.length → k' ≠ (d1, g)) → (∀ g, v = .ref (d2, g) 1 0 rows.length → k' ≠ (d2, g)) → h' k' = h k')
   (hj : j ≠ i) (hw : F j = some w) {k : Key} {n : Nat} (he : w = .ref k 1 0 n) : h' k = h k := by
 obtain ⟨rows3, g1, _⟩ := hn.at_ j w hw
 obtain ⟨g2, g3, _, _⟩ := sl_key g1 he
 have main : ∀ dd g, v = .ref (dd, g) 1 0 rows.length → k ≠ (dd, g) := fun dd g hvv hkk => by
   subst hkk
   obtain ⟨g5, g6, _, _⟩ := sl_key hs hvv
   rw [g2] at g5
   have hr : rows3 = rows := by simpa using g5
   have hwv : w = v := by rw [he, hvv, g3, hr]
   rcases hv with hv | hv
   · exact hj (hn.one j i w hw (by rw [hv, hwv]) (by rw [he]; intro q; cases q))
   · rw [hvv] at hv; cases hv
 refine hk k (fun q => ?_) (main d1) (main d2)
 subst q
 exact absurd (hf (c d) _ g2) (Nat.lt_irrefl _)
theorem OF.far (hn : OF h d1 d2 F b) (hd : d = d1 ∨ d = d2) (hf : Fresh h c d) (hv : F i = some v ∨ v = .nil) (hs : SliceAt h d1 v 1 rows ∨ SliceAt h d2 v 1 rows)
   (hk : ∀ k' : Key, k' ≠ (d, c d) → (∀ g, v = .ref (d1, g) 1 0 rows.length → k' ≠ (d1, g)) → (∀ g, v = .ref (d2, g) 1 0 rows.length → k' ≠ (d2, g)) → h' k' = h k')
   (hj : j ≠ i) (hw : F j = some w) {dx : Nat} (hx : SliceAt h dx w 1 rows2) : SliceAt h' dx w 1 rows2 := by
 rcases hx with hx | ⟨g, h1, h2⟩
 · exact .inl hx
 · exact .inr ⟨g, h1, (hn.other hd hf hv hs hk hj hw h1).trans h2⟩
theorem OF.app [DecidableEq ι] (hn : OF h d1 d2 F b) (hd : d = d1 ∨ d = d2) (hf : Fresh h c d) (hv : F i = some v ∨ v = .nil) (hs : SliceAt h d1 v 1 rows ∨ SliceAt h d2 v 1 rows) (hb : rows.length ≤ b) {row : List PV} (hr : h' (d, c d) = some (.rows 1 (rows ++ [row])))
   (hk : ∀ k' : Key, k' ≠ (d, c d) → (∀ g, v = .ref (d1, g) 1 0 rows.length → k' ≠ (d1, g)) → (∀ g, v = .ref (d2, g) 1 0 rows.length → k' ≠ (d2, g)) → h' k' = h k')
   (hF : ∀ j, F' j = if j = i then some (.ref (d, c d) 1 0 (rows.length + 1)) else F j) : OF h' d1 d2 F' (b + 1) := by
 have hnew : ∀ w j, j ≠ i → F j = some w → w ≠ .ref (d, c d) 1 0 (rows.length + 1) := fun w j hj hw he => by
   obtain ⟨rows3, g1, _⟩ := hn.at_ j w hw
   exact absurd (hf (c d) _ (sl_key g1 he).1) (Nat.lt_irrefl _)
 refine ⟨fun j w hw => ?_, fun j k w h1 h2 h3 => ?_⟩
 · rw [hF] at hw
   by_cases hj : j = i
   · rw [if_pos hj] at hw
     cases hw
     have hl : (rows ++ [row]).length = rows.length + 1 := by simp
     refine ⟨rows ++ [row], ?_, by rw [hl]; omega⟩
     rcases hd with rfl | rfl
     · exact .inl (.inr ⟨_, by rw [hl], hr⟩)
     · exact .inr (.inr ⟨_, by rw [hl], hr⟩)
   · rw [if_neg hj] at hw
     obtain ⟨rows3, g1, g2⟩ := hn.at_ j w hw
     exact ⟨rows3, g1.imp (hn.far hd hf hv hs hk hj hw) (hn.far hd hf hv hs hk hj hw), by omega⟩
 · rw [hF] at h1 h2
   by_cases hj : j = i
   · by_cases hk2 : k = i
     · rw [hj, hk2]
     · rw [if_pos hj] at h1; rw [if_neg hk2] at h2
       cases h1; exact absurd rfl (hnew _ k hk2 h2)
   · rw [if_neg hj] at h1
     by_cases hk2 : k = i
     · rw [if_pos hk2] at h2
       cases h2; exact absurd rfl (hnew _ j hj h1)
     · rw [if_neg hk2] at h2
       exact hn.one j k w h1 h2 h3
end
abbrev OA (h : Heap) (d1 d2 : Nat) (vs : List PV) (b : Nat) : Prop := OF h d1 d2 (fun i : Nat => vs[i]?) b
theorem OA.zero {h : Heap} {d1 d2 n b : Nat} : OA h d1 d2 (List.replicate n .nil) b := by
 refine ⟨fun i v hv => ?_, fun i j v h1 h2 h3 => ?_⟩
 · rw [List.getElem?_replicate] at hv
   split at hv
   · cases hv; exact ⟨[], .inl .nil, Nat.zero_le _⟩
   · cases hv
 · rw [List.getElem?_replicate] at h1
   split at h1
   · cases h1; exact absurd rfl h3
   · cases h1
theorem set_Fv {vs : List PV} {i : Nat} {w : PV} (hi : i < vs.length) (j : Nat) : (vs.set i w)[j]? = if j = i then some w else vs[j]? := by
 rw [List.getElem?_set]
 by_cases e : i = j
 · subst e; rw [if_pos rfl, if_pos hi, if_pos rfl]
 · rw [if_neg e, if_neg (fun q => e q.symm)]

section
variable {P : Program} {K : PS → Prop} {d : Nat} {op : Op} {ty t : TypeId} {pos : String} {aft : Array Edge} {rest : List Oper} {r : Nat → PV} {h : Heap} {cnt : Nat → Nat} {ops : Array Oper} {i : Nat} {G : Nat → Bool} {dd : Bool} {x y : Operand}
/-- A drawn append, told in full. -/
theorem s_appK {ts : Array TypeId} {t2 : TypeId} {u u2 : PV} {sz d1 : Nat} {rows rows2 : Pv.Rows} {tl : List Ft} {ds : List Nat} (rs ws : List Nat) (hr1 : d1 ∈ rs) (hr2 : ∀ z ∈ ds, z ∈ rs) (hw1 : d1 ∈ ws ∧ d ∈ ws) (hts : ts.toList = [t, t2]) (hx : ev r x = u) (hy : ev r y = u2) (hs : SliceAt h d1 u sz rows) (hsr : SrcAt h ds sz u2 rows2)
   (hv : validB r G (.call { callee := .builtin .append, args := #[x, y], argTypes := ts }) = true)
   (hok : (sliceOk P t && (decide (P.bytesOf (elemTy P t) < 2 ^ 15) && (decide (intKind P t2 = none) && (zeroOk P (elemTy P t) && ((P.underlying t2).isSome && decide (tySize P (elemTy P t) = sz)))))) = true) (hlen : rows.length + rows2.length < 2 ^ 32) (hne : rows2 ≠ [])
   (hk : ∀ h', h' (d, cnt d) = some (.rows sz (rows ++ rows2)) → (∀ k' : Key, k' ≠ (d, cnt d) → (∀ g, u = .ref (d1, g) sz 0 rows.length → k' ≠ (d1, g)) → h' k' = h k') → sRun P ops dd K rest (i + 1) ⟨setT r d (.ref (d, cnt d) sz 0 (rows.length + rows2.length)), h', cset cnt d⟩ (setB G d true) (tl ++ [⟨i, rs, ws⟩])) :
   sRun P ops dd K (⟨some d, .call { callee := .builtin .append, args := #[x, y], argTypes := ts }, ty, pos, aft, none⟩ :: rest) i ⟨r, h, cnt⟩ G tl := by
 simp only [Bool.and_eq_true, decide_eq_true_eq] at hok
 obtain ⟨o1, o2, o3, o4, o5, o6⟩ := hok
 subst o6
 obtain ⟨hs1, hs2, hs3⟩ := hsr
 have he : ∀ u, ev r x = u → eff P (ev r) h (d, cnt d) (.call { callee := .builtin .append, args := #[x, y], argTypes := ts }) = appendEff P h (d, cnt d) t t2 u u2 := fun u hu => by
   show builtinEff P h (d, cnt d) .append ts.toList [ev r x, ev r y] = _
   rw [hts, hu, hy]; rfl
 have hrs : ∀ k ∈ (srcRows h (tySize P (elemTy P t)) u2).2.2, k.1 ∈ rs := fun k hk' => hr2 _ (hs3 k hk')
 have hie : rows2.isEmpty = false := by cases rows2 <;> first | exact absurd rfl hne | rfl
 rcases hs with ⟨rfl, rfl⟩ | ⟨g, rfl, hg⟩
 · have hq := he _ hx
   unfold appendEff at hq
   simp only [hs2] at hq
   rw [hie] at hq
   simp only [cond_false] at hq
   have hk2 := hk (hset h (d, cnt d) (some (.rows (tySize P (elemTy P t)) rows2))) (by rw [List.nil_append]; exact hset_self _ _ _) (fun k' h1 _ => hset_ne h1)
   rw [List.length_nil, Nat.zero_add] at hk2
   exact s_any rs ws rfl rfl hrs (by simp [hw1.2]) rfl hv hq ⟨⟨o1, o2, o3, o4, o5⟩, hs1, hne, by simp at hlen; omega⟩ hk2
 · have hq := he _ hx
   unfold appendEff at hq
   simp only [hg, hs2] at hq
   refine s_any rs ws rfl rfl (by intro k hk'; rcases List.mem_cons.1 hk' with rfl | hk'; exact hr1; exact hrs k hk') (by simp [hw1.1, hw1.2]) rfl hv hq (by refine ⟨⟨o1, o2, o3, o4, o5⟩, hs1, ?_⟩; simp; omega) (hk (hset (hset h (d1, g) none) (d, cnt d) (some (.rows (tySize P (elemTy P t)) (rows.take rows.length ++ rows2)))) ?_ fun k' h1 h2 => ?_)
   · rw [hset_self]; first | rw [List.drop_zero, List.take_length] | rw [List.take_length]
   · rw [hset_ne h1, hset_ne (h2 g rfl)]
end

/-- The keys of a slice that was appended to. -/
def ApK (h h1 : Heap) (d c d1 d2 : Nat) (u : PV) (n : Nat) : Prop := ∀ k' : Key, k' ≠ (d, c) → (∀ g, u = .ref (d1, g) 1 0 n → k' ≠ (d1, g)) → (∀ g, u = .ref (d2, g) 1 0 n → k' ≠ (d2, g)) → h1 k' = h k'
theorem ApK.ne {h h1 : Heap} {u : PV} {d c d1 d2 n : Nat} (hk : ApK h h1 d c d1 d2 u n) {e g : Nat} (h0 : Nat.beq e d = false) (hd1 : Nat.beq e d1 = false) (hd2 : Nat.beq e d2 = false) : h1 (e, g) = h (e, g) := hk _ (key_ne h0) (fun _ _ => key_ne hd1) (fun _ _ => key_ne hd2)
/-- Own slices of numbers, and what they hold. -/
structure Fam (h : Heap) (d1 d2 : Nat) (vs : List PV) (cs : Nat → List Int) (b : Nat) : Prop where
 of : OA h d1 d2 vs b
 sl : ∀ (u : Nat) (v : PV), vs[u]? = some v → (SliceAt h d1 v 1 ((cs u).map ci) ∨ SliceAt h d2 v 1 ((cs u).map ci)) ∧ (cs u).length ≤ b
section
variable {h h' h1 : Heap} {d d1 d2 b b' n c : Nat} {vs : List PV} {cs cs' : Nat → List Int} {i : Nat} {u : PV} {k : Int}
theorem Fam.keep (hn : Fam h d1 d2 vs cs b) (g1 : ∀ g, h' (d1, g) = h (d1, g)) (g2 : ∀ g, h' (d2, g) = h (d2, g)) : Fam h' d1 d2 vs cs b :=
 ⟨hn.of.keep g1 g2, fun u v hv => ⟨(hn.sl u v hv).1.imp (·.keep g1) (·.keep g2), (hn.sl u v hv).2⟩⟩
theorem Fam.zero : Fam h d1 d2 (List.replicate n .nil) (fun _ => []) b := ⟨OA.zero, fun u v hv => by
 rw [List.getElem?_replicate] at hv
 split at hv
 · cases hv; exact ⟨.inl .nil, Nat.zero_le _⟩
 · cases hv⟩
theorem Fam.app (hn : Fam h d1 d2 vs cs b) (hd : d = d1 ∨ d = d2) (hf : ∀ g o, h (d, g) = some o → g < c) (hu : vs[i]? = some u) (hr : h1 (d, c) = some (.rows 1 ((cs i).map ci ++ [ci k]))) (hk : ApK h h1 d c d1 d2 u ((cs i).map ci).length) :
   Fam h1 d1 d2 (vs.set i (.ref (d, c) 1 0 (((cs i).map ci).length + 1))) (fun j => if j = i then cs i ++ [k] else cs j) (b + 1) := by
 have hi : i < vs.length := (List.getElem?_eq_some_iff.1 hu).1
 have hs := hn.sl i u hu
 refine ⟨OF.app (c := fun _ => c) (i := i) hn.of hd hf (.inl hu) hs.1 (by rw [List.length_map]; exact hs.2) hr hk (fun j => set_Fv hi j), fun j w hw => ?_⟩
 rw [set_Fv hi] at hw
 by_cases e : j = i
 · rw [if_pos e] at hw ⊢
   cases hw
   have hr2 : h1 (d, c) = some (.rows 1 ((cs i ++ [k]).map ci)) := by rw [hr, List.map_append]; rfl
   have hl : ((cs i).map ci).length + 1 = ((cs i ++ [k]).map ci).length := by simp
   refine ⟨?_, by rw [List.length_append, List.length_singleton]; have := hs.2; omega⟩
   rcases hd with rfl | rfl
   · exact .inl (.inr ⟨c, by rw [hl], hr2⟩)
   · exact .inr (.inr ⟨c, by rw [hl], hr2⟩)
 · rw [if_neg e] at hw ⊢
   have h3 := hn.sl j w hw
   exact ⟨h3.1.imp (OF.far (c := fun _ => c) (i := i) hn.of hd hf (.inl hu) hs.1 hk e hw) (OF.far (c := fun _ => c) (i := i) hn.of hd hf (.inl hu) hs.1 hk e hw), by have := h3.2; omega⟩
end
/-- The plan's row, its pipes and what leaves its nodes. -/
structure NetH (t : Traffic) (N : Nat) (h : Heap) (gp gF gm : Nat) (vP : PV) (vs : List PV) (ps : List Pipe) (cs : Nat → List Int) (b : Nat) : Prop where
 row : h (30, gp) = some (.rows 10 [t.enc ++ [vP, .ref (23, gF) 1 0 N, .int (ndS t), .int (ndE t), .map (28, gm)]])
 pip : SliceAt h 26 vP 2 (ps.map Pipe.enc)
 out : h (23, gF) = some (.rows 1 (vs.map cv))
 len : vs.length = N
 fam : Fam h 48 59 vs cs b
section
variable {t : Traffic} {N : Nat} {h h' : Heap} {gp gF gm : Nat} {vP : PV} {vs : List PV} {ps : List Pipe} {cs : Nat → List Int} {b : Nat}
end
end Go.Proofs.Ytigdmkhdmbbfiaa
