/- Working at P level: own slices that hold own slices; appends whose result is told in full; slices that end ahead of their block's end. -/
import Derived.Test.YtjmjiegplnfiiaaPvZ7
namespace Go.Pv
open Go
section
variable {P : Program} {K : PS → Prop} {d : Nat} {ty t : TypeId} {pos : String} {aft : Array Edge} {gd : Option (Nat × Bool)} {rest : List Oper} {r : Nat → PV} {h : Heap} {cnt : Nat → Nat} {op : Op} {x y : Operand}

/-- The generation of a key. -/
def gen : PV → Nat
 | .ref k _ _ _ => k.2
 | _ => 0
/-- One value a row. -/
def cv (v : PV) : List PV := [v]

/-- Own slices, each of its own block, made at one place of the text. -/
structure NP {α : Type} (h : Heap) (d : Nat) (sz : Nat) (f : α → List PV) (vs : List PV) (ls : List (List α)) : Prop where
 len : vs.length = ls.length
 at_ : ∀ (i : Nat) (v : PV) (l : List α), vs[i]? = some v → ls[i]? = some l → SliceAt h d v sz (l.map f)
 one : ∀ (i j : Nat) (v : PV), vs[i]? = some v → vs[j]? = some v → v ≠ .nil → i = j

variable {α : Type} {f : α → List PV} {sz : Nat} {vs : List PV} {ls : List (List α)}

theorem NP.keep {h' : Heap} (hn : NP h d sz f vs ls) (hk : ∀ g, h' (d, g) = h (d, g)) : NP h' d sz f vs ls :=
 ⟨hn.len, fun i v l h1 h2 => (hn.at_ i v l h1 h2).keep hk, hn.one⟩
theorem NP.get (hn : NP h d sz f vs ls) {i : Nat} {v : PV} {l : List α} (hv : vs[i]? = some v) (hl : ls[i]? = some l) : SliceAt h d v sz (l.map f) := hn.at_ i v l hv hl
theorem NP.nils (n : Nat) : NP h d sz f (List.replicate n .nil) (List.replicate n ([] : List α)) := by
 refine ⟨by simp, fun i v l h1 h2 => ?_, fun i j v h1 h2 h3 => ?_⟩
 · simp only [List.getElem?_replicate] at h1 h2
   by_cases hi : i < n
   · rw [if_pos hi] at h1 h2; cases h1; cases h2; exact .nil
   · rw [if_neg hi] at h1; cases h1
 · simp only [List.getElem?_replicate] at h1
   split at h1
   · cases h1; exact absurd rfl h3
   · cases h1
/-- One of the slices is changed in place, or made anew at a key of its own. -/
theorem NP.upd {h' : Heap} (hn : NP h d sz f vs ls) {i : Nat} {v v' : PV} {l' : List α} (hv : vs[i]? = some v) (hs : SliceAt h' d v' sz (l'.map f))
   (hfar : ∀ (j : Nat) (w : PV) (g n : Nat), j ≠ i → vs[j]? = some w → w = .ref (d, g) sz 0 n → h' (d, g) = h (d, g) ∧ v' ≠ w) : NP h' d sz f (vs.set i v') (ls.set i l') := by
 have hi : i < vs.length := (List.getElem?_eq_some_iff.1 hv).1
 refine ⟨by simp [hn.len], fun j w l h1 h2 => ?_, fun j k w h1 h2 h3 => ?_⟩
 · rw [List.getElem?_set] at h1 h2
   by_cases hj : i = j
   · subst hj
     rw [if_pos rfl, if_pos hi] at h1
     rw [if_pos rfl, if_pos (by rw [← hn.len]; exact hi)] at h2
     cases h1; cases h2; exact hs
   · rw [if_neg hj] at h1 h2
     rcases hn.at_ j w l h1 h2 with h4 | ⟨g, h4, h5⟩
     · exact .inl h4
     · exact .inr ⟨g, h4, (hfar j w g _ (fun e => hj e.symm) h1 h4).1.trans h5⟩
 · rw [List.getElem?_set] at h1 h2
   have ref : ∀ (j : Nat) (w : PV), vs[j]? = some w → w ≠ .nil → ∃ g n, w = .ref (d, g) sz 0 n := fun j w hw hne => by
     have hj : j < ls.length := by rw [← hn.len]; exact (List.getElem?_eq_some_iff.1 hw).1
     rcases hn.at_ j w _ hw (List.getElem?_eq_getElem hj) with ⟨_, h4⟩ | ⟨g, h4, _⟩
     · exact absurd h4 hne
     · exact ⟨g, _, h4⟩
   by_cases hj : i = j
   · subst hj
     rw [if_pos rfl, if_pos hi] at h1
     cases h1
     by_cases hk : i = k
     · exact hk
     · rw [if_neg hk] at h2
       obtain ⟨g, n, hg⟩ := ref k _ h2 h3
       exact absurd rfl (hfar k _ g n (fun e => hk e.symm) h2 hg).2
   · rw [if_neg hj] at h1
     by_cases hk : i = k
     · subst hk
       rw [if_pos rfl, if_pos hi] at h2
       cases h2
       obtain ⟨g, n, hg⟩ := ref j _ h1 h3
       exact absurd rfl (hfar j _ g n (fun e => hj e.symm) h1 hg).2
     · rw [if_neg hk] at h2
       exact hn.one j k w h1 h2 h3

/-- The key of a slice of own memory is below the counter. -/
def Fresh (h : Heap) (c : Nat → Nat) (d : Nat) : Prop := ∀ g o, h (d, g) = some o → g < c d
theorem Known.fresh {s : PS} (hk : Known s) (d : Nat) : Fresh s.h s.cnt d := fun g o h1 => hk (d, g) o h1

/-- Behind an append to one of the slices, whose result lies at the next key. -/
theorem NP.app {h' : Heap} {c : Nat → Nat} (hn : NP h d sz f vs ls) (hf : Fresh h c d) {i : Nat} {v v' : PV} {l l' : List α} (hv : vs[i]? = some v) (hl : ls[i]? = some l) (hv' : v' = .ref (d, c d) sz 0 l'.length) (hr : h' (d, c d) = some (.rows sz (l'.map f)))
   (hk : ∀ k' : Key, k' ≠ (d, c d) → (∀ g, v = .ref (d, g) sz 0 l.length → k' ≠ (d, g)) → h' k' = h k') : NP h' d sz f (vs.set i v') (ls.set i l') := by
 refine hn.upd hv (.inr ⟨c d, by rw [hv', List.length_map], hr⟩) fun j w g n hj hw hg => ?_
 have hjl : j < ls.length := by rw [← hn.len]; exact (List.getElem?_eq_some_iff.1 hw).1
 have hlive : ∃ o, h (d, g) = some o := by
   rcases hn.at_ j w _ hw (List.getElem?_eq_getElem hjl) with ⟨_, h4⟩ | ⟨g', h4, h5⟩
   · rw [h4] at hg; cases hg
   · rw [h4] at hg; cases hg; exact ⟨_, h5⟩
 obtain ⟨o, ho⟩ := hlive
 have hlt := hf g o ho
 refine ⟨hk (d, g) (fun e => ?_) (fun g' hg' e => ?_), fun e => ?_⟩
 · cases e; omega
 · cases e
   refine hj (hn.one j i w hw ?_ (by rw [hg]; intro e; cases e))
   rw [hv]
   rcases hn.at_ i v l hv hl with ⟨_, h4⟩ | ⟨g2, h4, _⟩
   · rw [h4] at hg'; cases hg'
   · rcases hn.at_ j w _ hw (List.getElem?_eq_getElem hjl) with ⟨_, h5⟩ | ⟨g3, h5, h6⟩
     · rw [h5] at hg; cases hg
     · rw [h4] at hg'
       have e1 : g2 = g := congrArg gen hg'
       rw [h5] at hg
       have e2 : g3 = g := congrArg gen hg
       subst e1; subst e2
       rw [h4, h5]
       have h7 := hn.at_ i v l hv hl
       rcases h7 with ⟨_, h8⟩ | ⟨g4, h8, h9⟩
       · rw [h4] at h8; cases h8
       · rw [h4] at h8
         have e3 : g3 = g4 := congrArg gen h8
         rw [← e3, h6] at h9
         simp only [Option.some.injEq, PObj.rows.injEq, true_and] at h9
         rw [h9]
 · rw [hv', hg] at e
   have : c d = g := congrArg gen e
   omega

/-- An append whose result is told in full. -/
theorem p_appK {ts : Array TypeId} {t2 : TypeId} {u u2 : PV} {sz d1 : Nat} {rows rows2 : Rows} (hts : ts.toList = [t, t2]) (hx : ev r x = u) (hy : ev r y = u2) (hs : SliceAt h d1 u sz rows) (hsr : (srcRows h sz u2).1 ∧ (srcRows h sz u2).2.1 = rows2)
   (hok : (sliceOk P t && (decide (P.bytesOf (elemTy P t) < 2 ^ 15) && (decide (intKind P t2 = none) && (zeroOk P (elemTy P t) && ((P.underlying t2).isSome && decide (tySize P (elemTy P t) = sz)))))) = true) (hlen : rows.length + rows2.length < 2 ^ 32) (hne : rows2 ≠ [])
   (hk : ∀ h', h' (d, cnt d) = some (.rows sz (rows ++ rows2)) → (∀ k' : Key, k' ≠ (d, cnt d) → (∀ g, u = .ref (d1, g) sz 0 rows.length → k' ≠ (d1, g)) → h' k' = h k') → pOps P K rest ⟨setT r d (.ref (d, cnt d) sz 0 (rows.length + rows2.length)), h', cset cnt d⟩) :
   pOps P K (⟨some d, .call { callee := .builtin .append, args := #[x, y], argTypes := ts }, ty, pos, aft, gd⟩ :: rest) ⟨r, h, cnt⟩ := by
 simp only [Bool.and_eq_true, decide_eq_true_eq] at hok
 obtain ⟨o1, o2, o3, o4, o5, o6⟩ := hok
 subst o6
 have he : ∀ u, ev r x = u → eff P (ev r) h (d, cnt d) (.call { callee := .builtin .append, args := #[x, y], argTypes := ts }) = appendEff P h (d, cnt d) t t2 u u2 := fun u hu => by
   show builtinEff P h (d, cnt d) .append ts.toList [ev r x, ev r y] = _
   rw [hts, hu, hy]; rfl
 have hie : rows2.isEmpty = false := by cases rows2 <;> first | exact absurd rfl hne | rfl
 rcases hs with ⟨rfl, rfl⟩ | ⟨g, rfl, hg⟩
 · have hq := he _ hx
   unfold appendEff at hq
   simp only [hsr.2] at hq
   rw [hie] at hq
   simp only [cond_false] at hq
   refine p_new rfl hq ⟨⟨o1, o2, o3, o4, o5⟩, hsr.1, hne, by simp at hlen; omega⟩ ?_
   have := hk (hset h (d, cnt d) (some (.rows (tySize P (elemTy P t)) rows2))) (by rw [List.nil_append]; exact hset_self _ _ _) (fun k' h1 _ => hset_ne h1)
   simpa using this
 · have hq := he _ hx
   unfold appendEff at hq
   simp only [hg, hsr.2] at hq
   refine p_renew rfl hq (by refine ⟨⟨o1, o2, o3, o4, o5⟩, hsr.1, ?_⟩; simp; omega) ?_
   refine hk _ ?_ fun k' h1 h2 => ?_
   · rw [hset_self, List.drop_zero, List.take_length]
   · rw [hset_ne h1, hset_ne (h2 g rfl)]
end
end Go.Pv
