import Derived.Test.YtjihcgcbnbaclaaGreatDoorRMov5
set_option linter.unusedSimpArgs false
set_option linter.unusedVariables false
namespace Go.Proofs.YtjihcgcbnbaclaaGreatDoor.Y9
open Go Go.Pv Go.Proofs.YtjihcgcbnbaclaaGreatDoor
structure Da where
 day : Int
 left : Int
 gone : List Lot
 deriving Inhabited
structure Dv where
 k : Nat
 v : PV
 a : Da
 deriving Inhabited
def dcell (d : Dv) : List PV := [.ptr (41, d.k) 3 0 0]
def DvAt (h : Heap) (d : Dv) : Prop := h (41, d.k) = some (.rows 3 [[.int d.a.day, .int d.a.left, d.v]]) ∧ SliceAt h 42 d.v 5 (d.a.gone.map Lot.enc)
def ownOf (d : Dv) : List Key := (41, d.k) :: Go.Pv.keyOf d.v
def ownD (ds : List Dv) : List Key := ds.flatMap ownOf
def takeL (m : Move) : Int → List Da → List Da
 | _, [] => []
 | n, d :: l => if 0 < min n d.left then ⟨d.day, d.left - min n d.left, d.gone ++ [⟨m.part, min n d.left, d.day, m.day, m.kind⟩]⟩ :: takeL m (n - min n d.left) l else d :: takeL m n l
theorem takeL_len (m : Move) : ∀ (l : List Da) (n : Int), (takeL m n l).length = l.length
 | [], _ => rfl
 | d :: l, n => by unfold takeL; split <;> simp [takeL_len m l]
theorem DvAt.key42 {h : Heap} {d : Dv} (hd : DvAt h d) : ∀ k ∈ Go.Pv.keyOf d.v, k.1 = 42 ∧ (h k).isSome = true := fun k hk => by
 rcases hd.2 with ⟨_, h2⟩ | ⟨g, h2, h3⟩
 · rw [h2] at hk; simp [Go.Pv.keyOf] at hk
 · rw [h2] at hk; simp [Go.Pv.keyOf] at hk; subst hk; exact ⟨rfl, by rw [h3]; rfl⟩
theorem DvAt.keep {h h' : Heap} {d : Dv} (hd : DvAt h d) (hk : ∀ k ∈ ownOf d, h' k = h k) : DvAt h' d := by
 refine ⟨(hk _ (by simp [ownOf])).trans hd.1, ?_⟩;rcases hd.2 with h2 | ⟨g, h2, h3⟩
 · exact .inl h2
 · exact .inr ⟨g, h2, (hk _ (by rw [ownOf, h2]; simp [Go.Pv.keyOf])).trans h3⟩
theorem ownOf_sub {ds : List Dv} {d : Dv} (hd : d ∈ ds) {k : Key} (hk : k ∈ ownOf d) : k ∈ ownD ds := List.mem_flatMap.2 ⟨d, hd, hk⟩
structure TakeI (m : Move) (ds : List Dv) (h0 : Heap) (c0 : Nat → Nat) (i : Nat) (n : Int) (es : List Dv) (h : Heap) (c : Nat → Nat) : Prop where
 keys : es.map (·.k) = ds.map (·.k)
 tl : takeL m m.count (ds.map (·.a)) = (es.take i).map (·.a) ++ takeL m n ((es.drop i).map (·.a))
 dr : es.drop i = ds.drop i
 at_ : ∀ d ∈ es, DvAt h d
 nd : (ownD es).Nodup
 kn : ∀ k ∈ ownD es, k.2 < c k.1
 sub : ∀ k ∈ ownD es, k ∈ ownD ds ∨ c0 k.1 ≤ k.2
 fr : ∀ k : Key, k ∉ ownD ds → k.2 < c0 k.1 → h k = h0 k
 cm : ∀ t, c0 t ≤ c t
 nb : 0 ≤ n ∧ n ≤ 100000
structure TakeR (m : Move) (ds : List Dv) (h0 : Heap) (c0 : Nat → Nat) (es : List Dv) (h : Heap) (c : Nat → Nat) : Prop where
 keys : es.map (·.k) = ds.map (·.k)
 tl : es.map (·.a) = takeL m m.count (ds.map (·.a))
 at_ : ∀ d ∈ es, DvAt h d
 nd : (ownD es).Nodup
 kn : ∀ k ∈ ownD es, k.2 < c k.1
 sub : ∀ k ∈ ownD es, k ∈ ownD ds ∨ c0 k.1 ≤ k.2
 fr : ∀ k : Key, k ∉ ownD ds → k.2 < c0 k.1 → h k = h0 k
 cm : ∀ t, c0 t ≤ c t
section
variable {m : Move} {ds es : List Dv} {h0 h h' : Heap} {c0 c c' : Nat → Nat} {i : Nat} {n : Int} {d : Dv}
theorem TakeI.len (H : TakeI m ds h0 c0 i n es h c) : es.length = ds.length := by have := congrArg List.length H.keys; simpa using this
theorem TakeI.fin (H : TakeI m ds h0 c0 ds.length n es h c) : TakeR m ds h0 c0 es h c := by
 refine ⟨H.keys, ?_, H.at_, H.nd, H.kn, H.sub, H.fr, H.cm⟩;have h1 := H.tl;rw [← H.len, List.take_length, List.drop_length] at h1;rw [h1]; simp [takeL]
theorem take_0 (ha : ∀ d ∈ ds, DvAt h0 d) (hn : (ownD ds).Nodup) (hk : ∀ k ∈ ownD ds, k.2 < c0 k.1) (hf : ∀ k : Key, k.2 < c0 k.1 → h k = h0 k) (hc : ∀ t, c0 t ≤ c t) (hb : 0 ≤ m.count ∧ m.count ≤ 100000) : TakeI m ds h0 c0 0 m.count ds h c :=
 ⟨rfl, by simp, rfl, fun d hd => (ha d hd).keep fun k hk' => hf k (hk k (ownOf_sub hd hk')), hn, fun k hk' => Nat.lt_of_lt_of_le (hk k hk') (hc _), fun k hk' => .inl hk', fun k _ h2 => hf k h2, hc, hb⟩
theorem TakeI.get (H : TakeI m ds h0 c0 i n es h c) (hd : ds[i]? = some d) : es[i]? = some d := by
 have h1 := congrArg (·[0]?) H.dr;simp only [List.getElem?_drop, Nat.add_zero] at h1;rw [h1, hd]
theorem TakeI.at_i (H : TakeI m ds h0 c0 i n es h c) (hd : ds[i]? = some d) : DvAt h d := H.at_ d (List.mem_of_getElem? (H.get hd))
theorem TakeI.skip (H : TakeI m ds h0 c0 i n es h c) (hd : ds[i]? = some d) (hm : ¬ 0 < min n d.a.left) : TakeI m ds h0 c0 (i + 1) n es h c := by
 have hg := H.get hd;have hdr : es.drop i = d :: es.drop (i + 1) := (List.getElem?_eq_some_iff.1 hg).2 ▸ List.drop_eq_getElem_cons (List.getElem?_eq_some_iff.1 hg).1;refine ⟨H.keys, ?_, ?_, H.at_, H.nd, H.kn, H.sub, H.fr, H.cm, H.nb⟩
 · rw [H.tl, hdr, List.map_cons, takeL, if_neg hm, List.take_add_one, hg]; simp
 · have := congrArg (List.drop 1) H.dr;simpa [List.drop_drop] using this
theorem ownD_split (hd : es[i]? = some d) : ownD es = ownD (es.take i) ++ (ownOf d ++ ownD (es.drop (i + 1))) := by
 have hlt := (List.getElem?_eq_some_iff.1 hd).1
 have : es = es.take i ++ d :: es.drop (i + 1) := by
   have h1 := (List.getElem?_eq_some_iff.1 hd).2;rw [← h1, ← List.drop_eq_getElem_cons hlt, List.take_append_drop]
 unfold ownD
 conv => lhs; rw [this]
 rw [List.flatMap_append, List.flatMap_cons]
theorem ownD_set {e : Dv} (hd : es[i]? = some d) : ownD (es.set i e) = ownD (es.take i) ++ (ownOf e ++ ownD (es.drop (i + 1))) := by
 have hlt := (List.getElem?_eq_some_iff.1 hd).1;rw [List.set_eq_take_append_cons_drop, if_pos hlt];unfold ownD;rw [List.flatMap_append, List.flatMap_cons]
theorem nodup_mid {A B B' C : List Key} (hn : (A ++ (B ++ C)).Nodup) (hb : B'.Nodup) (hs : ∀ k ∈ B', k ∈ B ∨ (k ∉ A ∧ k ∉ C)) : (A ++ (B' ++ C)).Nodup := by
 rw [List.nodup_append] at hn ⊢;obtain ⟨h1, h2, h3⟩ := hn;rw [List.nodup_append] at h2 ⊢;obtain ⟨h4, h5, h6⟩ := h2;refine ⟨h1, ⟨hb, h5, fun a ha b hb' e => ?_⟩, fun a ha b hb' e => ?_⟩
 · rcases hs a ha with h | ⟨_, h⟩
   · exact h6 a h b hb' e
   · exact h (e ▸ hb')
 · rcases List.mem_append.1 hb' with h | h
   · rcases hs b h with h' | ⟨h', _⟩
     · exact h3 a ha b (List.mem_append.2 (.inl h')) e
     · exact h' (e ▸ ha)
   · exact h3 a ha b (List.mem_append.2 (.inr h)) e
theorem TakeI.step {g : Nat} {d' : Dv} (H : TakeI m ds h0 c0 i n es h c) (hd : ds[i]? = some d) (hm : 0 < min n d.a.left) (hd' : d' = ⟨d.k, .ref (42, g) 5 0 (d.a.gone.length + 1), ⟨d.a.day, d.a.left - min n d.a.left, d.a.gone ++ [⟨m.part, min n d.a.left, d.a.day, m.day, m.kind⟩]⟩⟩)
   (hg : g = c 42) (hbox : h' (41, d.k) = some (.rows 3 [[.int d.a.day, .int (d.a.left - min n d.a.left), .ref (42, g) 5 0 (d.a.gone.length + 1)]])) (hgn : h' (42, g) = some (.rows 5 (d'.a.gone.map Lot.enc)))
   (hf : ∀ k : Key, k ≠ (41, d.k) → k ∉ Go.Pv.keyOf d.v → k ≠ (42, g) → k.2 < c k.1 → h' k = h k) (hc : ∀ t, c t ≤ c' t) (hc42 : g < c' 42) : TakeI m ds h0 c0 (i + 1) (n - min n d.a.left) (es.set i d') h' c' := by
 have hge := H.get hd;have hlt := (List.getElem?_eq_some_iff.1 hge).1;have hdr : es.drop i = d :: es.drop (i + 1) := (List.getElem?_eq_some_iff.1 hge).2 ▸ List.drop_eq_getElem_cons hlt;have hmem : d ∈ es := List.mem_of_getElem? hge;have hkd' : ownOf d' = [(41, d.k), (42, g)] := by rw [hd']; simp [ownOf, Go.Pv.keyOf]
 have hsp := ownD_split hge;have hnd := H.nd;rw [hsp] at hnd;have hfresh : ∀ k ∈ ownD es, k ≠ (42, g) := fun k hk e => by have := H.kn k hk; rw [e, hg] at this; exact absurd this (Nat.lt_irrefl _)
 have hself : ∀ e : Dv, e ∈ es.take i ∨ e ∈ es.drop (i + 1) → ∀ k ∈ ownOf e, h' k = h k := by
   intro e he k hk;have hke : k ∈ ownD (es.take i) ∨ k ∈ ownD (es.drop (i + 1)) := he.imp (fun h => ownOf_sub h hk) fun h => ownOf_sub h hk;have hkes : k ∈ ownD es := by rw [hsp]; rcases hke with h | h <;> simp [h]
   have hno : k ∉ ownOf d := by
     intro hc2;rw [List.nodup_append] at hnd;rcases hke with h | h
     · exact hnd.2.2 k h k (List.mem_append.2 (.inl hc2)) rfl
     · exact (List.nodup_append.1 hnd.2.1).2.2 k hc2 k h rfl
   exact hf k (fun e => hno (by rw [e]; simp [ownOf])) (fun h => hno (by simp [ownOf, h])) (hfresh k hkes) (H.kn k hkes)
 refine ⟨?_, ?_, ?_, ?_, ?_, ?_, ?_, ?_, fun t => Nat.le_trans (H.cm t) (hc t), ?_⟩
 · rw [← H.keys, List.map_set];apply List.ext_getElem?;intro j;rw [List.getElem?_set];split
   · rename_i hj; subst hj; rw [if_pos (by simpa using hlt), List.getElem?_map, hge, hd']; rfl
   · rfl
 · rw [H.tl, hdr, List.map_cons, takeL, if_pos hm, List.take_add_one, List.getElem?_set_self hlt, List.take_set_of_le (Nat.le_refl _)];rw [List.drop_set_of_lt (by omega), hd'];simp
 · rw [List.drop_set_of_lt (by omega)];have := congrArg (List.drop 1) H.dr;simpa [List.drop_drop] using this
 · intro e he;rw [List.set_eq_take_append_cons_drop, if_pos hlt] at he;rcases List.mem_append.1 he with h1 | h1
   · exact (H.at_ e (List.mem_of_mem_take h1)).keep (hself e (.inl h1))
   · rcases List.mem_cons.1 h1 with rfl | h1
     · refine ⟨by rw [hd']; exact hbox, .inr ⟨g, ?_, hgn⟩⟩;rw [hd']; simp
     · exact (H.at_ e (List.mem_of_mem_drop h1)).keep (hself e (.inr h1))
 · rw [ownD_set hge];refine nodup_mid hnd (by rw [hkd']; simp) fun k hk => ?_;rw [hkd'] at hk;rcases List.mem_cons.1 hk with rfl | hk
   · left; simp [ownOf]
   · simp at hk; subst hk;right;exact ⟨fun h => hfresh _ (by rw [hsp]; simp [h]) rfl, fun h => hfresh _ (by rw [hsp]; simp [h]) rfl⟩
 · intro k hk;rw [ownD_set hge, hkd'] at hk
   have : k ∈ ownD es ∨ k = (42, g) := by
     rw [hsp];simp only [List.mem_append, List.mem_cons, List.not_mem_nil, or_false] at hk ⊢;rcases hk with h | (rfl | rfl) | h
     · exact .inl (.inl h)
     · left; right; left; simp [ownOf]
     · exact .inr rfl
     · exact .inl (.inr (.inr h))
   rcases this with h | rfl
   · exact Nat.lt_of_lt_of_le (H.kn k h) (hc _)
   · exact hc42
 · intro k hk;rw [ownD_set hge, hkd'] at hk
   have : k ∈ ownD es ∨ k = (42, g) := by
     rw [hsp];simp only [List.mem_append, List.mem_cons, List.not_mem_nil, or_false] at hk ⊢;rcases hk with h | (rfl | rfl) | h
     · exact .inl (.inl h)
     · left; right; left; simp [ownOf]
     · exact .inr rfl
     · exact .inl (.inr (.inr h))
   rcases this with h | rfl
   · exact H.sub k h
   · right; rw [hg]; exact H.cm 42
 · intro k hk hk2
   have hown : k ∉ ownD es := fun h => by
     rcases H.sub k h with h2 | h2
     · exact hk h2
     · omega
   have hno : k ∉ ownOf d := fun h => hown (ownOf_sub hmem h);rw [hf k (fun e => hno (by rw [e]; simp [ownOf])) (fun h => hno (by simp [ownOf, h])) (fun e => by rw [e, hg] at hk2; have := H.cm 42; simp only at hk2; omega) (Nat.lt_of_lt_of_le hk2 (H.cm _))];exact H.fr k hk hk2
 · have := H.nb; omega
end
end Go.Proofs.YtjihcgcbnbaclaaGreatDoor.Y9
