import Derived.Test.YtjihcgcbnbaclaaGreatDoorRMov7
set_option linter.unusedSimpArgs false
set_option linter.unusedVariables false
namespace Go.Proofs.YtjihcgcbnbaclaaGreatDoor.Y9
open Go Go.Pv Go.Proofs.YtjihcgcbnbaclaaGreatDoor
structure Cm where
 v : PV
 ds : List Dv
 deriving Inhabited
def ccell (c : Cm) : List PV := [c.v]
def ownC (c : Cm) : List Key := Go.Pv.keyOf c.v ++ ownD c.ds
def ownS (cs : List Cm) : List Key := cs.flatMap ownC
def stepD (m : Move) (ds : List Da) : List Da := if m.kind = 0 then ds ++ [⟨m.day, m.count, []⟩] else takeL m m.count ds
def stepC (ts : List Term) (cs : List (List Da)) (m : Move) : List (List Da) := cs.set (termIx ts m.part).toNat (stepD m (cs.getD (termIx ts m.part).toNat []))
def cameL (ts : List Term) (ms : List Move) : List (List Da) := ms.foldl (stepC ts) (List.replicate ts.length [])
structure LotsI (ts : List Term) (pre : List Move) (cs : List Cm) (h : Heap) (c : Nat → Nat) : Prop where
 len : cs.length = ts.length
 abs : cs.map (fun x => x.ds.map (·.a)) = cameL ts pre
 outer : h (16, 0) = some (.rows 1 (cs.map ccell))
 came : ∀ x ∈ cs, SliceAt h 43 x.v 1 (x.ds.map dcell)
 at_ : ∀ x ∈ cs, ∀ d ∈ x.ds, DvAt h d
 nd : (ownS cs).Nodup
 kn : ∀ k ∈ ownS cs, k.2 < c k.1
 k16 : 0 < c 16
theorem cameL_snoc (ts : List Term) (pre : List Move) (m : Move) : cameL ts (pre ++ [m]) = stepC ts (cameL ts pre) m := by unfold cameL; rw [List.foldl_append]; rfl
theorem came_key {h : Heap} {x : Cm} (hs : SliceAt h 43 x.v 1 (x.ds.map dcell)) : ∀ k ∈ Go.Pv.keyOf x.v, k.1 = 43 := fun k hk => by
 rcases hs with ⟨_, h2⟩ | ⟨g, h2, h3⟩
 · rw [h2] at hk; simp [Go.Pv.keyOf] at hk
 · rw [h2] at hk; simp [Go.Pv.keyOf] at hk; subst hk; rfl
theorem ownD_site {h : Heap} {ds : List Dv} (ha : ∀ d ∈ ds, DvAt h d) : ∀ k ∈ ownD ds, k.1 = 41 ∨ k.1 = 42 := fun k hk => by
 obtain ⟨d, hd, hk⟩ := List.mem_flatMap.1 hk;rcases List.mem_cons.1 hk with e | e
 · left; rw [e]
 · right; exact ((ha d hd).key42 _ e).1
theorem ownC_sub {cs : List Cm} {x : Cm} (hx : x ∈ cs) {k : Key} (hk : k ∈ ownC x) : k ∈ ownS cs := List.mem_flatMap.2 ⟨x, hx, hk⟩
theorem ownS_split {cs : List Cm} {i : Nat} {x : Cm} (hd : cs[i]? = some x) : ownS cs = ownS (cs.take i) ++ (ownC x ++ ownS (cs.drop (i + 1))) := by
 have hlt := (List.getElem?_eq_some_iff.1 hd).1
 have : cs = cs.take i ++ x :: cs.drop (i + 1) := by
   have h1 := (List.getElem?_eq_some_iff.1 hd).2;rw [← h1, ← List.drop_eq_getElem_cons hlt, List.take_append_drop]
 unfold ownS
 conv => lhs; rw [this]
 rw [List.flatMap_append, List.flatMap_cons]
theorem ownS_set {cs : List Cm} {i : Nat} {x y : Cm} (hd : cs[i]? = some x) : ownS (cs.set i y) = ownS (cs.take i) ++ (ownC y ++ ownS (cs.drop (i + 1))) := by
 have hlt := (List.getElem?_eq_some_iff.1 hd).1;rw [List.set_eq_take_append_cons_drop, if_pos hlt];unfold ownS;rw [List.flatMap_append, List.flatMap_cons]
section
variable {ts : List Term} {pre : List Move} {cs : List Cm} {h h' : Heap} {c c' : Nat → Nat} {m : Move} {x : Cm}
theorem LotsI.keep (H : LotsI ts pre cs h c) (hk : ∀ k : Key, k.1 ≠ 7 → h' k = h k) (hc : ∀ t, c t ≤ c' t) : LotsI ts pre cs h' c' :=
 ⟨H.len, H.abs, (hk _ (by simp)).trans H.outer, fun x hx => (H.came x hx).keep fun g => hk _ (by simp), fun x hx d hd => (H.at_ x hx d hd).keep fun k hk2 => hk k (by
   have := ownD_site (H.at_ x hx) k (ownOf_sub hd hk2); omega), H.nd, fun k hk2 => Nat.lt_of_lt_of_le (H.kn k hk2) (hc _), Nat.lt_of_lt_of_le H.k16 (hc _)⟩
theorem lots_0 (ts : List Term) (hc : 0 < c 16) (ho : h (16, 0) = some (.rows 1 (List.replicate ts.length [.nil]))) : LotsI ts [] (List.replicate ts.length ⟨.nil, []⟩) h c := by
 have h0 : ∀ x ∈ List.replicate ts.length (⟨.nil, []⟩ : Cm), x = ⟨.nil, []⟩ := fun x hx => (List.mem_replicate.1 hx).2
 have h1 : ownS (List.replicate ts.length (⟨.nil, []⟩ : Cm)) = [] := by
   unfold ownS;rw [List.flatMap_eq_nil_iff];intro x hx; rw [h0 x hx]; rfl
 refine ⟨by simp, by simp [cameL], by rw [ho]; simp [ccell], fun x hx => by rw [h0 x hx]; exact .nil, fun x hx d hd => by rw [h0 x hx] at hd; simp at hd, by rw [h1]; simp, fun k hk => by rw [h1] at hk; simp at hk, hc⟩
theorem LotsI.abs_get {i : Nat} (H : LotsI ts pre cs h c) (hx : cs[i]? = some x) : (cameL ts pre).getD i [] = x.ds.map (·.a) := by
 rw [← H.abs, List.getD_eq_getElem?_getD, List.getElem?_map, hx]; rfl
theorem LotsI.turn {i : Nat} {y : Cm} (H : LotsI ts pre cs h c) (hx : cs[i]? = some x) (hi : (termIx ts m.part).toNat = i) (hy : y.ds.map (·.a) = stepD m (x.ds.map (·.a)))
   (ho : h' (16, 0) = some (.rows 1 ((cs.set i y).map ccell))) (hyc : SliceAt h' 43 y.v 1 (y.ds.map dcell)) (hya : ∀ d ∈ y.ds, DvAt h' d) (hyn : (ownC y).Nodup) (hys : ∀ k ∈ ownC y, k ∈ ownC x ∨ c k.1 ≤ k.2) (hyk : ∀ k ∈ ownC y, k.2 < c' k.1)
   (hf : ∀ k : Key, k ≠ (16, 0) → k ∉ ownC x → k.2 < c k.1 → h' k = h k) (hc : ∀ t, c t ≤ c' t) : LotsI ts (pre ++ [m]) (cs.set i y) h' c' := by
 have hlt := (List.getElem?_eq_some_iff.1 hx).1;have hsp := ownS_split hx;have hnd := H.nd;rw [hsp] at hnd
 have hoth : ∀ e : Cm, e ∈ cs.take i ∨ e ∈ cs.drop (i + 1) → ∀ k ∈ ownC e, h' k = h k ∧ k.2 < c k.1 := by
   intro e he k hk;have hec : e ∈ cs := he.elim List.mem_of_mem_take List.mem_of_mem_drop;have hks := H.kn k (ownC_sub hec hk);have hke : k ∈ ownS (cs.take i) ∨ k ∈ ownS (cs.drop (i + 1)) := he.imp (fun h => ownC_sub h hk) fun h => ownC_sub h hk;refine ⟨hf k (fun e2 => ?_) (fun hc2 => ?_) hks, hks⟩
   · rcases List.mem_append.1 hk with h3 | h3
     · have := came_key (H.came e hec) k h3; rw [e2] at this; simp at this
     · have := ownD_site (H.at_ e hec) k h3; rw [e2] at this; simp at this
   · rw [List.nodup_append] at hnd;rcases hke with h | h
     · exact hnd.2.2 k h k (List.mem_append.2 (.inl hc2)) rfl
     · exact (List.nodup_append.1 hnd.2.1).2.2 k hc2 k h rfl
 have hmem : ∀ e ∈ cs.set i y, e = y ∨ (e ∈ cs.take i ∨ e ∈ cs.drop (i + 1)) := fun e he => by
   rw [List.set_eq_take_append_cons_drop, if_pos hlt] at he;rcases List.mem_append.1 he with h1 | h1
   · exact .inr (.inl h1)
   · rcases List.mem_cons.1 h1 with rfl | h1
     · exact .inl rfl
     · exact .inr (.inr h1)
 have hmc : ∀ e : Cm, e ∈ cs.take i ∨ e ∈ cs.drop (i + 1) → e ∈ cs := fun e he => he.elim List.mem_of_mem_take List.mem_of_mem_drop;refine ⟨by rw [List.length_set]; exact H.len, ?_, ho, ?_, ?_, ?_, ?_, Nat.lt_of_lt_of_le H.k16 (hc _)⟩
 · rw [cameL_snoc, stepC, hi, H.abs_get hx, List.map_set, hy, H.abs]
 · intro e he;rcases hmem e he with rfl | he
   · exact hyc
   · rcases H.came e (hmc e he) with h2 | ⟨g, h2, h3⟩
     · exact .inl h2
     · exact .inr ⟨g, h2, ((hoth e he (43, g) (by rw [ownC, h2]; simp [Go.Pv.keyOf])).1).trans h3⟩
 · intro e he;rcases hmem e he with rfl | he
   · exact hya
   · exact fun d hd => (H.at_ e (hmc e he) d hd).keep fun k hk => (hoth e he k (List.mem_append.2 (.inr (ownOf_sub hd hk)))).1
 · rw [ownS_set hx];refine nodup_mid hnd hyn fun k hk => ?_;rcases hys k hk with h1 | h1
   · exact .inl h1
   · right;refine ⟨fun h2 => ?_, fun h2 => ?_⟩
     · obtain ⟨e, he, hke⟩ := List.mem_flatMap.1 h2;have := (hoth e (.inl he) k hke).2; omega
     · obtain ⟨e, he, hke⟩ := List.mem_flatMap.1 h2;have := (hoth e (.inr he) k hke).2; omega
 · intro k hk;obtain ⟨e, he, hke⟩ := List.mem_flatMap.1 hk;rcases hmem e he with rfl | he
   · exact hyk k hke
   · exact Nat.lt_of_lt_of_le (hoth e he k hke).2 (hc _)
theorem LotsI.taken {i : Nat} {es : List Dv} (H : LotsI ts pre cs h c) (hx : cs[i]? = some x) (hi : (termIx ts m.part).toNat = i) (hm : ¬ m.kind = 0) (T : TakeR m x.ds h c es h' c') : LotsI ts (pre ++ [m]) (cs.set i ⟨x.v, es⟩) h' c' := by
 have hxc : x ∈ cs := List.mem_of_getElem? hx;have hlt := (List.getElem?_eq_some_iff.1 hx).1;have hsite := ownD_site (H.at_ x hxc)
 have hkv : ∀ k ∈ Go.Pv.keyOf x.v, k ∉ ownD x.ds := fun k hk h2 => by
   have h3 := came_key (H.came x hxc) k hk; have h4 := hsite k h2; omega
 have hnx : (ownC x).Nodup := by
   have := H.nd; rw [ownS_split hx, List.nodup_append] at this;exact (List.nodup_append.1 this.2.1).1
 have hcell : es.map dcell = x.ds.map dcell := by
   have h1 := T.keys;have : ∀ l : List Dv, l.map dcell = (l.map (·.k)).map fun k => [PV.ptr (41, k) 3 0 0] := fun l => by simp [dcell]
   rw [this, this, h1]
 have hse : ∀ k ∈ ownD es, k.1 = 41 ∨ k.1 = 42 := ownD_site T.at_;refine H.turn hx hi ?_ ?_ ?_ T.at_ ?_ ?_ ?_ ?_ T.cm
 · rw [T.tl, stepD, if_neg hm]
 · rw [T.fr (16, 0) (fun h2 => by have := hsite _ h2; simp at this) H.k16, H.outer];congr 2;apply List.ext_getElem?;intro j;rw [List.getElem?_map, List.getElem?_map, List.getElem?_set];split
   · rename_i hj; subst hj; rw [hx]; rfl
   · rfl
 · show SliceAt h' 43 x.v 1 (es.map dcell);rw [hcell];rcases H.came x hxc with h2 | ⟨g, h2, h3⟩
   · exact .inl h2
   · exact .inr ⟨g, h2, (T.fr (43, g) (hkv _ (by rw [h2]; simp [Go.Pv.keyOf])) (H.kn (43, g) (ownC_sub hxc (by rw [ownC, h2]; simp [Go.Pv.keyOf])))).trans h3⟩
 · rw [ownC, List.nodup_append];refine ⟨(List.nodup_append.1 hnx).1, T.nd, fun a ha b hb e => ?_⟩;have h1 := came_key (H.came x hxc) a ha;have h2 := hse b hb;rw [e] at h1; omega
 · intro k hk;rcases List.mem_append.1 hk with h1 | h1
   · exact .inl (List.mem_append.2 (.inl h1))
   · exact (T.sub k h1).imp (fun h => List.mem_append.2 (.inr h)) id
 · intro k hk;rcases List.mem_append.1 hk with h1 | h1
   · exact Nat.lt_of_lt_of_le (H.kn k (ownC_sub hxc (List.mem_append.2 (.inl h1)))) (T.cm _)
   · exact T.kn k h1
 · intro k _ h2 h3;exact T.fr k (fun h4 => h2 (List.mem_append.2 (.inr h4))) h3
theorem LotsI.came1 {i : Nat} {y : Cm} (H : LotsI ts pre cs h c) (hx : cs[i]? = some x) (hi : (termIx ts m.part).toNat = i) (hm : m.kind = 0) (hy : y = ⟨.ref (43, c 43) 1 0 (x.ds.length + 1), x.ds ++ [⟨c 41, .nil, ⟨m.day, m.count, []⟩⟩]⟩)
   (ho : h' (16, 0) = some (.rows 1 ((cs.set i y).map ccell))) (hgc : h' (43, c 43) = some (.rows 1 (x.ds.map dcell ++ [[.ptr (41, c 41) 3 0 0]]))) (hgb : h' (41, c 41) = some (.rows 3 [[.int m.day, .int m.count, .nil]]))
   (hf : ∀ k : Key, k ≠ (16, 0) → k ∉ Go.Pv.keyOf x.v → k.2 < c k.1 → h' k = h k) (hc : ∀ t, c t ≤ c' t) (h41 : c 41 < c' 41) (h43 : c 43 < c' 43) : LotsI ts (pre ++ [m]) (cs.set i y) h' c' := by
 have hxc : x ∈ cs := List.mem_of_getElem? hx;have hsite := ownD_site (H.at_ x hxc)
 have hnx : (ownC x).Nodup := by
   have := H.nd; rw [ownS_split hx, List.nodup_append] at this;exact (List.nodup_append.1 this.2.1).1
 have hkv : ∀ k ∈ ownD x.ds, k ∉ Go.Pv.keyOf x.v := fun k h2 hk => by
   have h3 := came_key (H.came x hxc) k hk; have h4 := hsite k h2; omega
 have hknx : ∀ k ∈ ownD x.ds, k.2 < c k.1 := fun k hk => H.kn k (ownC_sub hxc (List.mem_append.2 (.inr hk)))
 have hoy : ownC y = (43, c 43) :: (ownD x.ds ++ [(41, c 41)]) := by
   rw [hy]; simp [ownC, ownD, ownOf, Go.Pv.keyOf]
 refine H.turn hx hi ?_ ho ?_ ?_ ?_ ?_ ?_ ?_ hc
 · rw [hy, stepD, if_pos hm]; simp
 · rw [hy];refine .inr ⟨c 43, by simp, ?_⟩;rw [hgc]; simp [dcell]
 · intro d hd;rw [hy] at hd;rcases List.mem_append.1 hd with h1 | h1
   · refine (H.at_ x hxc d h1).keep fun k hk => ?_;have hk2 := ownOf_sub h1 hk;exact hf k (fun e => by have := hsite k hk2; rw [e] at this; simp at this) (hkv k hk2) (hknx k hk2)
   · simp at h1; subst h1;exact ⟨hgb, .inl ⟨rfl, rfl⟩⟩
 · rw [hoy, List.nodup_cons, List.nodup_append];refine ⟨fun h1 => ?_, (List.nodup_append.1 hnx).2.1, by simp, fun a ha b hb e => ?_⟩
   · rcases List.mem_append.1 h1 with h2 | h2
     · have := hsite _ h2; simp at this
     · simp at h2
   · simp at hb; subst hb; subst e;have := hknx _ ha;simp at this
 · intro k hk;rw [hoy] at hk;rcases List.mem_cons.1 hk with rfl | hk
   · right; exact Nat.le_refl _
   · rcases List.mem_append.1 hk with h2 | h2
     · left; exact List.mem_append.2 (.inr h2)
     · simp at h2; subst h2; right; exact Nat.le_refl _
 · intro k hk;rw [hoy] at hk;rcases List.mem_cons.1 hk with rfl | hk
   · exact h43
   · rcases List.mem_append.1 hk with h2 | h2
     · exact Nat.lt_of_lt_of_le (hknx k h2) (hc _)
     · simp at h2; subst h2; exact h41
 · intro k h1 h2 h3;exact hf k h1 (fun h4 => h2 (List.mem_append.2 (.inl h4))) h3
end
def okD (k : Nat) (d : Da) : Prop := (0 ≤ d.left ∧ d.left ≤ 100000) ∧ d.gone.length ≤ k
theorem takeL_ok (m : Move) {k : Nat} : ∀ (l : List Da) (n : Int), (∀ d ∈ l, okD k d) → ∀ d ∈ takeL m n l, okD (k + 1) d
 | [], _, _ => by intro d hd; simp [takeL] at hd
 | a :: l, n, h => by
   have h0 := h a (by simp);have h1 := fun n => takeL_ok m l n fun d hd => h d (by simp [hd]);unfold takeL;split
   · intro d hd;rcases List.mem_cons.1 hd with rfl | hd
     · unfold okD at h0 ⊢; simp; omega
     · exact h1 _ d hd
   · intro d hd;rcases List.mem_cons.1 hd with rfl | hd
     · unfold okD at h0 ⊢; omega
     · exact h1 _ d hd
theorem came_ok {ts : List Term} : ∀ (l pre : List Move), (∀ ds ∈ cameL ts pre, ds.length ≤ pre.length ∧ ∀ d ∈ ds, okD pre.length d) → (∀ m ∈ l, okM m) → ∀ ds ∈ cameL ts (pre ++ l), ds.length ≤ (pre ++ l).length ∧ ∀ d ∈ ds, okD (pre ++ l).length d
 | [], pre, h, _ => by simpa using h
 | m :: l, pre, h, hok => by
   have := came_ok (ts := ts) l (pre ++ [m]) ?_ fun x hx => hok x (by simp [hx])
   · simpa using this
   · intro ds hds;rw [cameL_snoc, stepC] at hds;rw [List.length_append];have hup : ∀ d, okD pre.length d → okD (pre.length + 1) d := fun d hd => by unfold okD at hd ⊢; omega
     rcases List.mem_or_eq_of_mem_set hds with h1 | h1
     · exact ⟨by have := (h ds h1).1; omega, fun d hd => hup d ((h ds h1).2 d hd)⟩
     · have hold : ((cameL ts pre).getD (termIx ts m.part).toNat []).length ≤ pre.length ∧ ∀ d ∈ (cameL ts pre).getD (termIx ts m.part).toNat [], okD pre.length d := by
         rw [List.getD_eq_getElem?_getD];cases hq : (cameL ts pre)[(termIx ts m.part).toNat]? with
         | none => simp
         | some a => exact h a (List.mem_of_getElem? hq)
       have hm := (hok m (by simp)).2;rw [h1, stepD];split
       · refine ⟨by rw [List.length_append]; simp only [List.length_cons, List.length_nil]; omega, fun d hd => ?_⟩;rcases List.mem_append.1 hd with hd | hd
         · exact hup d (hold.2 d hd)
         · simp at hd; subst hd; unfold okD; simp; omega
       · exact ⟨by rw [takeL_len]; simp only [List.length_cons, List.length_nil]; omega, takeL_ok m _ _ hold.2⟩
theorem came_bnd {ts : List Term} {ms : List Move} (hok : ∀ m ∈ ms, okM m) : ∀ ds ∈ cameL ts ms, ds.length ≤ ms.length ∧ ∀ d ∈ ds, okD ms.length d := by
 have := came_ok (ts := ts) ms [] (by intro ds hds; simp [cameL] at hds; rw [hds.2]; simp) hok;simpa using this
def outD (p : ByteArray) (d : Da) : List Lot := d.gone ++ if 0 < d.left then [⟨p, d.left, d.day, -1, -1⟩] else []
def outL (ts : List Term) (cs : List (List Da)) : List Lot := (ts.zip cs).flatMap fun q => q.2.flatMap (outD q.1.part)
end Go.Proofs.YtjihcgcbnbaclaaGreatDoor.Y9
