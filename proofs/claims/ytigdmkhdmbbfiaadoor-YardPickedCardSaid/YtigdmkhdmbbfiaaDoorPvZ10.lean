/- Own rows of truth values; entries of own maps that are made and stored in two steps. -/
import Derived.Test.YtigdmkhdmbbfiaaDoorPvZ9
namespace Go.Pv
open Go Go.RowKit
section
variable {P : Program} {ρ : Operand → PV} {h : Heap} {key : Key} {x y : Operand} {t : TypeId}
end
/-! ### Entries that are made, and stored -/
section
variable {α β : Type} [DecidableEq α] {f : α → PV} {g : β → PV}
/-- The map has an entry for a, with the stamp s. -/
def StampAt (h : Heap) (k : Key) (f : α → PV) (g : β → PV) (l : List (α × β)) (a : α) (s : Nat) : Prop :=
  ∃ bs clk, h k = some (.map (entsOf f g l) bs clk) ∧ bs.length = (entsOf f g l).length ∧ bs.Nodup ∧ (∀ b ∈ bs, b < clk) ∧ ∀ v, setStamp (s : Int) (g v) (entsOf f g l) bs = some (entsOf f g (aSet a v l))
theorem aSet_eq {a : α} {u : β} {e : α × β} {l : List (α × β)} (h : a = e.1) : aSet a u (e :: l) = (a, u) :: l := by simp [aSet, h]
theorem aSet_ne {a : α} {u : β} {e : α × β} {l : List (α × β)} (h : ¬ a = e.1) : aSet a u (e :: l) = e :: aSet a u l := by simp [aSet, h]
theorem aSet_aSet {a : α} {u v : β} : ∀ l : List (α × β), aSet a v (aSet a u l) = aSet a v l
  | [] => by simp [aSet]
  | e :: l => by
    by_cases he : a = e.1
    · rw [aSet_eq he, aSet_eq he, aSet_eq (e := (a, u)) rfl]
    · rw [aSet_ne he, aSet_ne he, aSet_ne he, aSet_aSet l]
theorem aSet_len {a : α} {u v : β} : ∀ l : List (α × β), (aSet a u l).length = (aSet a v l).length
  | [] => by simp [aSet]
  | e :: l => by
    by_cases he : a = e.1
    · rw [aSet_eq he, aSet_eq he]; rfl
    · rw [aSet_ne he, aSet_ne he, List.length_cons, List.length_cons, aSet_len l]
theorem stampOf_mem {k : PV} : ∀ (es : List (PV × PV)) (bs : List Nat) (clk : Nat), stampOf k es bs clk ∈ bs ∨ stampOf k es bs clk = clk
  | [], _, _ => .inr (by simp [stampOf])
  | _ :: _, [], _ => .inr (by simp [stampOf])
  | e :: es, b :: bs, clk => by
    unfold stampOf
    split
    · exact .inl List.mem_cons_self
    · exact (stampOf_mem es bs clk).imp_left (List.mem_cons_of_mem _)
theorem stampOf_set (hf : ∀ a b, keyEq (f a) (f b) = decide (a = b)) (a : α) (u : β) : ∀ (l : List (α × β)) (bs : List Nat) (clk : Nat), bs.length = l.length → bs.Nodup → (∀ b ∈ bs, b < clk) →
    ∀ v, setStamp (stampOf (f a) (entsOf f g l) bs clk : Int) (g v) (entsOf f g (aSet a u l)) (stB (f a) (entsOf f g l) bs clk) = some (entsOf f g (aSet a v l))
  | [], bs, clk, hl, _, _, v => by
    have : bs = [] := List.length_eq_zero_iff.1 hl
    subst this
    simp [entsOf, aSet, stampOf, stB, setStamp, mapFind]
  | e :: l, [], clk, hl, _, _, v => by simp at hl
  | e :: l, b :: bs, clk, hl, hn, hb, v => by
    have hn' := List.nodup_cons.1 hn
    have hfe := hf a e.1
    show setStamp (stampOf (f a) ((f e.1, g e.2) :: entsOf f g l) (b :: bs) clk : Int) (g v) (entsOf f g (aSet a u (e :: l))) (stB (f a) ((f e.1, g e.2) :: entsOf f g l) (b :: bs) clk) = some (entsOf f g (aSet a v (e :: l)))
    by_cases he : a = e.1
    · subst he
      simp only [decide_true] at hfe
      simp [stampOf, hfe, stB, mapFind, aSet, entsOf, setStamp]
    · rw [decide_eq_false he] at hfe
      have ih := stampOf_set hf a u l bs clk (by simpa using hl) hn'.2 (fun x hx => hb x (List.mem_cons_of_mem _ hx)) v
      have hs : stampOf (f a) ((f e.1, g e.2) :: entsOf f g l) (b :: bs) clk = stampOf (f a) (entsOf f g l) bs clk := by simp [stampOf, hfe]
      have hB : stB (f a) ((f e.1, g e.2) :: entsOf f g l) (b :: bs) clk = b :: stB (f a) (entsOf f g l) bs clk := by
        unfold stB
        have : mapFind (f a) ((f e.1, g e.2) :: entsOf f g l) = mapFind (f a) (entsOf f g l) := by simp [mapFind, hfe]
        rw [this]; split <;> rfl
      have hne : ¬ (b : Int) = (stampOf (f a) (entsOf f g l) bs clk : Int) := fun h => by
        have h' : b = stampOf (f a) (entsOf f g l) bs clk := by omega
        rcases stampOf_mem (k := f a) (entsOf f g l) bs clk with h2 | h2
        · rw [← h'] at h2; exact hn'.1 h2
        · have := hb b List.mem_cons_self; omega
      rw [hs, hB]
      have e1 : entsOf f g (aSet a u (e :: l)) = (f e.1, g e.2) :: entsOf f g (aSet a u l) := by simp [aSet, he, entsOf]
      have e2 : entsOf f g (aSet a v (e :: l)) = (f e.1, g e.2) :: entsOf f g (aSet a v l) := by simp [aSet, he, entsOf]
      rw [e1, e2]
      unfold setStamp
      rw [if_neg (by simpa using hne), ih]; rfl
/-- The effect of making an entry. -/
theorem e_mentry {P : Program} {ρ : Operand → PV} {h : Heap} {key : Key} {x y : Operand} {t : TypeId} {kt et : TypeId} {k : Key} {l : List (α × β)} {a : α} {z : β} (hf : ∀ a b, keyEq (f a) (f b) = decide (a = b)) (hko : ∀ a, keyOk P kt (f a)) (hx : ρ x = .map k) (hy : ρ y = f a) (hm : MapAt h k (entsOf f g l)) (ht : mapTy P t = some (kt, et)) (hz : zeroFit P et = true) (hzv : zeroVal P et = g z) (hmv : ∀ b, mval (g b) = true) :
    ∃ (s : Nat) (o : PObj), eff P ρ h key (.mapEntry t x y) = ⟨True, .tup [g ((aGet a l).getD z), .int s], [(k, some o)], [k], false⟩ ∧ ∀ h' : Heap, h' k = some o → StampAt h' k f g (aSet a ((aGet a l).getD z) l) a s := by
  obtain ⟨bs, clk, h1, h2, h3, h4⟩ := hm
  have hl : bs.length = l.length := by rw [h2]; simp [entsOf]
  have hv : (mapFind (f a) (entsOf f g l)).getD (zeroVal P et) = g ((aGet a l).getD z) := by
    rw [mapFind_of hf, hzv]; cases aGet a l <;> rfl
  refine ⟨stampOf (f a) (entsOf f g l) bs clk, .map (entsOf f g (aSet a ((aGet a l).getD z) l)) (stB (f a) (entsOf f g l) bs clk) (stC (f a) (entsOf f g l) clk), ?_, fun h' hh => ?_⟩
  · simp only [eff, mapEntryEff, hx, hy, ht, h1, hv, mapSet_of hf]
    simp [hko a, hz, hmv]
    exact fun u w hu => ents_ok (g := g) (l := l) hko (u, w) hu
  · have hq := MapAt.set (f := f) (g := g) (h := h) (k := k) (l := l) hf ⟨bs, clk, h1, h2, h3, h4⟩ a ((aGet a l).getD z)
    obtain ⟨bs', clk', q1, q2, q3, q4⟩ := hq
    simp only [hset, if_true, h1, mSet, mapSet_of hf, Option.some.injEq, PObj.map.injEq] at q1
    obtain ⟨_, rfl, rfl⟩ := q1
    refine ⟨_, _, hh, q2, q3, q4, fun v => ?_⟩
    rw [stampOf_set hf a _ l bs clk hl h3 h4 v, aSet_aSet]
theorem e_estore {P : Program} {ρ : Operand → PV} {h : Heap} {key : Key} {x y w : Operand} {t : TypeId} {k : Key} {l : List (α × β)} {a : α} {b : β} {s : Nat} (hx : ρ x = .map k) (hy : ρ y = .int s) (hw : ρ w = g b) (hm : StampAt h k f g l a s) (hmv : mval (g b) = true) :
    ∃ o : PObj, eff P ρ h key (.entryStore t x y w) = ⟨True, .dead, [(k, some o)], [k], false⟩ ∧ ∀ h' : Heap, h' k = some o → (l.map (·.1)).length = ((aSet a b l).map (·.1)).length → MapAt h' k (entsOf f g (aSet a b l)) := by
  obtain ⟨bs, clk, h1, h2, h3, h4, h5⟩ := hm
  refine ⟨.map (entsOf f g (aSet a b l)) bs clk, ?_, fun h' hh hl => ⟨bs, clk, hh, ?_, h3, h4⟩⟩
  · simp only [eff, entryStoreEff, hx, hy, hw, h1, h5 b]
    simp [hmv]
  · rw [h2]; simpa [entsOf] using hl
end
section
variable {α β : Type} [DecidableEq α] {f : α → PV} {g : β → PV}
variable {P : Program} {K : PS → Prop} {d : Nat} {ty : TypeId} {pos : String} {aft : Array Edge} {gd : Option (Nat × Bool)} {rest : List Oper} {r : Nat → PV} {h : Heap} {cnt : Nat → Nat} {ops : Array Oper} {i : Nat} {G : Nat → Bool} {dd : Bool} {x y w : Operand} {t : TypeId}
/-- An entry is made. -/
theorem s_mentry {kt et : TypeId} {m q : Nat} {l : List (α × β)} {a : α} {z : β} {ts : List Ft} (hf : ∀ a b, keyEq (f a) (f b) = decide (a = b)) (hko : ∀ a, keyOk P kt (f a)) (hg : gobB ops r G gd = true) (hgv : gval ops ⟨⟨r, h, cnt⟩, G⟩ gd = true) (hv : validB r G (.mapEntry t x y) = true) (hx : ev r x = .map (m, q)) (hy : ev r y = f a) (hm : MapAt h (m, q) (entsOf f g l)) (ht : mapTy P t = some (kt, et)) (hz : zeroFit P et = true) (hzv : zeroVal P et = g z) (hmv : ∀ b, mval (g b) = true)
    (hk : ∀ (h' : Heap) (s : Nat), StampAt h' (m, q) f g (aSet a ((aGet a l).getD z) l) a s → (∀ k' : Key, k' ≠ (m, q) → h' k' = h k') → sRun P ops dd K rest (i + 1) ⟨setT r d (.tup [g ((aGet a l).getD z), .int s]), h', cnt⟩ (setB G d true) (ts ++ [⟨i, [m], [m]⟩])) :
    sRun P ops dd K (⟨some d, .mapEntry t x y, ty, pos, aft, gd⟩ :: rest) i ⟨r, h, cnt⟩ G ts := by
  obtain ⟨s, o, he, hS⟩ := e_mentry (key := (d, cnt d)) hf hko hx hy hm ht hz hzv hmv
  exact s_any [m] [m] hg hgv (by rw [he]; simp) (by rw [he]; simp) rfl hv rfl (by rw [he]; trivial) (by
    rw [he]
    exact hk (hset h (m, q) (some o)) s (hS _ (hset_self _ _ _)) fun k' hk' => hset_ne hk')
/-- The entry gets its value. -/
theorem s_estore {m q : Nat} {l : List (α × β)} {a : α} {b u : β} {s : Nat} {ts : List Ft} (hv : validB r G (.entryStore t x y w) = true) (hx : ev r x = .map (m, q)) (hy : ev r y = .int s) (hw : ev r w = g b) (hm : StampAt h (m, q) f g (aSet a u l) a s) (hmv : mval (g b) = true)
    (hk : ∀ h' : Heap, MapAt h' (m, q) (entsOf f g (aSet a b l)) → (∀ k' : Key, k' ≠ (m, q) → h' k' = h k') → sRun P ops dd K rest (i + 1) ⟨r, h', cnt⟩ G (ts ++ [⟨i, [m], [m]⟩])) :
    sRun P ops dd K (⟨none, .entryStore t x y w, ty, pos, aft, none⟩ :: rest) i ⟨r, h, cnt⟩ G ts := by
  obtain ⟨o, he, hM⟩ := e_estore (P := P) (key := (999983, cnt 999983)) (t := t) hx hy hw hm hmv
  refine s_store [m] (by simp) rfl hv he trivial ?_
  refine hk _ (by
    have := hM (hset h (m, q) (some o)) (hset_self _ _ _) (by rw [aSet_aSet, List.length_map, List.length_map]; exact aSet_len l)
    rw [aSet_aSet] at this; exact this) fun k' hk' => hset_ne hk'
end
end Go.Pv
