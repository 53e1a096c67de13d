/- strings.Split, strings.Cut, strconv.Itoa at the P level, and strconv.Atoi as the walk of a number needs it. No conditions. -/
import Derived.Test.YtmlhhdiomijpfaaGreatDoorOrcT
import Derived.Test.YtmlhhdiomijpfaaGreatDoorPvGh
import Derived.Test.YtmlhhdiomijpfaaGreatDoorCut
set_option linter.unusedSimpArgs false
set_option linter.unusedVariables false
namespace Go.Proofs.YtmlhhdiomijpfaaGreatDoor
open Go Go.Proofs Go.RowKit Go.Shelf Go.Pv Go.Tx
theorem arr1' {a : Array Value} (h : a.size = 1) : ∃ x, a = #[x] := by
 obtain ⟨l⟩ := a
 match l, h with
 | [x], _ => exact ⟨x, rfl⟩
/-- What is told of the variables that are listed. -/
theorem gw_prop {w : World} (h : gw w w.heap.size) {g : Nat} (hg : g ∈ gex) : gprop g w.heap[g]? := (h.2 g hg).2
theorem gw_err {w : World} (h : gw w w.heap.size) {g : Nat} (hg : g ∈ gex) (hp : g ≠ 1 ∧ g ≠ 2) : ∃ v, w.cell? ⟨g, 0, none⟩ = some v ∧ (v = .nilIface ∨ ∃ te pe, v = .iface te pe) := by
 obtain ⟨cs, T, fr, ho, h1⟩ := gw_prop h hg
 split at h1
 · exact absurd rfl hp.1
 · exact absurd rfl hp.2
 · obtain ⟨v, hv, hi⟩ := h1
   exact ⟨v, (cell_of_heap ho 0).trans hv, hi⟩
theorem gwM {w : World} (h : gw w w.heap.size) : ∃ m, w.cell? ⟨1, 0, none⟩ = some (.int .i64 m) := by
 obtain ⟨cs, T, fr, ho, m, hm⟩ := gw_prop h (g := 1) (by decide)
 exact ⟨m, (cell_of_heap ho 0).trans hm⟩
theorem splitP (s : ByteArray) (c : UInt8) (hs : s.size < 4294967281) :
   PCalls Tryz.prog 30 [.str s, .str (bs [c])] (.lit false 1 ((cutB c s).map cb)) := by
 refine ⟨.lit _ _ _ fun row hr => ?_, by kernel_rfl, fun w M vs hM hgw hsz hrep => ?_⟩
 · obtain ⟨x, _, rfl⟩ := List.mem_map.1 hr; exact cb_pure x
 obtain ⟨v0, v1, rfl⟩ := arr2' hsz
 have h0 := (hrep 0 v0 _ rfl rfl).sc_inv
 have h1 := (hrep 1 v1 _ rfl rfl).sc_inv
 subst h0; subst h1
 obtain ⟨m, hm⟩ := gwM hgw
 refine (Tryz.strings_Split s (bs [c]) m w hs hm (Nat.le_refl 1)).mono ?_
 rintro e w' ⟨rfl, rfl⟩
 have hd : (Lib.splitB (bs [c]) 0 (Lib.countB s (bs [c])) s).map (·.data.toList) = cutL c s.data.toList := by
   rw [Lib.splitB_data]
   exact split_one s.data.toList
 have hrows : cutB c s = Lib.splitB (bs [c]) 0 (Lib.countB s (bs [c])) s := by
   unfold cutB ls
   rw [← hd, List.map_map]; exact List.map_id _
 have hlen := Lib.splitB_all (bs [c]) (Nat.le_refl 1) 0 _ s rfl
 rw [hrows]
 generalize Lib.splitB (bs [c]) 0 (Lib.countB s (bs [c])) s = xs at hlen ⊢
 refine ⟨_, rfl, ?_, (Below.refl _ w).alloc (Nat.le_refl _) _⟩
 have hl : (xs.map cb).length = Lib.countB s (bs [c]) + 1 := by rw [List.length_map, hlen]
 rw [← hl]
 have hh : (w.alloc (.cells (xs.map Value.string).toArray 9)).heap[w.heap.size]? = some (.cells (xs.map Value.string).toArray 9) := by
   show (w.heap.push _)[w.heap.size]? = _
   simp
 have hrow : ∀ (i j : Nat) (row : List PV) (p : PV), (xs.map cb)[i]? = some row → row[j]? = some p → ∃ x, xs[i]? = some x ∧ j = 0 ∧ p = .str x := fun i j row p h2 h3 => by
   rw [List.getElem?_map, Option.map_eq_some_iff] at h2
   obtain ⟨x, hx, rfl⟩ := h2
   rcases j with _ | j
   · simp [cb] at h3; exact ⟨x, hx, rfl, h3.symm⟩
   · simp [cb] at h3
 refine .lit (f := fun i _ => .string (xs.getD i ByteArray.empty)) ⟨fun ⟨k, o, h, _⟩ => by simp [pureEnv] at h, fun _ h => Nat.lt_irrefl _ (hM _ h), (fun h => by cases h), ?_, (fun row hr => ?_), fun i j row p h2 h3 => ?_, (fun row hr p hp => ?_), fun row hr p hp => ?_⟩ (Nat.le_refl _) fun i j row p h2 h3 => ?_
 · show _ < (w.heap.push _).size; simp
 · obtain ⟨x, _, rfl⟩ := List.mem_map.1 hr; rfl
 · obtain ⟨x, hx, rfl, rfl⟩ := hrow i j row p h2 h3
   show (w.alloc _).cell? _ = _
   rw [cell_of_heap hh]
   simp [List.getD_eq_getElem?_getD, hx]
 · obtain ⟨x, _, rfl⟩ := List.mem_map.1 hr; exact cb_pure x p hp
 · obtain ⟨x, _, rfl⟩ := List.mem_map.1 hr; simp [cb] at hp; subst hp; rfl
 · obtain ⟨x, hx, rfl, rfl⟩ := hrow i j row p h2 h3
   have : xs.getD i ByteArray.empty = x := by simp [List.getD_eq_getElem?_getD, hx]
   show Rep _ (.string (xs.getD i ByteArray.empty)) _
   rw [this]; exact .sc rfl
theorem tup_rep {E : Env} {vs : List Value} (h : ∀ v ∈ vs, isScalar v = true) : Rep E (.tuple vs.toArray) (.tup (vs.map .sc)) := by
 refine .tup (by simp) fun i v p h1 h2 => ?_
 simp only [List.getElem?_map, Option.map_eq_some_iff] at h2
 obtain ⟨u, hu, rfl⟩ := h2
 have h3 : vs[i]? = some v := by simpa using h1
 obtain rfl := Option.some.inj (hu.symm.trans h3)
 exact .sc (h _ (List.mem_of_getElem? hu))
theorem tup_pure {vs : List Value} : Pure (.tup (vs.map .sc)) := .tup _ fun p hp => by obtain ⟨v, _, rfl⟩ := List.mem_map.1 hp; exact .sc _
theorem cutP (s : ByteArray) (c : UInt8) (hs : s.size < 4294967281) :
   PCalls Tryz.prog 31 [.str s, .str (bs [c])] (.tup [.str (bs (Lib.cut s.data.toList [c]).1), .str (bs (Lib.cut s.data.toList [c]).2.1), .bool (Lib.cut s.data.toList [c]).2.2]) := by
 refine ⟨tup_pure (vs := [.string _, .string _, .bool _]), by kernel_rfl, fun w M vs hM hgw hsz hrep => ?_⟩
 obtain ⟨v0, v1, rfl⟩ := arr2' hsz
 have h0 := (hrep 0 v0 _ rfl rfl).sc_inv
 have h1 := (hrep 1 v1 _ rfl rfl).sc_inv
 subst h0; subst h1
 obtain ⟨m, hm⟩ := gwM hgw
 refine (Tryz.strings_Cut s (bs [c]) m w hs hm).mono ?_
 rintro e w' ⟨rfl, n, rfl⟩
 exact ⟨_, rfl, tup_rep (vs := [.string _, .string _, .bool _]) (fun v hv => by simp at hv; rcases hv with rfl | rfl | rfl <;> rfl), ⟨rfl, rfl, rfl, Nat.le_refl _, fun _ _ => rfl⟩⟩
theorem itoaP (n : Int) (h : 0 ≤ n ∧ n < 100) : PCalls Tryz.prog 26 [.int n] (.str (bs (Lib.itoa n))) := by
 refine ⟨.sc _, by kernel_rfl, fun w M vs hM hgw hsz hrep => ?_⟩
 obtain ⟨v0, rfl⟩ := arr1' hsz
 have h0 := (hrep 0 v0 _ rfl rfl).sc_inv
 subst h0
 obtain ⟨i, rfl⟩ := Int.eq_ofNat_of_zero_le h.1
 refine (Tryz.strconv_Itoa_small i (by omega) w).mono ?_
 rintro e w' ⟨rfl, rfl⟩
 have : Lib.itoa (i : Int) = Lib.decDigits i := by unfold Lib.itoa; rw [if_neg (by omega)]; rfl
 rw [this]
 exact ⟨_, rfl, .sc rfl, Below.refl _ _⟩
/-- strconv.Atoi: the number and whether there is an error. -/
theorem atoiW (s : ByteArray) (hs : s.size ≤ 281474976710656) (w : World) (hgw : gw w w.heap.size) : Calls Tryz.prog 64 #[.string s] w fun e w' => ∃ er, e = .returned (.tuple #[.int .i64 (numN s.data.toList), er]) ∧ ((er = .nilIface ∧ ∃ v, Lib.atoiAll s.data.toList = .ok v) ∨ ((∃ te pe, er = .iface te pe) ∧ ∀ v, Lib.atoiAll s.data.toList ≠ .ok v)) ∧ Below w.heap.size w w' := by
 cases hc : Lib.atoiAll s.data.toList with
 | ok v =>
   refine (Tryz.strconv_Atoi_ok s (by omega) v hc w).mono ?_
   rintro e w' ⟨rfl, h⟩
   refine ⟨_, by unfold numN; rw [hc], .inl ⟨rfl, v, rfl⟩, ?_⟩
   rcases h with rfl | ⟨t, rfl⟩
   · exact Below.refl _ _
   · exact Lib.bytesWorld_below _ _ _
 | range =>
   obtain ⟨v, hv, hi⟩ := gw_err hgw (g := 4) (by decide) (by decide)
   refine (Tryz.strconv_Atoi_range s hs hc v w hv hi).mono ?_
   rintro e w' ⟨N, rfl, _, _, hb⟩
   exact ⟨_, by unfold numN; rw [hc], .inr ⟨⟨_, _, rfl⟩, fun v h => by cases h⟩, hb⟩
 | _ =>
   have h1 : ∀ v, Lib.atoiAll s.data.toList ≠ .ok v := fun v h => by rw [hc] at h; cases h
   have h2 : Lib.atoiAll s.data.toList ≠ .range := fun h => by rw [hc] at h; cases h
   obtain ⟨v, hv, hi⟩ := gw_err hgw (g := 3) (by decide) (by decide)
   refine (Tryz.strconv_Atoi_bad s hs h1 h2 v w hv hi).mono ?_
   rintro e w' ⟨N, rfl, _, _, hb⟩
   exact ⟨_, by unfold numN; rw [hc], .inr ⟨⟨_, _, rfl⟩, fun v h => by cases h⟩, hb⟩
end Go.Proofs.YtmlhhdiomijpfaaGreatDoor
