/- The loading that the program makes. No conditions. -/
import Derived.Test.YtigdmkhdmbbfiaaLz
import Derived.Test.YtigdmkhdmbbfiaaLf
import Derived.Test.YtigdmkhdmbbfiaaFg
import Derived.Test.YtigdmkhdmbbfiaaTb1
set_option linter.unusedSimpArgs false
set_option linter.unusedVariables false
set_option maxRecDepth 100000
namespace Go.Proofs.Ytigdmkhdmbbfiaa
open Go Go.Pv
def zFil : Fil := ⟨0, 0, 0⟩
/-- The table when the set s is looked at: what is told of it so far. -/
def TabK (ms : List Int) (M : Int) (N s : Nat) (f : Fil) (xs : List Fil) : Prop := xs.length = N ∧ ∀ a, a < N → xs[a]? = some (if a < s then filV ms M a else if a = s then f else zFil)
section
variable {ms : List Int} {M : Int} {N s k : Nat} {f f' r : Fil} {xs : List Fil}
theorem TabK.zero (hN : 1 ≤ N) : TabK ms M N 1 zFil ((List.replicate N zFil).set ((0 : Int)).toNat (⟨(1), 0, 0⟩ : Fil)) := by
 refine ⟨by rw [List.length_set, List.length_replicate], fun a ha => ?_⟩
 by_cases e : a = 0
 · subst e
   rw [if_pos (by decide), filV_0]
   exact List.getElem?_set_self (by rw [List.length_replicate]; exact ha)
 · rw [if_neg (by omega), List.getElem?_set_ne (by show (0 : Nat) ≠ a; omega), List.getElem?_replicate, if_pos ha]
   split <;> rfl
theorem TabK.set (h : TabK ms M N s f xs) (hs : s < N) : TabK ms M N s f' (xs.set s f') := by
 refine ⟨by rw [List.length_set]; exact h.1, fun a ha => ?_⟩
 by_cases e : s = a
 · subst e
   rw [List.getElem?_set_self (by rw [h.1]; exact hs), if_neg (Nat.lt_irrefl _), if_pos rfl]
 · have e2 : ¬ a = s := fun q => e q.symm
   rw [List.getElem?_set_ne e, h.2 a ha]; simp only [if_neg e2]
theorem TabK.start {z : Int} (h : TabK ms M N s zFil xs) (hs : s < N) (hz : z = (ms.length : Int) + 1) : TabK ms M N s (filK ms M s 0) (xs.set ((s : Int)).toNat { zFil with l := z }) := by
 subst hz
 exact h.set hs
theorem TabK.done (h : TabK ms M N s (filK ms M s ms.length) xs) (h0 : s ≠ 0) : TabK ms M N (s + 1) zFil xs := by
 refine ⟨h.1, fun a ha => ?_⟩
 rw [h.2 a ha]
 by_cases e : a = s
 · subst e
   rw [if_neg (Nat.lt_irrefl _), if_pos rfl, if_pos (Nat.lt_succ_self _), filV_K h0]
 · by_cases e2 : a < s
   · rw [if_pos e2, if_pos (by omega)]
   · rw [if_neg e2, if_neg e, if_neg (by omega)]
     split <;> rfl
theorem TabK.low (h : TabK ms M N s f xs) {a : Nat} (ha : a < s) (hs : s ≤ N) : xs[((a : Int)).toNat]? = some (filV ms M a) := by
 have := h.2 a (by omega)
 rw [if_pos ha] at this; exact this
theorem TabK.here (h : TabK ms M N s f xs) (hs : s < N) : xs[((s : Int)).toNat]? = some f := by
 have := h.2 s hs
 rw [if_neg (Nat.lt_irrefl _), if_pos rfl] at this; exact this
theorem tab_hit {f : Fil} (h : TabK ms M N s (filK ms M s k) xs) (hb : hasI s k) (hs : s < N) (hf : stepF M (ms.getD k 0) k (filV ms M (s - 2 ^ k)) = f) (hbet : f.bet (filK ms M s k)) : TabK ms M N s (filK ms M s (k + 1)) (xs.set ((s : Int)).toNat f) := by
 have e : filK ms M s (k + 1) = f := by rw [filK_s, if_pos hb, hf, pickF, if_pos hbet]
 rw [e]; exact h.set hs
theorem tab_miss {f : Fil} (h : TabK ms M N s (filK ms M s k) xs) (hb : hasI s k) (hf : stepF M (ms.getD k 0) k (filV ms M (s - 2 ^ k)) = f) (hbet : ¬ f.bet (filK ms M s k)) : TabK ms M N s (filK ms M s (k + 1)) xs := by
 have e : filK ms M s (k + 1) = filK ms M s k := by rw [filK_s, if_pos hb, hf, pickF, if_neg hbet]
 rw [e]; exact h
theorem tab_not (h : TabK ms M N s (filK ms M s k) xs) (hb : ¬ hasI s k) : TabK ms M N s (filK ms M s (k + 1)) xs := by
 rw [filK_s, if_neg hb]; exact h
theorem step_t {y : Int} (hy : ms.getD k 0 = y) (h : M < r.m + y) : stepF M (ms.getD k 0) k r = ⟨r.l + 1, y, (k : Int)⟩ := by rw [hy, stepF, if_pos h]
theorem step_f {y : Int} (hy : ms.getD k 0 = y) (h : ¬ M < r.m + y) : stepF M (ms.getD k 0) k r = ⟨r.l, r.m + y, (k : Int)⟩ := by rw [hy, stepF, if_neg h]
theorem bit_t (h : ¬ ((s / 2 ^ k % 2 : Nat) : Int) = 0) : hasI s k := by
 rw [hasI]; rcases Nat.mod_two_eq_zero_or_one (s / 2 ^ k) with e | e
 · rw [e] at h; exact absurd rfl h
 · exact e
theorem bit_f (h : ((s / 2 ^ k % 2 : Nat) : Int) = 0) : ¬ hasI s k := by
 rw [hasI]; omega
theorem ms_at {its : List Item} {y : Item} (h : its[((k : Int)).toNat]? = some y) : (its.map Item.mass).getD k 0 = y.mass := by
 have h2 : its[k]? = some y := h
 rw [List.getD_eq_getElem?_getD, List.getElem?_map, h2]; rfl
theorem filV_rng (hn : ms.length ≤ 6) (hms : ∀ x ∈ ms, 0 ≤ x ∧ x ≤ M) (hM : 0 ≤ M) (hs : s < 2 ^ ms.length) : (0 ≤ (filV ms M s).m ∧ (filV ms M s).m ≤ M) ∧ 1 ≤ (filV ms M s).l ∧ (filV ms M s).l ≤ 6 := by
 obtain ⟨h1, h2, h3, h4⟩ := filV_bin hn hms hM s hs
 have h5 := bin_nn (c := binF ms M s) (s := s) (b := ((filV ms M s).l - 1).toNat) fun x hx => (hms x hx).1
 have h6 := h3 ((filV ms M s).l - 1).toNat
 refine ⟨⟨by omega, by omega⟩, h1, ?_⟩
 by_cases h0 : s = 0
 · subst h0; rw [filV_0]; show (1 : Int) ≤ 6; decide
 · have := filV_l hn hms hM hs h0; omega
end
section
variable {P : Program} {ρ : Operand → PV} {h : Heap} {key : Key} {t : TypeId}
theorem e_mkFil {l c : Operand} {L : Int} {n : Nat} (hx : ρ l = .int L) (hy : ρ c = .int L) (hn : L = (n : Int)) (hz : zeroCellsOf P (elemTy P t) = some [.int 0, .int 0, .int 0]) (ho : sliceOk P t = true) (hs : tySize P (elemTy P t) = 3) (hb : P.bytesOf (elemTy P t) < 2 ^ 15) (hl : n < 2 ^ 32) :
   eff P ρ h key (.makeSlice t l c) = ⟨True, .ref key 3 0 n, [(key, some (.rows 3 ((List.replicate n zFil).map Fil.enc)))], [], true⟩ := by
 subst hn
 have h1 : (List.replicate n zFil).map Fil.enc = List.replicate n [PV.int 0, .int 0, .int 0] := by simp [Fil.enc, zFil]
 simp only [eff, hx, hy, makeSliceEff, hz, ho, hs, hb, h1]
 simp [PV.cell]; omega
end

/-! ### The loads in memory -/
theorem len_nodup {n : Nat} {l : List Int} (h : l.Nodup) (hr : ∀ j ∈ l, 0 ≤ j ∧ j < (n : Int)) : l.length ≤ n := by
 have h1 := smL_lvl (ms := List.replicate n 1) (n := n) h hr
 have h2 : ∀ l : List Int, (∀ j ∈ l, 0 ≤ j ∧ j < (n : Int)) → smL (List.replicate n 1) l = (l.length : Int) := fun l => by
   induction l with
   | nil => intro _; rfl
   | cons j l ih =>
     intro hj
     have := hj j (List.mem_cons_self ..)
     rw [smL, ih fun k hk => hj k (List.mem_cons_of_mem _ hk), List.getD_eq_getElem?_getD, List.getElem?_replicate, if_pos (by omega)]
     simp only [Option.getD_some, List.length_cons]; omega
 have h3 : lvl (fun i : Nat => if (i : Int) ∈ l then (List.replicate n (1 : Int)).getD i 0 else 0) n ≤ (n : Int) * 1 := lvl_leM fun i hi => by
   split
   · rw [List.getD_eq_getElem?_getD, List.getElem?_replicate, if_pos hi]; exact Int.le_refl _
   · decide
 rw [h2 l hr] at h1
 rw [← h1] at h3; omega
section
variable {ms : List Int} {M : Int} {s i b F L : Nat} {cs : Nat → List Int}
theorem filV_dn (hn : ms.length ≤ 6) (hms : ∀ x ∈ ms, 0 ≤ x ∧ x ≤ M) (hM : 0 ≤ M) (hs : s < 2 ^ ms.length) (h0 : s ≠ 0) : ∃ i, (i < ms.length ∧ hasI s i ∧ 2 ^ i ≤ s ∧ 1 ≤ 2 ^ i) ∧ (filV ms M s).z = (i : Int) ∧ (filV ms M (s - 2 ^ i)).l ≤ (filV ms M s).l := by
 obtain ⟨i, h1, h2, h3⟩ := filV_at hn hms hM hs h0
 refine ⟨i, ⟨h1, h2, hasI_le h2, Nat.two_pow_pos i⟩, by rw [h3, step_z], ?_⟩
 rw [h3]; unfold stepF; split <;> simp only <;> omega
theorem rem_step {z : Int} (h : ∀ b, b < L → cs b ++ remB ms M b s = remB ms M b F) (h0 : s ≠ 0) (hz : (filV ms M s).z = (i : Int)) (hzz : z = (filV ms M s).z) (hb : b = ((filV ms M s).l - 1).toNat) : ∀ b', b' < L → (fun j => if j = b then cs b ++ [z] else cs j) b' ++ remB ms M b' (s - 2 ^ i) = remB ms M b' F := fun b' hb' => by
 have h1 := h b' hb'
 rw [remB_s h0 hz, ← hb] at h1
 show (if b' = b then cs b ++ [z] else cs b') ++ _ = _
 by_cases e : b' = b
 · subst e
   rw [if_pos rfl] at h1 ⊢
   rw [hzz, hz, List.append_assoc]; exact h1
 · rw [if_neg (fun q => e q.symm), List.nil_append] at h1
   rw [if_neg e]; exact h1
end
/-- The slices' names are new ones. -/
def GE140 (c0 : Nat → Nat) (vs : List PV) : Prop := ∀ (i g n : Nat), vs[i]? = some (.ref (140, g) 1 0 n) → c0 140 ≤ g
section
variable {c0 c : Nat → Nat} {vs : List PV} {h0 h h1 : Heap} {u : PV} {i g n b : Nat} {cs : Nat → List Int} {ys : List Int}
theorem GE140.zero {L : Nat} : GE140 c0 (List.replicate L .nil) := fun i g n h => by
 rw [List.getElem?_replicate] at h
 split at h <;> cases h
theorem GE140.set {m : Nat} (h : GE140 c0 vs) (hm : c0 140 ≤ m) : GE140 c0 (vs.set i (.ref (140, m) 1 0 n)) := fun j g n' hj => by
 rw [List.getElem?_set] at hj
 split at hj
 · split at hj
   · cases hj; exact hm
   · cases hj
 · exact h j g n' hj
theorem Old.app140 (hO : Old c0 h0 h c) (hA : ApK h h1 140 (c 140) 140 140 u n) (hg : ∀ g, u = .ref (140, g) 1 0 n → c0 140 ≤ g) : Old c0 h0 h1 (cset c 140) :=
 ⟨fun k hk => (hA k (fun e => by rw [e] at hk; have := hO.mo 140; simp only at hk; omega) (fun g hu e => by rw [e] at hk; have := hg g hu; simp only at hk; omega) (fun g hu e => by rw [e] at hk; have := hg g hu; simp only at hk; omega)).trans (hO.old k hk), fun x => by
   have := hO.mo x; unfold cset; split <;> omega⟩
theorem Old.put (hO : Old c0 h0 h c) (hk : ∀ k : Key, k ≠ (140, g) → h1 k = h k) (hg : c0 140 ≤ g) : Old c0 h0 h1 c :=
 ⟨fun k hk' => (hk k fun e => by rw [e] at hk'; simp only at hk'; omega).trans (hO.old k hk'), hO.mo⟩
theorem Fam.put (hn : Fam h 140 140 vs cs b) (hu : vs[i]? = some (.ref (140, g) 1 0 n)) (hr : h1 (140, g) = some (.rows 1 (ys.map ci))) (hl : ys.length = n) (hk : ∀ k : Key, k ≠ (140, g) → h1 k = h k) : Fam h1 140 140 vs (fun j => if j = i then ys else cs j) b := by
 have hi := hn.sl i _ hu
 have hin : n = (cs i).length := by
   obtain ⟨_, h2, _, _⟩ := sl_key hi.1 rfl
   rw [h2, List.length_map]
 have hoth : ∀ j w rows, j ≠ i → vs[j]? = some w → SliceAt h 140 w 1 rows → SliceAt h1 140 w 1 rows := fun j w rows hj hw hs => by
   rcases hs with hs | ⟨g', e1, e2⟩
   · exact .inl hs
   · refine .inr ⟨g', e1, (hk _ fun e => ?_).trans e2⟩
     cases e
     obtain ⟨e3, e4, _, _⟩ := sl_key hi.1 rfl
     rw [e2] at e3
     have er : rows = (cs i).map ci := by simpa using e3
     exact hj (hn.of.one j i w hw (by rw [hu, e1, er, e4]) (by rw [e1]; intro q; cases q))
 refine ⟨⟨fun j w hw => ?_, hn.of.one⟩, fun j w hw => ?_⟩
 · by_cases e : j = i
   · subst e
     rw [hu] at hw; cases hw
     exact ⟨ys.map ci, .inl (.inr ⟨g, by rw [List.length_map, hl], hr⟩), by rw [List.length_map, hl, hin]; exact hi.2⟩
   · obtain ⟨rows, q1, q2⟩ := hn.of.at_ j w hw
     exact ⟨rows, q1.imp (hoth j w rows e hw) (hoth j w rows e hw), q2⟩
 · by_cases e : j = i
   · subst e
     rw [hu] at hw; cases hw
     rw [if_pos rfl]
     exact ⟨.inl (.inr ⟨g, by rw [List.length_map, hl], hr⟩), by rw [hl, hin]; exact hi.2⟩
   · rw [if_neg e]
     have q := hn.sl j w hw
     exact ⟨q.1.imp (hoth j w _ e hw) (hoth j w _ e hw), q.2⟩
end
/-- Loads in own memory. -/
def LdsH (h : Heap) (gO : Nat) (vs : List PV) (ls : List (List Int)) : Prop := h (109, gO) = some (.rows 1 (vs.map cv)) ∧ vs.length = ls.length ∧ ∀ (b : Nat) (u : PV) (l : List Int), vs[b]? = some u → ls[b]? = some l → SliceAt h 140 u 1 (l.map ci)
theorem LdsH.x {h : Heap} {gO : Nat} {vs : List PV} {ls : List (List Int)} (hh : LdsH h gO vs ls) : ∃ ks : List Key, (∀ k ∈ ks, k.1 ∈ [109, 140]) ∧ InnX h ks (.ref (109, gO) 1 0 vs.length) (.lit true 1 (ls.map cl)) := by
 obtain ⟨h1, h2, h3⟩ := hh
 have hat : ∀ u, u ∈ vs → ∃ b l, vs[b]? = some u ∧ ls[b]? = some l := fun u hu => by
   obtain ⟨b, hb⟩ := List.getElem?_of_mem hu
   have hbl := (List.getElem?_eq_some_iff.1 hb).1
   exact ⟨b, _, hb, List.getElem?_eq_getElem (by omega)⟩
 refine ⟨(109, gO) :: vs.flatMap Go.Pv.keyOf, fun k hk => ?_, .rows h1 (List.mem_cons_self ..) (by rw [List.length_map]) (by rw [List.length_map, List.length_map, h2]) fun i row row' e1 e2 => ?_⟩
 · rcases List.mem_cons.1 hk with rfl | hk
   · exact List.mem_cons_self ..
   · obtain ⟨u, hu, hku⟩ := List.mem_flatMap.1 hk
     obtain ⟨b, l, q1, q2⟩ := hat u hu
     rcases h3 b u l q1 q2 with ⟨_, rfl⟩ | ⟨g2, rfl, _⟩
     · simp [Go.Pv.keyOf] at hku
     · simp [Go.Pv.keyOf] at hku; subst hku; exact List.mem_cons_of_mem _ (List.mem_cons_self ..)
 · rw [List.getElem?_map] at e1 e2
   cases hu : vs[i]? with
   | none => rw [hu] at e1; cases e1
   | some u =>
     cases hl : ls[i]? with
     | none => rw [hl] at e2; cases e2
     | some l =>
       rw [hu] at e1; rw [hl] at e2
       cases e1; cases e2
       refine ⟨rfl, fun j p q h4 h5 => ?_⟩
       match j, h4, h5 with
       | 0, h4, h5 =>
         cases h4; cases h5
         refine ⟨?_, .lit _ _ _ fun row hr => pure_map ci_pure row hr, rfl, fun k hk' => List.mem_cons_of_mem _ (List.mem_flatMap.2 ⟨_, List.mem_of_getElem? hu, hk'⟩)⟩
         rcases h3 i _ l hu hl with ⟨hn, rfl⟩ | ⟨g2, rfl, hg⟩
         · rw [hn]; exact .nil true 1
         · exact .ref hg (by simp) (by rw [List.drop_zero, List.length_map, List.take_of_length_le (by rw [List.length_map]; exact Nat.le_refl _)]) fun row hr => pure_map ci_pure row hr
       | j + 1, h4, _ => simp [cv] at h4
/-- Loads as they should be. -/
def GoodL (its : List Item) (x : Lorry) (ls : List (List Int)) : Prop := loadsE its x ls = 0 ∧ lorN its x ≤ (ls.length : Int) ∧ (ls.length : Int) = (filV (its.map Item.mass) x.mass (2 ^ its.length - 1)).l ∧ ls.length ≤ 6 ∧ ∀ l ∈ ls, l.length ≤ 30
def loadE (its : List Item) (x : Lorry) : Int := if itemsE its x ≠ 0 then itemsE its x else if 12 < its.length then 8 else if bigB its x = true then 18 else 0
/-- What Load leaves. -/
def LoadR (its : List Item) (x : Lorry) (h0 : Heap) (c0 : Nat → Nat) (v : PV) (h : Heap) (c : Nat → Nat) : Prop := Old c0 h0 h c ∧ ((loadE its x ≠ 0 ∧ v = .tup [.nil, .int (loadE its x)]) ∨ (loadE its x = 0 ∧ its = [] ∧ v = .tup [.nil, .int 0]) ∨ (loadE its x = 0 ∧ its ≠ [] ∧ its.length ≤ 6 ∧ ∃ gO vs ls, v = .tup [.ref (109, gO) 1 0 vs.length, .int 0] ∧ LdsH h gO vs ls ∧ GoodL its x ls))
section
variable {its : List Item} {x : Lorry} {h0 h : Heap} {c0 c : Nat → Nat}
theorem LoadR.e1 (hO : Old c0 h0 h c) (hz : ¬ itemsE its x = 0) : LoadR its x h0 c0 (.tup [.nil, .int (itemsE its x)]) h c := by
 have e : loadE its x = itemsE its x := if_pos hz
 exact ⟨hO, .inl ⟨by rw [e]; exact hz, by rw [e]⟩⟩
theorem LoadR.e2 (hO : Old c0 h0 h c) (hz : itemsE its x = 0) (hl : 12 < its.length) : LoadR its x h0 c0 (.tup [.nil, .int 8]) h c := by
 have e : loadE its x = 8 := by rw [loadE, if_neg (by simpa using hz), if_pos hl]
 exact ⟨hO, .inl ⟨by rw [e]; decide, by rw [e]⟩⟩
theorem LoadR.e3 (hO : Old c0 h0 h c) (hz : itemsE its x = 0) (hl : ¬ 12 < its.length) (hb : bigB its x = true) : LoadR its x h0 c0 (.tup [.nil, .int 18]) h c := by
 have e : loadE its x = 18 := by rw [loadE, if_neg (by simpa using hz), if_neg hl, if_pos hb]
 exact ⟨hO, .inl ⟨by rw [e]; decide, by rw [e]⟩⟩
theorem loadE_0 (hz : itemsE its x = 0) (hl : ¬ 12 < its.length) (hb : bigB its x = false) : loadE its x = 0 := by
 rw [loadE, if_neg (by simpa using hz), if_neg hl, if_neg (by rw [hb]; decide)]
theorem LoadR.e4 (hO : Old c0 h0 h c) (hz : itemsE its x = 0) (hl : its.length = 0) (hb : bigB its x = false) : LoadR its x h0 c0 (.tup [.nil, .int 0]) h c :=
 ⟨hO, .inr (.inl ⟨loadE_0 hz (by omega) hb, List.eq_nil_of_length_eq_zero hl, rfl⟩)⟩
theorem load_pre (hz : itemsE its x = 0) (hb : bigB its x = false) (h6 : its.length ≤ 6) (hne : ¬ its.length = 0) : ∃ N, (N = 2 ^ its.length ∧ 2 ≤ N ∧ N ≤ 64) ∧ (∀ m ∈ its.map Item.mass, 0 ≤ m ∧ m ≤ x.mass) ∧ (its.map Item.mass).length = its.length ∧ (1 ≤ x.mass ∧ x.mass ≤ 100000000) ∧ ∀ y ∈ its, 0 ≤ y.mass ∧ y.mass ≤ x.mass := by
 have hit := itemsE_ok hz
 have h2 : ∀ y ∈ its, 0 ≤ y.mass ∧ y.mass ≤ x.mass := fun y hy => by
   have h1 := List.any_eq_false.1 hb y hy
   rw [Bool.or_eq_true, decide_eq_true_eq, decide_eq_true_eq] at h1
   have := hit.2.1 y hy; omega
 refine ⟨2 ^ its.length, ⟨rfl, ?_, (Nat.pow_le_pow_right (by decide) h6 : 2 ^ its.length ≤ 2 ^ 6)⟩, fun m hm => ?_, List.length_map _, hit.2.2.1, h2⟩
 · exact (Nat.pow_le_pow_right (by decide) (by omega) : 2 ^ 1 ≤ 2 ^ its.length)
 · obtain ⟨y, hy, rfl⟩ := List.mem_map.1 hm; exact h2 y hy
theorem good_fin {ds : Nat → List Int} {L F : Nat} (hz : itemsE its x = 0) (hb : bigB its x = false) (h6 : its.length ≤ 6) (hne : ¬ its.length = 0) (hF : F = 2 ^ its.length - 1) (hL : (filV (its.map Item.mass) x.mass F).l = (L : Int)) (hds : ∀ b, b < L → (ds b).Perm (remB (its.map Item.mass) x.mass b F) ∧ Srtd (ds b) (ds b).length) : GoodL its x ((List.range L).map ds) := by
 subst hF
 obtain ⟨N, ⟨hN, hN2, hN64⟩, hms, hml, hM, hits⟩ := load_pre hz hb h6 hne
 have hn6 : (its.map Item.mass).length ≤ 6 := by rw [hml]; exact h6
 have hM0 : 0 ≤ x.mass := by omega
 have hlt : 2 ^ its.length - 1 < 2 ^ (its.map Item.mass).length := by rw [hml, ← hN]; omega
 have hne0 : 2 ^ its.length - 1 ≠ 0 := by rw [← hN]; omega
 have hbin := filV_bin hn6 hms hM0 _ hlt
 have hfull : ∀ i, i < its.length → hasI (2 ^ its.length - 1) i := fun i hi => full_has _ h6 i hi
 have hle := filV_l hn6 hms hM0 hlt hne0
 have hll : ((List.range L).map ds).length = L := by rw [List.length_map, List.length_range]
 have hmem : ∀ b, b < L → ∀ j, j ∈ ds b ↔ ∃ i : Nat, j = (i : Int) ∧ i < its.length ∧ binF (its.map Item.mass) x.mass (2 ^ its.length - 1) i = b := fun b hbL j => by
   rw [(hds b hbL).1.mem_iff, (remB_mem hn6 hms hM0 b _ hlt).2 j, hml]
   constructor
   · rintro ⟨i, e1, e2, _, e3⟩; exact ⟨i, e1, e2, e3⟩
   · rintro ⟨i, e1, e2, e3⟩; exact ⟨i, e1, e2, hfull i e2, e3⟩
 have hnd : ∀ b, b < L → (ds b).Pairwise (· < ·) := fun b hbL => (hds b hbL).2.pw (hds b hbL).1 (remB_mem hn6 hms hM0 b _ hlt).1
 have hc : ∀ i, i < its.length → binF (its.map Item.mass) x.mass (2 ^ its.length - 1) i < L := fun i hi => by
   have := hbin.2.1 i (by omega) (hfull i hi); omega
 have hm : ∀ b, binS (its.map Item.mass) (binF (its.map Item.mass) x.mass (2 ^ its.length - 1)) (2 ^ its.length - 1) b its.length ≤ x.mass := fun b => by
   have := hbin.2.2.1 b; rw [hml] at this; exact this
 refine ⟨loads_ok (c := binF (its.map Item.mass) x.mass (2 ^ its.length - 1)) hz h6 hb (by rw [hll]; omega) hm (by rw [hll]; exact hc) fun b l hl => ?_, ?_, by rw [hll, hL], by rw [hll]; omega, fun l hl => ?_⟩
 · rw [List.getElem?_map] at hl
   by_cases hbL : b < L
   · rw [List.getElem?_range hbL] at hl
     cases hl
     refine ⟨fun e => ?_, hnd b hbL, hmem b hbL⟩
     obtain ⟨i, e1, e2, e3⟩ := bin_ne hn6 hms hM0 _ hlt hne0 b (by omega)
     have := (hmem b hbL i).2 ⟨i, rfl, by omega, e3⟩
     rw [e] at this; exact absurd this List.not_mem_nil
   · rw [List.getElem?_eq_none (by rw [List.length_range]; omega)] at hl; cases hl
 · rw [hll]
   exact lor_no (c := binF (its.map Item.mass) x.mass (2 ^ its.length - 1)) h6 (by omega) hM.1 hm hc
 · obtain ⟨b, hb2, rfl⟩ := List.mem_map.1 hl
   have hbL := List.mem_range.1 hb2
   have := len_nodup (n := its.length) ((hnd b hbL).imp fun h => Int.ne_of_lt h) fun j hj => by
     obtain ⟨i, e1, e2, _⟩ := (hmem b hbL j).1 hj; omega
   omega
/-- How many items a load has. -/
theorem rem_len {F b L : Nat} (hms : ∀ m ∈ its.map Item.mass, 0 ≤ m ∧ m ≤ x.mass) (hM : 0 ≤ x.mass) (h6 : its.length ≤ 6) (hne : ¬ its.length = 0) (hF : F + 1 = 2 ^ its.length) (hF1 : F ≠ 0) (hL : (filV (its.map Item.mass) x.mass F).l = (L : Int)) (hb : b < L) : 1 ≤ (remB (its.map Item.mass) x.mass b F).length ∧ (remB (its.map Item.mass) x.mass b F).length ≤ 6 := by
 have hml : (its.map Item.mass).length = its.length := List.length_map _
 have hn6 : (its.map Item.mass).length ≤ 6 := by rw [hml]; exact h6
 have hlt : F < 2 ^ (its.map Item.mass).length := by rw [hml]; omega
 have h1 := remB_mem hn6 hms hM b F hlt
 refine ⟨?_, ?_⟩
 · obtain ⟨i, e1, e2, e3⟩ := bin_ne hn6 hms hM F hlt hF1 b (by omega)
   exact List.length_pos_iff.2 fun e => by
     have := (h1.2 i).2 ⟨i, rfl, e1, e2, e3⟩
     rw [e] at this; exact absurd this List.not_mem_nil
 · have := len_nodup (n := its.length) h1.1 fun j hj => by
     obtain ⟨i, e1, e2, _⟩ := (h1.2 j).1 hj; omega
   omega
end

theorem pwp_gopsK {P : Program} {Q : Exit → PS → Prop} {s : PS} {id : Nat} {ops : Array Oper} {d : Bool} (hg : (noGuards ops && !d) = false) (h : Known s → ∀ K : PS → Prop, (∀ s', Q .normal s' → K s') → gOps P ops d K ops.toList 0 ⟨s, fun _ => true⟩ []) : pwp P (.region id ops d) Q s := by
 show pRegion P ops d (Q .normal) s
 unfold pRegion
 intro hk
 rw [hg]
 exact .inl (h hk _ fun _ h => h)
theorem e_subE {P : Program} {ρ : Operand → PV} {h : Heap} {key : Key} {x y : Operand} {t t' : TypeId} {a b c : Int} (hx : ρ x = .int a) (hy : ρ y = .int b) (h1 : -9223372036854775808 ≤ a - b ∧ a - b ≤ 9223372036854775807) (hc : a - b = c) : eff P ρ h key (.binOp .sub t x y t') = ⟨True, .int c, [], [], false⟩ := by
 subst hc; exact e_sub hx hy h1
theorem srt_next {ms : List Int} {M : Int} {L F k : Nat} {ds : Nat → List Int} {ys : List Int} (h : ∀ b, b < L → (ds b).Perm (remB ms M b F) ∧ (b < k → Srtd (ds b) (ds b).length)) (hk : k < L) (hp : ys.Perm (ds k)) (hs : Srtd ys ys.length) : ∀ b, b < L → ((fun j => if j = k then ys else ds j) b).Perm (remB ms M b F) ∧ (b < k + 1 → Srtd ((fun j => if j = k then ys else ds j) b) ((fun j => if j = k then ys else ds j) b).length) := fun b hb => by
 show (if b = k then ys else ds b).Perm _ ∧ (_ → Srtd (if b = k then ys else ds b) (if b = k then ys else ds b).length)
 by_cases e : b = k
 · subst e
   rw [if_pos rfl]; exact ⟨hp.trans (h b hb).1, fun _ => hs⟩
 · rw [if_neg e]; exact ⟨(h b hb).1, fun q => (h b hb).2 (by omega)⟩
theorem frH54 : (inFrame Try.f54.ntmps (Try.f54.body.getD .skip) && Try.f54.results.toList.all (resScope Try.f54.ntmps)) = true := by kernel_rfl
theorem loadH (its : List Item) (x : Lorry) (hl : its.length ≤ 220) (hs : ∀ y ∈ its, y.name.size ≤ 30) (h6 : its.length ≤ 6 ∨ 12 < its.length) (h0 : Heap) (c0 : Nat → Nat) : HCallsR Try.prog 54 [.lit true 3 (its.map Item.enc), .agg x.enc] h0 c0 (LoadR its x h0 c0) := by
 refine HCallsR.of_code Try.func54 rfl rfl (by kernel_rfl) mixed frH54 (by show _ ≤ 152; simp) ?_
 refine pwp_seq_plain rfl fun K1 hK1 => ?_
 refine p_new rfl (e_box (n := 2) rfl rfl) ⟨rfl, by decide⟩ ?_
 refine p_e rfl (e_assign (v := .nil) rfl) ?_
 refine p_aS rfl ?_
 refine p_end (hK1 _ ?_); clear hK1 K1
 refine pwp_seq_seq ?_
 refine pwp_seq_plain rfl fun K2 hK2 => ?_
 refine p_e rfl (e_move (v := .lit _ _ _) rfl) ?_
 refine p_e rfl (e_loadHA (cs := Lorry.enc (x)) (n := 2) rfl (hset_self _ _ _) (by kernel_rfl) (by kernel_rfl) (by kernel_rfl) (by exact Nat.zero_lt_one) (by decide) rfl) ?_
 refine p_call rfl (.cons inn_lit (.cons (inn_agg (Lorry.pure _)) .nil)) (checkItems its x (by omega) hs) ?_
 refine p_aS rfl ?_
 refine p_end (hK2 _ ?_); clear hK2 K2
 refine pwp_seq_seq ?_
 refine pwp_seq_plain rfl fun K3 hK3 => ?_
 refine p_mS rfl ?_
 refine p_e rfl (e_ne rfl rfl) ?_
 refine p_end (hK3 _ ?_); clear hK3 K3
 refine pwp_seq_cond rfl fun K4 hK4 => ⟨fun hb5 => ?_, fun hb5 => ?_⟩
 ·have hb5R := hb5; (try simp only [zz] at hb5); (try (have hbit := bit_t hb5)); (try (have hbit := bit_f hb5))
  refine pwp_seq_plain rfl fun K6 hK6 => ?_
  refine p_mS rfl ?_
  refine p_e rfl (e_assign (v := .nil) rfl) ?_
  refine p_aS rfl ?_
  refine p_end (hK6 _ ?_); clear hK6 K6
  refine pwp_ret ?_
  refine ret_seq ?_
  refine end2 (v := .nil) (w := .sc _) rfl rfl ?_
  first
    | exact LoadR.e1 (by repeat first | exact hO | exact Old.refl | refine Old.new ?_ | refine Old.upd ?_ (by first | exact Nat.le_refl _ | exact hO.mo _)) (by assumption)
    | exact LoadR.e2 (by repeat first | exact hO | exact Old.refl | refine Old.new ?_ | refine Old.upd ?_ (by first | exact Nat.le_refl _ | exact hO.mo _)) (by omega) (by simp only [List.length_map] at *; omega)
    | exact LoadR.e3 (by repeat first | exact hO | exact Old.refl | refine Old.new ?_ | refine Old.upd ?_ (by first | exact Nat.le_refl _ | exact hO.mo _)) (by omega) (by simp only [List.length_map] at *; omega) (by assumption)
    | exact LoadR.e4 (by repeat first | exact hO | exact Old.refl | refine Old.new ?_ | refine Old.upd ?_ (by first | exact Nat.le_refl _ | exact hO.mo _)) (by omega) (by simp only [List.length_map] at *; omega) (by first | assumption | (simp only [Bool.not_eq_true] at *; assumption))
 ·have hb5R := hb5; (try simp only [zz] at hb5); (try (have hbit := bit_t hb5)); (try (have hbit := bit_f hb5))
  refine pwp_skip ?_
  refine seq_norm (hK4 _ ?_); clear hK4 K4
  refine pwp_seq_seq ?_
  refine pwp_seq_plain rfl fun K7 hK7 => ?_
  refine p_e rfl (e_move (v := .lit _ _ _) rfl) ?_
  refine p_e rfl (e_len rfl (by kernel_rfl)) ?_
  refine p_e rfl (e_gt rfl rfl) ?_
  refine p_end (hK7 _ ?_); clear hK7 K7
  refine pwp_seq_cond rfl fun K8 hK8 => ⟨fun hb9 => ?_, fun hb9 => ?_⟩
  ·have hb9R := hb9; (try simp only [zz] at hb9); (try (have hbit := bit_t hb9)); (try (have hbit := bit_f hb9))
   refine pwp_seq_plain rfl fun K10 hK10 => ?_
   refine p_e rfl (e_assign (v := .nil) rfl) ?_
   refine p_aS rfl ?_
   refine p_end (hK10 _ ?_); clear hK10 K10
   refine pwp_ret ?_
   refine ret_seq ?_
   refine end2 (v := .nil) (w := .sc _) rfl rfl ?_
   first
     | exact LoadR.e1 (by repeat first | exact hO | exact Old.refl | refine Old.new ?_ | refine Old.upd ?_ (by first | exact Nat.le_refl _ | exact hO.mo _)) (by assumption)
     | exact LoadR.e2 (by repeat first | exact hO | exact Old.refl | refine Old.new ?_ | refine Old.upd ?_ (by first | exact Nat.le_refl _ | exact hO.mo _)) (by omega) (by simp only [List.length_map] at *; omega)
     | exact LoadR.e3 (by repeat first | exact hO | exact Old.refl | refine Old.new ?_ | refine Old.upd ?_ (by first | exact Nat.le_refl _ | exact hO.mo _)) (by omega) (by simp only [List.length_map] at *; omega) (by assumption)
     | exact LoadR.e4 (by repeat first | exact hO | exact Old.refl | refine Old.new ?_ | refine Old.upd ?_ (by first | exact Nat.le_refl _ | exact hO.mo _)) (by omega) (by simp only [List.length_map] at *; omega) (by first | assumption | (simp only [Bool.not_eq_true] at *; assumption))
  ·have hb9R := hb9; (try simp only [zz] at hb9); (try (have hbit := bit_t hb9)); (try (have hbit := bit_f hb9))
   refine pwp_skip ?_
   refine seq_norm (hK8 _ ?_); clear hK8 K8
   refine pwp_seq_seq ?_
   refine pwp_seq_plain rfl fun K11 hK11 => ?_
   refine p_e rfl (e_move (v := .lit _ _ _) rfl) ?_
   refine p_e rfl (e_mkf rfl) ?_
   refine p_call rfl (.cons inn_lit (.cons (inn_clos1 (inn_ptr (hset_self _ _ _) (by intro row hr; simp only [List.mem_singleton] at hr; subst hr; exact Lorry.pure _))) .nil)) (bigAny its x (by omega)) ?_
   refine p_end (hK11 _ ?_); clear hK11 K11
   refine pwp_seq_cond rfl fun K12 hK12 => ⟨fun hb13 => ?_, fun hb13 => ?_⟩
   ·have hb13R := hb13; (try simp only [zz] at hb13); (try (have hbit := bit_t hb13)); (try (have hbit := bit_f hb13))
    refine pwp_seq_plain rfl fun K14 hK14 => ?_
    refine p_e rfl (e_assign (v := .nil) rfl) ?_
    refine p_aS rfl ?_
    refine p_end (hK14 _ ?_); clear hK14 K14
    refine pwp_ret ?_
    refine ret_seq ?_
    refine end2 (v := .nil) (w := .sc _) rfl rfl ?_
    first
      | exact LoadR.e1 (by repeat first | exact hO | exact Old.refl | refine Old.new ?_ | refine Old.upd ?_ (by first | exact Nat.le_refl _ | exact hO.mo _)) (by assumption)
      | exact LoadR.e2 (by repeat first | exact hO | exact Old.refl | refine Old.new ?_ | refine Old.upd ?_ (by first | exact Nat.le_refl _ | exact hO.mo _)) (by omega) (by simp only [List.length_map] at *; omega)
      | exact LoadR.e3 (by repeat first | exact hO | exact Old.refl | refine Old.new ?_ | refine Old.upd ?_ (by first | exact Nat.le_refl _ | exact hO.mo _)) (by omega) (by simp only [List.length_map] at *; omega) (by assumption)
      | exact LoadR.e4 (by repeat first | exact hO | exact Old.refl | refine Old.new ?_ | refine Old.upd ?_ (by first | exact Nat.le_refl _ | exact hO.mo _)) (by omega) (by simp only [List.length_map] at *; omega) (by first | assumption | (simp only [Bool.not_eq_true] at *; assumption))
   ·have hb13R := hb13; (try simp only [zz] at hb13); (try (have hbit := bit_t hb13)); (try (have hbit := bit_f hb13))
    refine pwp_skip ?_
    refine seq_norm (hK12 _ ?_); clear hK12 K12
    refine pwp_seq_seq ?_
    refine pwp_seq_plain rfl fun K15 hK15 => ?_
    refine p_e rfl (e_move (v := .lit _ _ _) rfl) ?_
    refine p_e rfl (e_len rfl (by kernel_rfl)) ?_
    refine p_e rfl (e_eq rfl rfl) ?_
    refine p_end (hK15 _ ?_); clear hK15 K15
    refine pwp_seq_cond rfl fun K16 hK16 => ⟨fun hb17 => ?_, fun hb17 => ?_⟩
    ·have hb17R := hb17; (try simp only [zz] at hb17); (try (have hbit := bit_t hb17)); (try (have hbit := bit_f hb17))
     refine pwp_seq_plain rfl fun K18 hK18 => ?_
     refine p_e rfl (e_assign (v := .nil) rfl) ?_
     refine p_aS rfl ?_
     refine p_end (hK18 _ ?_); clear hK18 K18
     refine pwp_ret ?_
     refine ret_seq ?_
     refine end2 (v := .nil) (w := .sc _) rfl rfl ?_
     first
       | exact LoadR.e1 (by repeat first | exact hO | exact Old.refl | refine Old.new ?_ | refine Old.upd ?_ (by first | exact Nat.le_refl _ | exact hO.mo _)) (by assumption)
       | exact LoadR.e2 (by repeat first | exact hO | exact Old.refl | refine Old.new ?_ | refine Old.upd ?_ (by first | exact Nat.le_refl _ | exact hO.mo _)) (by omega) (by simp only [List.length_map] at *; omega)
       | exact LoadR.e3 (by repeat first | exact hO | exact Old.refl | refine Old.new ?_ | refine Old.upd ?_ (by first | exact Nat.le_refl _ | exact hO.mo _)) (by omega) (by simp only [List.length_map] at *; omega) (by assumption)
       | exact LoadR.e4 (by repeat first | exact hO | exact Old.refl | refine Old.new ?_ | refine Old.upd ?_ (by first | exact Nat.le_refl _ | exact hO.mo _)) (by omega) (by simp only [List.length_map] at *; omega) (by first | assumption | (simp only [Bool.not_eq_true] at *; assumption))
    ·have hb17R := hb17; (try simp only [zz] at hb17); (try (have hbit := bit_t hb17)); (try (have hbit := bit_f hb17))
     refine pwp_skip ?_
     refine seq_norm (hK16 _ ?_); clear hK16 K16
     have hz : itemsE its x = 0 := by omega
     have hb : bigB its x = false := by first | assumption | (simp only [Bool.not_eq_true] at *; assumption)
     have hne : ¬ its.length = 0 := by simp only [List.length_map] at *; omega
     have hl6 : its.length ≤ 6 := by simp only [List.length_map] at *; omega
     obtain ⟨N, ⟨hN, hN2, hN64⟩, hms, hml, hMx, hits⟩ := load_pre hz hb hl6 hne
     have hn6 : (its.map Item.mass).length ≤ 6 := by rw [hml]; exact hl6
     have hM0 : 0 ≤ x.mass := by omega
     refine pwp_seq_plain rfl fun K19 hK19 => ?_
     refine p_e rfl (e_move (v := .lit _ _ _) rfl) ?_
     refine p_e rfl (e_len rfl (by kernel_rfl)) ?_
     refine p_e rfl (e_shlS (k := (its.map Item.enc).length) rfl rfl (by rw [List.length_map]; omega)) ?_
     refine p_new rfl (e_mkFil (n := N) rfl rfl (by rw [List.length_map, hN]) (by kernel_rfl) (by kernel_rfl) (by kernel_rfl) (by decide +kernel) (by omega)) trivial ?_
     refine p_e rfl (e_assign (v := .ref _ _ _ _) rfl) ?_
     refine p_end (hK19 _ ?_); clear hK19 K19
     refine pwp_seq_plain rfl fun K20 hK20 => ?_
     refine p_e rfl (e_move (v := .ref _ _ _ _) rfl) ?_
     refine p_e rfl (e_build (cs := Fil.enc (⟨(1), 0, 0⟩ : Fil)) (zs := [.int 0, .int 0, .int 0]) (pl := [(0, 1, false), (1, 1, false), (2, 1, false)]) (by kernel_rfl) (by kernel_rfl) (by kernel_rfl) rfl rfl (by exact ⟨by decide, rfl, Nat.le_of_ble_eq_true rfl, rfl, trivial⟩) rfl) ?_
     refine p_e rfl (e_ixaR0 rfl rfl (by kernel_rfl) (by kernel_rfl) (by first | omega | (rw [hT.1]; omega))) ?_
     refine p_store rfl (e_storeR (xs := (List.replicate N zFil)) (a := (⟨(1), 0, 0⟩ : Fil)) rfl (hset_self _ _ _) rfl (by first | (rw [hT.1]; omega) | (rw [List.length_replicate]; omega)) (fun _ => rfl) (by kernel_rfl) rfl (by kernel_rfl)) trivial ?_
     refine p_end (hK20 _ ?_); clear hK20 K20
     refine pwp_seq_seq ?_
     refine pwp_seq_plain rfl fun K21 hK21 => ?_
     refine p_aS rfl ?_
     refine p_end (hK21 _ ?_); clear hK21 K21
     refine pwp_seq_block fun K22 hK22 => ?_
     refine pwp_loopR (α := Nat × (List Fil)) [0, 3, 7] (fun (a23 : Nat × (List Fil)) => [(8, .int (a23.1))]) (fun (a23 : Nat × (List Fil)) (h : Heap) (c : Nat → Nat) => (1 ≤ (a23.1) ∧ (a23.1) ≤ N) ∧ (TabK (its.map Item.mass) x.mass N (a23.1) zFil (a23.2)) ∧ (Old c0 h0 h c) ∧ (h (3, c0 3) = some (.rows 2 [Lorry.enc x])) ∧ (h (35, c0 35) = some (.rows 3 ((a23.2).map Fil.enc)))) (fun (a23 : Nat × (List Fil)) => N - (a23.1)) (1, _) (by exact ⟨rfl, trivial⟩) (by exact ⟨by exact ⟨Nat.le_refl _, by omega⟩, by exact TabK.zero (by omega), by (repeat first | exact hO | exact Old.refl | refine Old.new ?_ | refine Old.upd ?_ (by first | exact Nat.le_refl _ | exact hO.mo _)), ((hset_ne (key_ne rfl)).trans ((hset_ne (key_ne rfl)).trans (hset_self _ _ _))), (hset_self _ _ _)⟩) fun a23 r24 h25 c26 hj27 => ?_
     obtain ⟨s, xs⟩ := a23
     obtain ⟨hsr, hT, hO, hihj27_0, hihj27_1⟩ := hj27
     try dsimp only at hsr
     try dsimp only at hT
     try dsimp only at hO
     try dsimp only at hihj27_0
     try dsimp only at hihj27_1
     show pwp _ _ (loopQ _ _ _) ⟨sets (mix _ _ _) [(8, .int s)], _, _⟩
     refine pwp_seq_seq ?_
     refine pwp_seq_plain rfl fun K28 hK28 => ?_
     refine p_mS rfl ?_
     refine p_e rfl (e_move (v := .ref _ _ _ _) rfl) ?_
     refine p_e rfl (e_lenR rfl (by kernel_rfl)) ?_
     refine p_e rfl (e_lt rfl rfl) ?_
     refine p_end (hK28 _ ?_); clear hK28 K28
     refine pwp_seq_cond rfl fun K29 hK29 => ⟨fun hb30 => ?_, fun hb30 => ?_⟩
     ·have hb30R := hb30; (try simp only [zz] at hb30); (try (have hbit := bit_t hb30)); (try (have hbit := bit_f hb30))
      have hxs0 := hT.here (by omega)
      refine pwp_skip ?_
      refine seq_norm (hK29 _ ?_); clear hK29 K29
      refine pwp_seq_block fun K31 hK31 => ?_
      refine pwp_seq_plain rfl fun K32 hK32 => ?_
      refine p_e rfl (e_move (v := .ref _ _ _ _) rfl) ?_
      refine p_mS rfl ?_
      refine p_e rfl (e_move (v := .lit _ _ _) rfl) ?_
      refine p_e rfl (e_len rfl (by kernel_rfl)) ?_
      refine p_e rfl (e_adL rfl rfl) ?_
      refine p_e rfl (e_ixaR0 rfl rfl (by kernel_rfl) (by kernel_rfl) (by first | omega | (rw [hT.1]; omega))) ?_
      refine p_e rfl (e_faQ pl3 rfl) ?_
      refine p_store rfl (e_storeF (xs := xs) (a := zFil) (a' := { zFil with l := (((((its).map Item.enc).length : Nat) : Int) + (1)) }) rfl hihj27_1 rfl hxs0 rfl (by kernel_rfl) (by kernel_rfl) rfl rfl) trivial ?_
      refine p_end (hK32 _ ?_); clear hK32 K32
      refine pwp_seq_plain rfl fun K33 hK33 => ?_
      refine p_e rfl (e_move (v := .lit _ _ _) rfl) ?_
      refine p_e rfl (e_len rfl (by kernel_rfl)) ?_
      refine p_mS rfl ?_
      refine p_end (hK33 _ ?_); clear hK33 K33
      refine pwp_block ?_
      refine pwp_loopR (α := Nat × (List Fil)) [0, 3, 7, 8, 52, 53] (fun (a34 : Nat × (List Fil)) => [(54, .int (a34.1))]) (fun (a34 : Nat × (List Fil)) (h : Heap) (c : Nat → Nat) => ((a34.1) ≤ its.length) ∧ (TabK (its.map Item.mass) x.mass N s (filK (its.map Item.mass) x.mass s (a34.1)) (a34.2)) ∧ (Old c0 h0 h c) ∧ (h (3, c0 3) = some (.rows 2 [Lorry.enc x])) ∧ (h (35, c0 35) = some (.rows 3 ((a34.2).map Fil.enc)))) (fun (a34 : Nat × (List Fil)) => its.length - (a34.1)) (0, _) (by exact ⟨rfl, trivial⟩) (by exact ⟨by exact Nat.zero_le _, by exact hT.start (by omega) (by simp only [List.length_map]), by (repeat first | exact hO | exact Old.refl | refine Old.new ?_ | refine Old.upd ?_ (by first | exact Nat.le_refl _ | exact hO.mo _)), ((hset_ne (key_ne rfl)).trans hihj27_0), (hset_self _ _ _)⟩) fun a34 r35 h36 c37 hj38 => ?_
      obtain ⟨k, xs⟩ := a34
      obtain ⟨hk, hT, hO, hihj38_0, hihj38_1⟩ := hj38
      try dsimp only at hk
      try dsimp only at hT
      try dsimp only at hO
      try dsimp only at hihj38_0
      try dsimp only at hihj38_1
      show pwp _ _ (loopQ _ _ _) ⟨sets (mix _ _ _) [(54, .int k)], _, _⟩
      refine pwp_seq_plain rfl fun K39 hK39 => ?_
      refine p_e rfl (e_lt rfl rfl) ?_
      refine p_end (hK39 _ ?_); clear hK39 K39
      refine pwp_seq_cond rfl fun K40 hK40 => ⟨fun hb41 => ?_, fun hb41 => ?_⟩
      ·have hb41R := hb41; (try simp only [zz] at hb41); (try (have hbit := bit_t hb41)); (try (have hbit := bit_f hb41))
       have hkl : k < its.length := by simp only [List.length_map] at *; omega
       obtain ⟨y, hy⟩ : ∃ y, its[((k : Int)).toNat]? = some y := ⟨_, List.getElem?_eq_getElem hkl⟩
       have hym := hits y (List.mem_of_getElem? hy)
       have hmy := ms_at hy
       have hyk := hT.here (by omega)
       refine pwp_skip ?_
       refine seq_norm (hK40 _ ?_); clear hK40 K40
       refine pwp_seq_block fun K42 hK42 => ?_
       refine pwp_seq_plain rfl fun K43 hK43 => ?_
       refine p_mS rfl ?_
       refine p_e rfl (e_ixL rfl rfl) ?_
       refine p_e rfl (e_loadA (n := 3) rfl (by kernel_rfl) (by kernel_rfl) (by kernel_rfl) (by first | omega | (simp only [List.length_map]; omega)) (by decide) (by first | exact agg_map hy rfl)) ?_
       refine p_new rfl (e_alloc (cs := [.str ByteArray.empty, .int 0, .int 0]) (n := 3) (by kernel_rfl) rfl (by decide)) (ob_alloc (by decide)) ?_
       refine p_aS rfl ?_
       refine p_store rfl (e_storeA rfl (hset_self _ _ _) rfl rfl rfl (by kernel_rfl) rfl (by kernel_rfl)) trivial ?_
       refine p_end (hK43 _ ?_); clear hK43 K43
       refine pwp_seq_seq ?_
       refine pwp_seq_plain rfl fun K44 hK44 => ?_
       refine p_mS rfl ?_
       refine p_mS rfl ?_
       refine p_e rfl (e_shrS (s := s) (k := k) rfl rfl (by omega) (by omega)) ?_
       refine p_e rfl (e_andS (s := s / 2 ^ k) rfl rfl (Nat.lt_of_le_of_lt (Nat.div_le_self _ _) (by omega))) ?_
       refine p_e rfl (e_eq rfl rfl) ?_
       refine p_end (hK44 _ ?_); clear hK44 K44
       refine pwp_seq_cond rfl fun K45 hK45 => ⟨fun hb46 => ?_, fun hb46 => ?_⟩
       ·have hb46R := hb46; (try simp only [zz] at hb46); (try (have hbit := bit_t hb46)); (try (have hbit := bit_f hb46))
        refine pwp_exit ?_
        refine exit_seq ?_
        clear hK45 K45
        refine exit_here ?_
        refine seq_norm (hK42 _ ?_); clear hK42 K42
        refine pwp_plain rfl fun K47 hK47 => ?_
        refine p_e rfl (e_adL rfl rfl) ?_
        refine p_mS rfl ?_
        refine p_end (hK47 _ ?_); clear hK47 K47
        exact loop_again ((k + 1, xs)) (by show _ < _; simp only; omega) ⟨rfl, rfl, rfl, rfl, rfl, rfl, trivial⟩ ⟨rfl, trivial⟩ (by exact ⟨by show _ + 1 ≤ _; omega, by first | exact tab_not hT hbit | exact tab_hit hT hbit (by omega) (step_t hmy (by omega)) (by assumption) | exact tab_hit hT hbit (by omega) (step_f hmy (by omega)) (by assumption) | exact tab_miss hT hbit (step_t hmy (by omega)) (by assumption) | exact tab_miss hT hbit (step_f hmy (by omega)) (by assumption), by (repeat first | exact hO | exact Old.refl | refine Old.new ?_ | refine Old.upd ?_ (by first | exact Nat.le_refl _ | exact hO.mo _)), ((hset_ne (key_ne rfl)).trans ((hset_ne (key_ne rfl)).trans hihj38_0)), ((hset_ne (key_ne rfl)).trans ((hset_ne (key_ne rfl)).trans hihj38_1))⟩)
       ·have hb46R := hb46; (try simp only [zz] at hb46); (try (have hbit := bit_t hb46)); (try (have hbit := bit_f hb46))
        refine pwp_skip ?_
        refine seq_norm (hK45 _ ?_); clear hK45 K45
        have hs6 : s - 2 ^ k < s := by have := Nat.two_pow_pos k; have := hasI_le hbit; omega
        have hyv := hT.low (a := s - 2 ^ k) hs6 (by omega)
        have hrg := filV_rng (s := s - 2 ^ k) hn6 hms hM0 (by rw [hml]; omega)
        refine pwp_seq_plain rfl fun K48 hK48 => ?_
        refine p_e rfl (e_move (v := .ref _ _ _ _) rfl) ?_
        refine p_mS rfl ?_
        refine p_mS rfl ?_
        refine p_e rfl (e_shlS (k := k) rfl rfl (by omega)) ?_
        refine p_e rfl (e_anS (s := s) (k := k) rfl rfl (by omega) (by omega) hbit) ?_
        refine p_e rfl (e_ixaR0 rfl rfl (by kernel_rfl) (by kernel_rfl) (by first | omega | (rw [hT.1]; omega))) ?_
        refine p_e rfl (e_loadHA (cs := Fil.enc (filV (its.map Item.mass) x.mass (s - 2 ^ k))) (n := 3) rfl ((hset_ne (key_ne rfl)).trans ((hset_ne (key_ne rfl)).trans hihj38_1)) (by kernel_rfl) (by kernel_rfl) (by kernel_rfl) (by rw [List.length_map, hT.1]; omega) (by decide) (agg_map hyv rfl)) ?_
        refine p_new rfl (e_alloc (cs := [.int 0, .int 0, .int 0]) (n := 3) (by kernel_rfl) rfl (by decide)) (ob_alloc (by decide)) ?_
        refine p_store rfl (e_storeA rfl (hset_self _ _ _) rfl rfl rfl (by kernel_rfl) rfl (by kernel_rfl)) trivial ?_
        refine p_end (hK48 _ ?_); clear hK48 K48
        refine pwp_seq_plain rfl fun K49 hK49 => ?_
        refine p_mS rfl ?_
        refine p_e rfl (e_faQ pl3 rfl) ?_
        refine p_store rfl (e_store1 rfl (hset_self _ _ _) rfl rfl rfl (by decide) (by kernel_rfl) rfl (by kernel_rfl)) trivial ?_
        refine p_end (hK49 _ ?_); clear hK49 K49
        refine pwp_seq_seq ?_
        refine pwp_seq_plain rfl fun K50 hK50 => ?_
        refine p_e rfl (e_faQ pl3 rfl) ?_
        refine p_e rfl (e_lH (v := .sc _) rfl (hset_self _ _ _) rfl) ?_
        refine p_e rfl (e_faQ pl3 rfl) ?_
        refine p_e rfl (e_lH (v := .sc _) rfl ((hset_ne (key_ne rfl)).trans ((hset_ne (key_ne rfl)).trans ((hset_ne (key_ne rfl)).trans (hset_self _ _ _)))) rfl) ?_
        refine p_e rfl (e_adL rfl rfl) ?_
        refine p_e rfl (e_faQ pl3 rfl) ?_
        refine p_store rfl (e_store1 rfl (hset_self _ _ _) rfl rfl rfl (by decide) (by kernel_rfl) rfl (by kernel_rfl)) trivial ?_
        refine p_end (hK50 _ ?_); clear hK50 K50
        refine pwp_seq_seq ?_
        refine pwp_seq_plain rfl fun K51 hK51 => ?_
        refine p_e rfl (e_faQ pl3 rfl) ?_
        refine p_e rfl (e_lH (v := .sc _) rfl (hset_self _ _ _) rfl) ?_
        refine p_e rfl (e_faQ pl2 rfl) ?_
        refine p_e rfl (e_lH (v := .sc _) rfl ((hset_ne (key_ne rfl)).trans ((hset_ne (key_ne rfl)).trans ((hset_ne (key_ne rfl)).trans ((hset_ne (key_ne rfl)).trans ((hset_ne (key_ne rfl)).trans ((hset_ne (key_ne rfl)).trans hihj38_0)))))) rfl) ?_
        refine p_e rfl (e_gt rfl rfl) ?_
        refine p_end (hK51 _ ?_); clear hK51 K51
        refine pwp_seq_cond rfl fun K52 hK52 => ⟨fun hb53 => ?_, fun hb53 => ?_⟩
        ·have hb53R := hb53; (try simp only [zz] at hb53); (try (have hbit := bit_t hb53)); (try (have hbit := bit_f hb53))
         refine pwp_gops rfl fun K54 hK54 => ?_
         refine s_begin ?_
         refine s_e rfl (e_faQ pl3 rfl) ?_
         refine s_step [11] (by simp) rfl rfl rfl rfl (e_lH (v := .sc _) rfl (hset_self _ _ _) rfl) trivial ?_
         refine s_e rfl (e_adL rfl rfl) ?_
         refine s_e rfl (e_faQ pl3 rfl) ?_
         refine s_step [10] (by simp) rfl rfl rfl rfl (e_lH (v := .sc _) rfl ((hset_ne (key_ne rfl)).trans ((hset_ne (key_ne rfl)).trans ((hset_ne (key_ne rfl)).trans ((hset_ne (key_ne rfl)).trans (hset_self _ _ _))))) rfl) trivial ?_
         refine s_e rfl (e_faQ pl3 rfl) ?_
         refine s_store [11] (by simp) rfl rfl (e_store1 rfl (hset_self _ _ _) rfl rfl rfl (by decide) (by kernel_rfl) rfl (by kernel_rfl)) trivial ?_
         refine s_e rfl (e_faQ pl3 rfl) ?_
         refine s_store [11] (by simp) rfl rfl (e_store1 rfl (hset_self _ _ _) rfl rfl rfl (by decide) (by kernel_rfl) rfl (by kernel_rfl)) trivial ?_
         refine s_end (ds := []) (by kernel_rfl) (by kernel_rfl) (hK54 _ ?_); clear hK54 K54
         refine seq_norm (hK52 _ ?_); clear hK52 K52
         refine pwp_seq_gops rfl fun K55 hK55 => ?_
         refine g_begin ?_
         refine g_e rfl (e_loadHA (cs := Fil.enc ({ ({ ({ ({ (filV (its.map Item.mass) x.mass (s - 2 ^ k)) with z := (k : Int) } : Fil) with m := ({ (filV (its.map Item.mass) x.mass (s - 2 ^ k)) with z := (k : Int) }.m + y.mass) } : Fil) with l := ({ ({ (filV (its.map Item.mass) x.mass (s - 2 ^ k)) with z := (k : Int) } : Fil) with m := ({ (filV (its.map Item.mass) x.mass (s - 2 ^ k)) with z := (k : Int) }.m + y.mass) }.l + (1)) } : Fil) with m := y.mass })) (n := 3) rfl (hset_self _ _ _) (by kernel_rfl) (by kernel_rfl) (by kernel_rfl) (by exact Nat.zero_lt_one) (by decide) rfl) ?_
         refine g_e rfl (e_move (v := .ref _ _ _ _) rfl) ?_
         refine g_mS rfl rfl ?_
         refine g_e rfl (e_ixaR0 rfl rfl (by kernel_rfl) (by kernel_rfl) (by first | omega | (rw [hT.1]; omega))) ?_
         refine g_e rfl (e_loadHA (cs := Fil.enc (filK (its.map Item.mass) x.mass s k)) (n := 3) rfl ((hset_ne (key_ne rfl)).trans ((hset_ne (key_ne rfl)).trans ((hset_ne (key_ne rfl)).trans ((hset_ne (key_ne rfl)).trans ((hset_ne (key_ne rfl)).trans ((hset_ne (key_ne rfl)).trans ((hset_ne (key_ne rfl)).trans ((hset_ne (key_ne rfl)).trans hihj38_1)))))))) (by kernel_rfl) (by kernel_rfl) (by kernel_rfl) (by rw [List.length_map, hT.1]; omega) (by decide) (agg_map hyk rfl)) ?_
         refine g_call rfl rfl rfl rfl (.cons (inn_agg (Fil.pure _)) (.cons (inn_agg (Fil.pure _)) .nil)) (betC _ _) ?_
         refine g_end (ds := []) (by kernel_rfl) rfl (hK55 _ ?_); clear hK55 K55
         refine pwp_cond rfl (fun hb56 => ?_) (fun hb56 => ?_)
         ·have hb56R := hb56; (try simp only [zz] at hb56); (try (have hbit := bit_t hb56)); (try (have hbit := bit_f hb56))
          refine pwp_plain rfl fun K57 hK57 => ?_
          refine p_e rfl (e_move (v := .ref _ _ _ _) rfl) ?_
          refine p_mS rfl ?_
          refine p_e rfl (e_loadHA (cs := Fil.enc ({ ({ ({ ({ (filV (its.map Item.mass) x.mass (s - 2 ^ k)) with z := (k : Int) } : Fil) with m := ({ (filV (its.map Item.mass) x.mass (s - 2 ^ k)) with z := (k : Int) }.m + y.mass) } : Fil) with l := ({ ({ (filV (its.map Item.mass) x.mass (s - 2 ^ k)) with z := (k : Int) } : Fil) with m := ({ (filV (its.map Item.mass) x.mass (s - 2 ^ k)) with z := (k : Int) }.m + y.mass) }.l + (1)) } : Fil) with m := y.mass })) (n := 3) rfl (hset_self _ _ _) (by kernel_rfl) (by kernel_rfl) (by kernel_rfl) (by exact Nat.zero_lt_one) (by decide) rfl) ?_
          refine p_e rfl (e_ixaR0 rfl rfl (by kernel_rfl) (by kernel_rfl) (by first | omega | (rw [hT.1]; omega))) ?_
          refine p_store rfl (e_storeR (xs := xs) (a := { ({ ({ ({ (filV (its.map Item.mass) x.mass (s - 2 ^ k)) with z := (k : Int) } : Fil) with m := ({ (filV (its.map Item.mass) x.mass (s - 2 ^ k)) with z := (k : Int) }.m + y.mass) } : Fil) with l := ({ ({ (filV (its.map Item.mass) x.mass (s - 2 ^ k)) with z := (k : Int) } : Fil) with m := ({ (filV (its.map Item.mass) x.mass (s - 2 ^ k)) with z := (k : Int) }.m + y.mass) }.l + (1)) } : Fil) with m := y.mass }) rfl ((hset_ne (key_ne rfl)).trans ((hset_ne (key_ne rfl)).trans ((hset_ne (key_ne rfl)).trans ((hset_ne (key_ne rfl)).trans ((hset_ne (key_ne rfl)).trans ((hset_ne (key_ne rfl)).trans ((hset_ne (key_ne rfl)).trans ((hset_ne (key_ne rfl)).trans hihj38_1)))))))) rfl (by first | (rw [hT.1]; omega) | (rw [List.length_replicate]; omega)) (fun _ => rfl) (by kernel_rfl) rfl (by kernel_rfl)) trivial ?_
          refine p_end (hK57 _ ?_); clear hK57 K57
          refine block_norm ?_
          refine seq_norm (hK42 _ ?_); clear hK42 K42
          refine pwp_plain rfl fun K58 hK58 => ?_
          refine p_e rfl (e_adL rfl rfl) ?_
          refine p_mS rfl ?_
          refine p_end (hK58 _ ?_); clear hK58 K58
          exact loop_again ((k + 1, ((xs).set ((s : Int)).toNat { ({ ({ ({ (filV (its.map Item.mass) x.mass (s - 2 ^ k)) with z := (k : Int) } : Fil) with m := ({ (filV (its.map Item.mass) x.mass (s - 2 ^ k)) with z := (k : Int) }.m + y.mass) } : Fil) with l := ({ ({ (filV (its.map Item.mass) x.mass (s - 2 ^ k)) with z := (k : Int) } : Fil) with m := ({ (filV (its.map Item.mass) x.mass (s - 2 ^ k)) with z := (k : Int) }.m + y.mass) }.l + (1)) } : Fil) with m := y.mass }))) (by show _ < _; simp only; omega) ⟨rfl, rfl, rfl, rfl, rfl, rfl, trivial⟩ ⟨rfl, trivial⟩ (by exact ⟨by show _ + 1 ≤ _; omega, by first | exact tab_not hT hbit | exact tab_hit hT hbit (by omega) (step_t hmy (by omega)) (by assumption) | exact tab_hit hT hbit (by omega) (step_f hmy (by omega)) (by assumption) | exact tab_miss hT hbit (step_t hmy (by omega)) (by assumption) | exact tab_miss hT hbit (step_f hmy (by omega)) (by assumption), by (repeat first | exact hO | exact Old.refl | refine Old.new ?_ | refine Old.upd ?_ (by first | exact Nat.le_refl _ | exact hO.mo _)), ((hset_ne (key_ne rfl)).trans ((hset_ne (key_ne rfl)).trans ((hset_ne (key_ne rfl)).trans ((hset_ne (key_ne rfl)).trans ((hset_ne (key_ne rfl)).trans ((hset_ne (key_ne rfl)).trans ((hset_ne (key_ne rfl)).trans ((hset_ne (key_ne rfl)).trans ((hset_ne (key_ne rfl)).trans hihj38_0))))))))), (hset_self _ _ _)⟩)
         ·have hb56R := hb56; (try simp only [zz] at hb56); (try (have hbit := bit_t hb56)); (try (have hbit := bit_f hb56))
          refine pwp_skip ?_
          refine block_norm ?_
          refine seq_norm (hK42 _ ?_); clear hK42 K42
          refine pwp_plain rfl fun K59 hK59 => ?_
          refine p_e rfl (e_adL rfl rfl) ?_
          refine p_mS rfl ?_
          refine p_end (hK59 _ ?_); clear hK59 K59
          exact loop_again ((k + 1, xs)) (by show _ < _; simp only; omega) ⟨rfl, rfl, rfl, rfl, rfl, rfl, trivial⟩ ⟨rfl, trivial⟩ (by exact ⟨by show _ + 1 ≤ _; omega, by first | exact tab_not hT hbit | exact tab_hit hT hbit (by omega) (step_t hmy (by omega)) (by assumption) | exact tab_hit hT hbit (by omega) (step_f hmy (by omega)) (by assumption) | exact tab_miss hT hbit (step_t hmy (by omega)) (by assumption) | exact tab_miss hT hbit (step_f hmy (by omega)) (by assumption), by (repeat first | exact hO | exact Old.refl | refine Old.new ?_ | refine Old.upd ?_ (by first | exact Nat.le_refl _ | exact hO.mo _)), ((hset_ne (key_ne rfl)).trans ((hset_ne (key_ne rfl)).trans ((hset_ne (key_ne rfl)).trans ((hset_ne (key_ne rfl)).trans ((hset_ne (key_ne rfl)).trans ((hset_ne (key_ne rfl)).trans ((hset_ne (key_ne rfl)).trans ((hset_ne (key_ne rfl)).trans hihj38_0)))))))), ((hset_ne (key_ne rfl)).trans ((hset_ne (key_ne rfl)).trans ((hset_ne (key_ne rfl)).trans ((hset_ne (key_ne rfl)).trans ((hset_ne (key_ne rfl)).trans ((hset_ne (key_ne rfl)).trans ((hset_ne (key_ne rfl)).trans ((hset_ne (key_ne rfl)).trans hihj38_1))))))))⟩)
        ·have hb53R := hb53; (try simp only [zz] at hb53); (try (have hbit := bit_t hb53)); (try (have hbit := bit_f hb53))
         refine pwp_skip ?_
         refine seq_norm (hK52 _ ?_); clear hK52 K52
         refine pwp_seq_gops rfl fun K60 hK60 => ?_
         refine g_begin ?_
         refine g_e rfl (e_loadHA (cs := Fil.enc ({ ({ (filV (its.map Item.mass) x.mass (s - 2 ^ k)) with z := (k : Int) } : Fil) with m := ({ (filV (its.map Item.mass) x.mass (s - 2 ^ k)) with z := (k : Int) }.m + y.mass) })) (n := 3) rfl (hset_self _ _ _) (by kernel_rfl) (by kernel_rfl) (by kernel_rfl) (by exact Nat.zero_lt_one) (by decide) rfl) ?_
         refine g_e rfl (e_move (v := .ref _ _ _ _) rfl) ?_
         refine g_mS rfl rfl ?_
         refine g_e rfl (e_ixaR0 rfl rfl (by kernel_rfl) (by kernel_rfl) (by first | omega | (rw [hT.1]; omega))) ?_
         refine g_e rfl (e_loadHA (cs := Fil.enc (filK (its.map Item.mass) x.mass s k)) (n := 3) rfl ((hset_ne (key_ne rfl)).trans ((hset_ne (key_ne rfl)).trans ((hset_ne (key_ne rfl)).trans ((hset_ne (key_ne rfl)).trans ((hset_ne (key_ne rfl)).trans ((hset_ne (key_ne rfl)).trans hihj38_1)))))) (by kernel_rfl) (by kernel_rfl) (by kernel_rfl) (by rw [List.length_map, hT.1]; omega) (by decide) (agg_map hyk rfl)) ?_
         refine g_call rfl rfl rfl rfl (.cons (inn_agg (Fil.pure _)) (.cons (inn_agg (Fil.pure _)) .nil)) (betC _ _) ?_
         refine g_end (ds := []) (by kernel_rfl) rfl (hK60 _ ?_); clear hK60 K60
         refine pwp_cond rfl (fun hb61 => ?_) (fun hb61 => ?_)
         ·have hb61R := hb61; (try simp only [zz] at hb61); (try (have hbit := bit_t hb61)); (try (have hbit := bit_f hb61))
          refine pwp_plain rfl fun K62 hK62 => ?_
          refine p_e rfl (e_move (v := .ref _ _ _ _) rfl) ?_
          refine p_mS rfl ?_
          refine p_e rfl (e_loadHA (cs := Fil.enc ({ ({ (filV (its.map Item.mass) x.mass (s - 2 ^ k)) with z := (k : Int) } : Fil) with m := ({ (filV (its.map Item.mass) x.mass (s - 2 ^ k)) with z := (k : Int) }.m + y.mass) })) (n := 3) rfl (hset_self _ _ _) (by kernel_rfl) (by kernel_rfl) (by kernel_rfl) (by exact Nat.zero_lt_one) (by decide) rfl) ?_
          refine p_e rfl (e_ixaR0 rfl rfl (by kernel_rfl) (by kernel_rfl) (by first | omega | (rw [hT.1]; omega))) ?_
          refine p_store rfl (e_storeR (xs := xs) (a := { ({ (filV (its.map Item.mass) x.mass (s - 2 ^ k)) with z := (k : Int) } : Fil) with m := ({ (filV (its.map Item.mass) x.mass (s - 2 ^ k)) with z := (k : Int) }.m + y.mass) }) rfl ((hset_ne (key_ne rfl)).trans ((hset_ne (key_ne rfl)).trans ((hset_ne (key_ne rfl)).trans ((hset_ne (key_ne rfl)).trans ((hset_ne (key_ne rfl)).trans ((hset_ne (key_ne rfl)).trans hihj38_1)))))) rfl (by first | (rw [hT.1]; omega) | (rw [List.length_replicate]; omega)) (fun _ => rfl) (by kernel_rfl) rfl (by kernel_rfl)) trivial ?_
          refine p_end (hK62 _ ?_); clear hK62 K62
          refine block_norm ?_
          refine seq_norm (hK42 _ ?_); clear hK42 K42
          refine pwp_plain rfl fun K63 hK63 => ?_
          refine p_e rfl (e_adL rfl rfl) ?_
          refine p_mS rfl ?_
          refine p_end (hK63 _ ?_); clear hK63 K63
          exact loop_again ((k + 1, ((xs).set ((s : Int)).toNat { ({ (filV (its.map Item.mass) x.mass (s - 2 ^ k)) with z := (k : Int) } : Fil) with m := ({ (filV (its.map Item.mass) x.mass (s - 2 ^ k)) with z := (k : Int) }.m + y.mass) }))) (by show _ < _; simp only; omega) ⟨rfl, rfl, rfl, rfl, rfl, rfl, trivial⟩ ⟨rfl, trivial⟩ (by exact ⟨by show _ + 1 ≤ _; omega, by first | exact tab_not hT hbit | exact tab_hit hT hbit (by omega) (step_t hmy (by omega)) (by assumption) | exact tab_hit hT hbit (by omega) (step_f hmy (by omega)) (by assumption) | exact tab_miss hT hbit (step_t hmy (by omega)) (by assumption) | exact tab_miss hT hbit (step_f hmy (by omega)) (by assumption), by (repeat first | exact hO | exact Old.refl | refine Old.new ?_ | refine Old.upd ?_ (by first | exact Nat.le_refl _ | exact hO.mo _)), ((hset_ne (key_ne rfl)).trans ((hset_ne (key_ne rfl)).trans ((hset_ne (key_ne rfl)).trans ((hset_ne (key_ne rfl)).trans ((hset_ne (key_ne rfl)).trans ((hset_ne (key_ne rfl)).trans ((hset_ne (key_ne rfl)).trans hihj38_0))))))), (hset_self _ _ _)⟩)
         ·have hb61R := hb61; (try simp only [zz] at hb61); (try (have hbit := bit_t hb61)); (try (have hbit := bit_f hb61))
          refine pwp_skip ?_
          refine block_norm ?_
          refine seq_norm (hK42 _ ?_); clear hK42 K42
          refine pwp_plain rfl fun K64 hK64 => ?_
          refine p_e rfl (e_adL rfl rfl) ?_
          refine p_mS rfl ?_
          refine p_end (hK64 _ ?_); clear hK64 K64
          exact loop_again ((k + 1, xs)) (by show _ < _; simp only; omega) ⟨rfl, rfl, rfl, rfl, rfl, rfl, trivial⟩ ⟨rfl, trivial⟩ (by exact ⟨by show _ + 1 ≤ _; omega, by first | exact tab_not hT hbit | exact tab_hit hT hbit (by omega) (step_t hmy (by omega)) (by assumption) | exact tab_hit hT hbit (by omega) (step_f hmy (by omega)) (by assumption) | exact tab_miss hT hbit (step_t hmy (by omega)) (by assumption) | exact tab_miss hT hbit (step_f hmy (by omega)) (by assumption), by (repeat first | exact hO | exact Old.refl | refine Old.new ?_ | refine Old.upd ?_ (by first | exact Nat.le_refl _ | exact hO.mo _)), ((hset_ne (key_ne rfl)).trans ((hset_ne (key_ne rfl)).trans ((hset_ne (key_ne rfl)).trans ((hset_ne (key_ne rfl)).trans ((hset_ne (key_ne rfl)).trans ((hset_ne (key_ne rfl)).trans hihj38_0)))))), ((hset_ne (key_ne rfl)).trans ((hset_ne (key_ne rfl)).trans ((hset_ne (key_ne rfl)).trans ((hset_ne (key_ne rfl)).trans ((hset_ne (key_ne rfl)).trans ((hset_ne (key_ne rfl)).trans hihj38_1))))))⟩)
      ·have hb41R := hb41; (try simp only [zz] at hb41); (try (have hbit := bit_t hb41)); (try (have hbit := bit_f hb41))
       have hkl : k = (its.map Item.mass).length := by simp only [List.length_map] at *; omega
       subst hkl
       have hTd := hT.done (by omega)
       refine pwp_exit ?_
       refine exit_seq ?_
       clear hK40 K40
       refine exit_loop ?_
       refine exit_here ?_
       refine block_norm ?_
       refine seq_norm (hK31 _ ?_); clear hK31 K31
       refine pwp_plain rfl fun K65 hK65 => ?_
       refine p_mS rfl ?_
       refine p_e rfl (e_adL rfl rfl) ?_
       refine p_aS rfl ?_
       refine p_end (hK65 _ ?_); clear hK65 K65
       exact loop_again ((s + 1, xs)) (by show _ < _; simp only; omega) ⟨rfl, rfl, rfl, trivial⟩ ⟨rfl, trivial⟩ (by exact ⟨by show 1 ≤ _ + 1 ∧ _ + 1 ≤ N; omega, by exact hTd, by exact hO, hihj38_0, hihj38_1⟩)
     ·have hb30R := hb30; (try simp only [zz] at hb30); (try (have hbit := bit_t hb30)); (try (have hbit := bit_f hb30))
      have hsN : s = N := by omega
      refine pwp_exit ?_
      refine exit_seq ?_
      clear hK29 K29
      refine exit_loop ?_
      refine exit_here ?_
      refine seq_norm (hK22 _ ?_); clear hK22 K22
      have hO9 := hO.mo 109
      have hsN2 : N = s := hsN.symm
      subst hsN2
      obtain ⟨F, hF⟩ : ∃ F, N = F + 1 := ⟨N - 1, by omega⟩
      have hF1 : F ≠ 0 := by omega
      have hFlt : F < 2 ^ (its.map Item.mass).length := by rw [hml]; omega
      have hFr := filV_rng hn6 hms hM0 hFlt
      obtain ⟨L, hL⟩ : ∃ L : Nat, (filV (its.map Item.mass) x.mass F).l = (L : Int) := ⟨(filV (its.map Item.mass) x.mass F).l.toNat, by omega⟩
      have hxF := hT.low (a := F) (by omega) (Nat.le_refl _)
      refine pwp_seq_plain rfl fun K66 hK66 => ?_
      refine p_e rfl (e_move (v := .ref _ _ _ _) rfl) ?_
      refine p_e rfl (e_move (v := .ref _ _ _ _) rfl) ?_
      refine p_e rfl (e_lenR rfl (by kernel_rfl)) ?_
      refine p_e rfl (e_subE (c := (F : Int)) rfl rfl (by omega) (by omega)) ?_
      refine p_e rfl (e_ixaR0 rfl rfl (by kernel_rfl) (by kernel_rfl) (by first | omega | (rw [hT.1]; omega))) ?_
      refine p_e rfl (e_faQ pl3 rfl) ?_
      refine p_e rfl (e_loadH (v := .sc _) rfl hihj27_1 (by kernel_rfl) (by kernel_rfl) (by kernel_rfl) (by rw [List.length_map, hT.1]; omega) (by decide) ((cell_map hxF _).trans rfl)) ?_
      refine p_new rfl (e_mkV (n := L) rfl rfl hL (by kernel_rfl) (by kernel_rfl) (by kernel_rfl) (by decide +kernel) (by omega)) trivial ?_
      refine p_e rfl (e_assign (v := .ref _ _ _ _) rfl) ?_
      refine p_end (hK66 _ ?_); clear hK66 K66
      refine pwp_seq_seq ?_
      refine pwp_seq_plain rfl fun K67 hK67 => ?_
      refine p_e rfl (e_move (v := .ref _ _ _ _) rfl) ?_
      refine p_e rfl (e_lenR rfl (by kernel_rfl)) ?_
      refine p_e rfl (e_subE (c := (F : Int)) rfl rfl (by omega) (by omega)) ?_
      refine p_aS rfl ?_
      refine p_end (hK67 _ ?_); clear hK67 K67
      refine pwp_seq_block fun K68 hK68 => ?_
      refine pwp_loopR (α := Nat × (List PV) × (Nat → List Int) × Nat) [7, 12] (fun (a69 : Nat × (List PV) × (Nat → List Int) × Nat) => [(13, .int (a69.1))]) (fun (a69 : Nat × (List PV) × (Nat → List Int) × Nat) (h : Heap) (c : Nat → Nat) => ((a69.1) < N) ∧ ((a69.2.1).length = L) ∧ (Fam h 140 140 (a69.2.1) (a69.2.2.1) (a69.2.2.2)) ∧ ((a69.2.2.2) + (a69.1) ≤ 64) ∧ (∀ b, b < L → (a69.2.2.1) b ++ remB (its.map Item.mass) x.mass b (a69.1) = remB (its.map Item.mass) x.mass b F) ∧ (GE140 c0 (a69.2.1)) ∧ ((filV (its.map Item.mass) x.mass (a69.1)).l ≤ (L : Int)) ∧ (Old c0 h0 h c) ∧ (h (35, c0 35) = some (.rows 3 (xs.map Fil.enc))) ∧ (h (109, c26 109) = some (.rows 1 ((a69.2.1).map cv)))) (fun (a69 : Nat × (List PV) × (Nat → List Int) × Nat) => (a69.1)) (F, (List.replicate L .nil), (fun _ => []), 0) (by exact ⟨rfl, trivial⟩) (by exact ⟨by show F < N; omega, by exact List.length_replicate, by exact Fam.zero, by show 0 + F ≤ 64; omega, by exact fun b hb => rfl, by exact GE140.zero, by show (filV (its.map Item.mass) x.mass F).l ≤ (L : Int); omega, by (repeat first | exact hO | exact Old.refl | refine Old.new ?_ | refine Old.upd ?_ (by first | exact Nat.le_refl _ | exact hO.mo _)), ((hset_ne (key_ne rfl)).trans hihj27_1), (hset_self _ _ _)⟩) fun a69 r70 h71 c72 hj73 => ?_
      obtain ⟨s, vs, cs, bb⟩ := a69
      obtain ⟨hsN, hvl, hFam, hbb, hrem, hGE, hlL, hO, hihj73_0, hihj73_1⟩ := hj73
      try dsimp only at hsN
      try dsimp only at hvl
      try dsimp only at hFam
      try dsimp only at hbb
      try dsimp only at hrem
      try dsimp only at hGE
      try dsimp only at hlL
      try dsimp only at hO
      try dsimp only at hihj73_0
      try dsimp only at hihj73_1
      show pwp _ _ (loopQ _ _ _) ⟨sets (mix _ _ _) [(13, .int s)], _, _⟩
      refine pwp_seq_seq ?_
      refine pwp_seq_plain rfl fun K74 hK74 => ?_
      refine p_mS rfl ?_
      refine p_e rfl (e_gt rfl rfl) ?_
      refine p_end (hK74 _ ?_); clear hK74 K74
      refine pwp_seq_cond rfl fun K75 hK75 => ⟨fun hb76 => ?_, fun hb76 => ?_⟩
      ·have hb76R := hb76; (try simp only [zz] at hb76); (try (have hbit := bit_t hb76)); (try (have hbit := bit_f hb76))
       have hs0 : s ≠ 0 := by omega
       have hslt : s < 2 ^ (its.map Item.mass).length := by rw [hml]; omega
       obtain ⟨i, ⟨hi1, hi2, hi3, hi4⟩, hiz, hdn⟩ := filV_dn hn6 hms hM0 hslt hs0
       have hrg := filV_rng hn6 hms hM0 hslt
       have hxs := hT.low (a := s) (by omega) (Nat.le_refl _)
       have hi6 : i < 6 := by omega
       refine pwp_skip ?_
       refine seq_norm (hK75 _ ?_); clear hK75 K75
       refine pwp_seq_block fun K77 hK77 => ?_
       refine pwp_seq_plain rfl fun K78 hK78 => ?_
       refine p_e rfl (e_move (v := .ref _ _ _ _) rfl) ?_
       refine p_mS rfl ?_
       refine p_e rfl (e_ixaR0 rfl rfl (by kernel_rfl) (by kernel_rfl) (by first | omega | (rw [hT.1]; omega))) ?_
       refine p_e rfl (e_loadHA (cs := Fil.enc (filV (its.map Item.mass) x.mass s)) (n := 3) rfl hihj73_0 (by kernel_rfl) (by kernel_rfl) (by kernel_rfl) (by rw [List.length_map, hT.1]; omega) (by decide) (agg_map hxs rfl)) ?_
       refine p_new rfl (e_alloc (cs := [.int 0, .int 0, .int 0]) (n := 3) (by kernel_rfl) rfl (by decide)) (ob_alloc (by decide)) ?_
       refine p_store rfl (e_storeA rfl (hset_self _ _ _) rfl rfl rfl (by kernel_rfl) rfl (by kernel_rfl)) trivial ?_
       refine p_end (hK78 _ ?_); clear hK78 K78
       refine pwp_gopsK rfl fun hkn K79 hK79 => ?_
       have hf140 := hkn.fresh 140
       have hbL : ((filV (its.map Item.mass) x.mass s).l - 1).toNat < L := by omega
       obtain ⟨u, hu⟩ : ∃ u, vs[((filV (its.map Item.mass) x.mass s).l - 1).toNat]? = some u := ⟨_, List.getElem?_eq_getElem (by omega)⟩
       have hsl := hFam.sl _ _ hu
       refine s_begin ?_
       refine s_e rfl (e_move (v := .ref _ _ _ _) rfl) ?_
       refine s_e rfl (e_faQ pl3 rfl) ?_
       refine s_step [14] (by simp) rfl rfl rfl rfl (e_lH (v := .int (filV (its.map Item.mass) x.mass s).l) rfl (hset_self _ _ _) rfl) trivial ?_
       refine s_e rfl (e_sub rfl rfl (by omega)) ?_
       refine s_e rfl (e_move (v := .ref _ _ _ _) rfl) ?_
       refine s_e rfl (e_faQ pl3 rfl) ?_
       refine s_step [14] (by simp) rfl rfl rfl rfl (e_lH (v := .int (filV (its.map Item.mass) x.mass s).l) rfl (hset_self _ _ _) rfl) trivial ?_
       refine s_e rfl (e_sub rfl rfl (by omega)) ?_
       refine s_e rfl (e_ixaR0 rfl rfl (by kernel_rfl) (by kernel_rfl) (by omega)) ?_
       refine s_step [109] (by simp) rfl rfl rfl rfl (e_loadV (v := u) rfl ((hset_ne (key_ne rfl)).trans ((hset_ne (key_ne rfl)).trans hihj73_1)) (by kernel_rfl) (by kernel_rfl) (by kernel_rfl) hu) trivial ?_
       refine s_e rfl (e_faQ pl3 rfl) ?_
       refine s_step [14] (by simp) rfl rfl rfl rfl (e_lH (v := .int (filV (its.map Item.mass) x.mass s).z) rfl (hset_self _ _ _) rfl) trivial ?_
       refine s_new [] (by simp) rfl rfl rfl rfl (e_bslice (rows := [ci (filV (its.map Item.mass) x.mass s).z]) (zs := [.int 0]) (sz := 1) (by kernel_rfl) (by kernel_rfl) rfl (by kernel_rfl) (by decide) rfl rfl (by exact ⟨by decide, rfl, rfl, trivial⟩) rfl) trivial ?_
       refine s_appK (u := u) (sz := 1) (d1 := 140) (rows := (cs ((filV (its.map Item.mass) x.mass s).l - 1).toNat).map ci) (rows2 := [ci (filV (its.map Item.mass) x.mass s).z]) (ds := [139]) [140, 139] [140] (by simp) (by simp) (by simp) rfl rfl rfl ((hsl.1.elim id id).keep fun g => ((hset_ne (key_ne rfl)).trans ((hset_ne (key_ne rfl)).trans ((hset_ne (key_ne rfl)).trans rfl)))) (SrcAt.ref (hset_self _ _ _) rfl) rfl (by kernel_rfl) (by simp only [List.length_map, List.length_cons, List.length_nil]; omega) (by simp) fun h1 hr1 hf1 => ?_
       have hA1 : ApK _ h1 140 _ 140 140 u ((cs ((filV (its.map Item.mass) x.mass s).l - 1).toNat).map ci).length := fun k' q1 q2 _ => hf1 k' q1 q2
       have hFam1 : Fam h1 140 140 (vs.set ((filV (its.map Item.mass) x.mass s).l - 1).toNat (.ref (140, (cset (cset c72 14) 139) 140) 1 0 (((cs ((filV (its.map Item.mass) x.mass s).l - 1).toNat).map ci).length + 1))) (fun j => if j = ((filV (its.map Item.mass) x.mass s).l - 1).toNat then cs ((filV (its.map Item.mass) x.mass s).l - 1).toNat ++ [(filV (its.map Item.mass) x.mass s).z] else cs j) (bb + 1) := Fam.app (i := ((filV (its.map Item.mass) x.mass s).l - 1).toNat) (hFam.keep (fun g => ((hset_ne (key_ne rfl)).trans ((hset_ne (key_ne rfl)).trans ((hset_ne (key_ne rfl)).trans rfl)))) (fun g => ((hset_ne (key_ne rfl)).trans ((hset_ne (key_ne rfl)).trans ((hset_ne (key_ne rfl)).trans rfl))))) (.inl rfl) (fun g o hh => hf140 g o (((hset_ne (key_ne rfl)).trans rfl).symm.trans hh)) hu hr1 hA1
       have hO1 : Old c0 h0 h1 (cset (cset (cset c72 14) 139) 140) := Old.app140 (by repeat first | exact hO | exact Old.refl | refine Old.new ?_ | refine Old.upd ?_ (by first | exact Nat.le_refl _ | exact hO.mo _)) hA1 (fun g hg => hGE _ _ _ (hu.trans (congrArg some hg)))
       refine s_e rfl (e_ixaR0 rfl rfl (by kernel_rfl) (by kernel_rfl) (by omega)) ?_
       refine s_store [109] (by simp) rfl rfl (e_storeV (v := .ref (140, (cset (cset c72 14) 139) 140) 1 0 (((cs ((filV (its.map Item.mass) x.mass s).l - 1).toNat).map ci).length + 1)) rfl ((hA1.ne rfl rfl rfl).trans ((hset_ne (key_ne rfl)).trans ((hset_ne (key_ne rfl)).trans ((hset_ne (key_ne rfl)).trans hihj73_1)))) rfl rfl rfl (by omega) (by kernel_rfl) (by kernel_rfl)) trivial ?_
       refine s_end (ds := []) (by kernel_rfl) (by kernel_rfl) (hK79 _ ?_); clear hK79 K79
       skip
       refine block_norm ?_
       refine seq_norm (hK77 _ ?_); clear hK77 K77
       refine pwp_plain rfl fun K80 hK80 => ?_
       refine p_mS rfl ?_
       refine p_e rfl (e_move (v := .ref _ _ _ _) rfl) ?_
       refine p_mS rfl ?_
       refine p_e rfl (e_ixaR0 rfl rfl (by kernel_rfl) (by kernel_rfl) (by first | omega | (rw [hT.1]; omega))) ?_
       refine p_e rfl (e_faQ pl3 rfl) ?_
       refine p_e rfl (e_loadH (v := .int (i : Int)) rfl ((hset_ne (key_ne rfl)).trans ((hA1.ne rfl rfl rfl).trans ((hset_ne (key_ne rfl)).trans ((hset_ne (key_ne rfl)).trans ((hset_ne (key_ne rfl)).trans hihj73_0))))) (by kernel_rfl) (by kernel_rfl) (by kernel_rfl) (by rw [List.length_map, hT.1]; omega) (by decide) ((cell_map hxs _).trans (by show PV.int _ = _; rw [hiz]))) ?_
       refine p_e rfl (e_shlS (k := i) rfl rfl (by omega)) ?_
       refine p_e rfl (e_anS (s := s) (k := i) rfl rfl (by omega) (by omega) hi2) ?_
       refine p_aS rfl ?_
       refine p_end (hK80 _ ?_); clear hK80 K80
       exact loop_again ((s - 2 ^ i, _, _, bb + 1)) (by show _ < _; simp only; omega) ⟨rfl, rfl, trivial⟩ ⟨rfl, trivial⟩ (by exact ⟨by show _ - _ < N; omega, by rw [List.length_set]; exact hvl, by exact hFam1.keep (fun g => hset_ne (key_ne rfl)) (fun g => hset_ne (key_ne rfl)), by show bb + 1 + (s - 2 ^ i) ≤ 64; omega, by exact rem_step hrem hs0 hiz rfl rfl, by exact hGE.set (hO.mo 140), by exact Int.le_trans hdn hlL, by exact Old.upd hO1 hO9, ((hset_ne (key_ne rfl)).trans ((hA1.ne rfl rfl rfl).trans ((hset_ne (key_ne rfl)).trans ((hset_ne (key_ne rfl)).trans ((hset_ne (key_ne rfl)).trans hihj73_0))))), (hset_self _ _ _)⟩)
      ·have hb76R := hb76; (try simp only [zz] at hb76); (try (have hbit := bit_t hb76)); (try (have hbit := bit_f hb76))
       obtain rfl : s = 0 := by omega
       have hcs : ∀ b, b < L → cs b = remB (its.map Item.mass) x.mass b F := fun b hb => by have := hrem b hb; rw [remB_0, List.append_nil] at this; exact this
       refine pwp_exit ?_
       refine exit_seq ?_
       clear hK75 K75
       refine exit_loop ?_
       refine exit_here ?_
       refine seq_norm (hK68 _ ?_); clear hK68 K68
       refine pwp_seq_seq ?_
       refine pwp_seq_plain rfl fun K81 hK81 => ?_
       refine p_e rfl (e_move (v := .ref _ _ _ _) rfl) ?_
       refine p_e rfl (e_lenR rfl (by kernel_rfl)) ?_
       refine p_mS rfl ?_
       refine p_end (hK81 _ ?_); clear hK81 K81
       refine pwp_seq_block fun K82 hK82 => ?_
       refine pwp_loopR (α := Nat × (Nat → List Int)) [12, 142, 143] (fun (a83 : Nat × (Nat → List Int)) => [(144, .int (a83.1))]) (fun (a83 : Nat × (Nat → List Int)) (h : Heap) (c : Nat → Nat) => ((a83.1) ≤ L) ∧ (Fam h 140 140 vs (a83.2) bb) ∧ (∀ b, b < L → ((a83.2) b).Perm (remB (its.map Item.mass) x.mass b F) ∧ (b < (a83.1) → Srtd ((a83.2) b) ((a83.2) b).length)) ∧ (Old c0 h0 h c) ∧ (h (109, c26 109) = some (.rows 1 (vs.map cv)))) (fun (a83 : Nat × (Nat → List Int)) => L - (a83.1)) (0, cs) (by exact ⟨rfl, trivial⟩) (by exact ⟨by exact Nat.zero_le _, by exact hFam, by exact fun b hb => ⟨List.Perm.of_eq (hcs b hb), fun q => absurd q (Nat.not_lt_zero _)⟩, by exact hO, hihj73_1⟩) fun a83 r84 h85 c86 hj87 => ?_
       obtain ⟨k, ds⟩ := a83
       obtain ⟨hk, hFam, hds, hO, hihj87_0⟩ := hj87
       try dsimp only at hk
       try dsimp only at hFam
       try dsimp only at hds
       try dsimp only at hO
       try dsimp only at hihj87_0
       show pwp _ _ (loopQ _ _ _) ⟨sets (mix _ _ _) [(144, .int k)], _, _⟩
       refine pwp_seq_plain rfl fun K88 hK88 => ?_
       refine p_e rfl (e_lt rfl rfl) ?_
       refine p_end (hK88 _ ?_); clear hK88 K88
       refine pwp_seq_cond rfl fun K89 hK89 => ⟨fun hb90 => ?_, fun hb90 => ?_⟩
       ·have hb90R := hb90; (try simp only [zz] at hb90); (try (have hbit := bit_t hb90)); (try (have hbit := bit_f hb90))
        have hkL : k < L := by omega
        refine pwp_skip ?_
        refine seq_norm (hK89 _ ?_); clear hK89 K89
        refine pwp_seq_block fun K91 hK91 => ?_
        obtain ⟨u, hu⟩ : ∃ u, vs[k]? = some u := ⟨_, List.getElem?_eq_getElem (by omega)⟩
        have hrl := rem_len (b := k) hms hM0 hl6 hne (by omega) hF1 hL hkL
        have hpk := (hds k hkL).1.length_eq
        obtain ⟨gk, hug, hrow⟩ := SliceAt.isRef ((hFam.sl k u hu).1.elim id id) (by intro y; have := congrArg List.length y; rw [List.length_map, List.length_nil] at this; omega)
        rw [List.length_map] at hug; subst hug
        refine pwp_seq_plain rfl fun K92 hK92 => ?_
        refine p_e rfl (e_ixaR0 rfl rfl (by kernel_rfl) (by kernel_rfl) (by omega)) ?_
        refine p_e rfl (e_loadV (v := .ref (140, gk) 1 0 (ds k).length) rfl hihj87_0 (by kernel_rfl) (by kernel_rfl) (by kernel_rfl) hu) ?_
        refine p_e rfl (e_assign (v := .ref _ _ _ _) rfl) ?_
        refine p_end (hK92 _ ?_); clear hK92 K92
        refine pwp_plain rfl fun K93 hK93 => ?_
        refine p_e rfl (e_move (v := .ref (140, gk) 1 0 (ds k).length) rfl) ?_
        refine p_hcall rfl (sortH gk (ds k).length (by omega) (ds k) rfl _ _ hrow) fun v_ h_ c_ hR_ => ?_
        obtain ⟨ys, hy1, hy2, hy3, hy4, hy5, hy6⟩ := hR_
        subst hy6
        refine p_end (hK93 _ ?_); clear hK93 K93
        refine block_norm ?_
        refine seq_norm (hK91 _ ?_); clear hK91 K91
        refine pwp_plain rfl fun K94 hK94 => ?_
        refine p_e rfl (e_adL rfl rfl) ?_
        refine p_mS rfl ?_
        refine p_end (hK94 _ ?_); clear hK94 K94
        exact loop_again ((k + 1, _)) (by show _ < _; simp only; omega) ⟨rfl, rfl, rfl, trivial⟩ ⟨rfl, trivial⟩ (by exact ⟨by show _ + 1 ≤ _; omega, by exact Fam.put hFam hu hy4 hy1 hy5, by exact srt_next hds hkL hy2 (by rw [hy1]; exact hy3), by exact Old.put hO hy5 (hGE _ _ _ hu), ((hy5 _ (key_ne rfl)).trans hihj87_0)⟩)
       ·have hb90R := hb90; (try simp only [zz] at hb90); (try (have hbit := bit_t hb90)); (try (have hbit := bit_f hb90))
        have hkL : k = L := by omega
        refine pwp_exit ?_
        refine exit_seq ?_
        clear hK89 K89
        refine exit_loop ?_
        refine exit_here ?_
        refine seq_norm (hK82 _ ?_); clear hK82 K82
        refine pwp_seq_plain rfl fun K95 hK95 => ?_
        refine p_e rfl (e_move (v := .ref _ _ _ _) rfl) ?_
        refine p_e rfl (e_assign (v := .ref _ _ _ _) rfl) ?_
        refine p_aS rfl ?_
        refine p_end (hK95 _ ?_); clear hK95 K95
        refine pwp_ret ?_
        refine end2 (v := .ref _ _ _ _) (w := .sc _) rfl rfl ?_
        refine ⟨hO, .inr (.inr ⟨loadE_0 hz (by omega) hb, fun e => hne (by rw [e]; rfl), hl6, _, vs, (List.range L).map ds, by rw [hvl], ⟨hihj87_0, by rw [List.length_map, List.length_range]; exact hvl, fun b u l e1 e2 => ?_⟩, ?_⟩)⟩
        · rw [List.getElem?_map] at e2
          have hbL : b < L := by rw [← hvl]; exact (List.getElem?_eq_some_iff.1 e1).1
          rw [List.getElem?_range hbL] at e2
          cases e2
          exact (hFam.sl b u e1).1.elim id id
        · exact good_fin hz hb hl6 hne (by omega) hL fun b hb => ⟨(hds b hb).1, (hds b hb).2 (by omega)⟩

end Go.Proofs.Ytigdmkhdmbbfiaa
