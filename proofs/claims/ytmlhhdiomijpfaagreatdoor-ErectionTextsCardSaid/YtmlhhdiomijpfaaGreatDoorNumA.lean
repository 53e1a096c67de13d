import Derived.Test.YtmlhhdiomijpfaaGreatDoorOrcT
import Derived.Test.YtmlhhdiomijpfaaGreatDoorPvGh
import Derived.Test.YtmlhhdiomijpfaaGreatDoorDatA
import Derived.WalkKit
import Derived.BigCall
import Derived.Lib.AtoiAllCases
set_option linter.unusedSimpArgs false
set_option linter.unusedVariables false
namespace Go.Proofs.YtmlhhdiomijpfaaGreatDoor
open Go Go.Proofs Go.RowKit Go.Shelf Go.Pv Go.Tx
theorem arr1' {a : Array Value} (h : a.size = 1) : ∃ x, a = #[x] := by
 obtain ⟨l⟩ := a
 match l, h with
 | [x], _ => exact ⟨x, rfl⟩
theorem gw_prop {w : World} (h : gw w w.heap.size) {g : Nat} (hg : g ∈ gex) : gprop g w.heap[g]? := (h.2 g hg).2
theorem gw_err {w : World} (h : gw w w.heap.size) {g : Nat} (hg : g ∈ gex) (hp : g ≠ 1 ∧ g ≠ 2) : ∃ v, w.cell? ⟨g, 0, none⟩ = some v ∧ (v = .nilIface ∨ ∃ te pe, v = .iface te pe) := by
 obtain ⟨cs, T, fr, ho, h1⟩ := gw_prop h hg;split at h1
 · exact absurd rfl hp.1
 · exact absurd rfl hp.2
 · obtain ⟨v, hv, hi⟩ := h1;exact ⟨v, (cell_of_heap ho 0).trans hv, hi⟩
theorem gwM {w : World} (h : gw w w.heap.size) : ∃ m, w.cell? ⟨1, 0, none⟩ = some (.int .i64 m) := by
 obtain ⟨cs, T, fr, ho, m, hm⟩ := gw_prop h (g := 1) (by decide);exact ⟨m, (cell_of_heap ho 0).trans hm⟩
theorem splitP (s : ByteArray) (c : UInt8) (hs : s.size < 4294967281) :
   PCalls Tryz.prog 30 [.str s, .str (bs [c])] (.lit false 1 ((cutB c s).map cb)) := by
 refine ⟨.lit _ _ _ fun row hr => ?_, by kernel_rfl, fun w M vs hM hgw hsz hrep => ?_⟩
 · obtain ⟨x, _, rfl⟩ := List.mem_map.1 hr; exact cb_pure x
 obtain ⟨v0, v1, rfl⟩ := arr2' hsz;have h0 := (hrep 0 v0 _ rfl rfl).sc_inv;have h1 := (hrep 1 v1 _ rfl rfl).sc_inv;subst h0; subst h1;obtain ⟨m, hm⟩ := gwM hgw;refine (Tryz.strings_Split s (bs [c]) m w hs hm (Nat.le_refl 1)).mono ?_
 rintro e w' ⟨rfl, rfl⟩
 have hd : (Lib.splitB (bs [c]) 0 (Lib.countB s (bs [c])) s).map (·.data.toList) = cutL c s.data.toList := by
   rw [Lib.splitB_data];exact split_one s.data.toList
 have hrows : cutB c s = Lib.splitB (bs [c]) 0 (Lib.countB s (bs [c])) s := by
   unfold cutB ls;rw [← hd, List.map_map]; exact List.map_id _
 have hlen := Lib.splitB_all (bs [c]) (Nat.le_refl 1) 0 _ s rfl;rw [hrows];generalize Lib.splitB (bs [c]) 0 (Lib.countB s (bs [c])) s = xs at hlen ⊢;refine ⟨_, rfl, ?_, (Below.refl _ w).alloc (Nat.le_refl _) _⟩;have hl : (xs.map cb).length = Lib.countB s (bs [c]) + 1 := by rw [lM, hlen]
 rw [← hl]
 have hh : (w.alloc (.cells (xs.map Value.string).toArray 9)).heap[w.heap.size]? = some (.cells (xs.map Value.string).toArray 9) := by
   show (w.heap.push _)[w.heap.size]? = _;simp
 have hrow : ∀ (i j : Nat) (row : List PV) (p : PV), (xs.map cb)[i]? = some row → row[j]? = some p → ∃ x, xs[i]? = some x ∧ j = 0 ∧ p = .str x := fun i j row p h2 h3 => by
   rw [List.getElem?_map, Option.map_eq_some_iff] at h2;obtain ⟨x, hx, rfl⟩ := h2;rcases j with _ | j
   · simp [cb] at h3; exact ⟨x, hx, rfl, h3.symm⟩
   · simp [cb] at h3
 refine .lit (f := fun i _ => .string (xs.getD i ByteArray.empty)) ⟨fun ⟨k, o, h, _⟩ => by simp [pureEnv] at h, fun _ h => Nat.lt_irrefl _ (hM _ h), (fun h => by cases h), ?_, (fun row hr => ?_), fun i j row p h2 h3 => ?_, (fun row hr p hp => ?_), fun row hr p hp => ?_⟩ (Nat.le_refl _) fun i j row p h2 h3 => ?_
 · show _ < (w.heap.push _).size; simp
 · obtain ⟨x, _, rfl⟩ := List.mem_map.1 hr; rfl
 · obtain ⟨x, hx, rfl, rfl⟩ := hrow i j row p h2 h3;show (w.alloc _).cell? _ = _;rw [cell_of_heap hh];simp [List.getD_eq_getElem?_getD, hx]
 · obtain ⟨x, _, rfl⟩ := List.mem_map.1 hr; exact cb_pure x p hp
 · obtain ⟨x, _, rfl⟩ := List.mem_map.1 hr; simp [cb] at hp; subst hp; rfl
 · obtain ⟨x, hx, rfl, rfl⟩ := hrow i j row p h2 h3;have : xs.getD i ByteArray.empty = x := by simp [List.getD_eq_getElem?_getD, hx]
   show Rep _ (.string (xs.getD i ByteArray.empty)) _;rw [this]; exact .sc rfl
theorem tup_rep {E : Env} {vs : List Value} (h : ∀ v ∈ vs, isScalar v = true) : Rep E (.tuple vs.toArray) (.tup (vs.map .sc)) := by
 refine .tup (by simp) fun i v p h1 h2 => ?_;simp only [List.getElem?_map, Option.map_eq_some_iff] at h2;obtain ⟨u, hu, rfl⟩ := h2;have h3 : vs[i]? = some v := by simpa using h1
 obtain rfl := Option.some.inj (hu.symm.trans h3);exact .sc (h _ (List.mem_of_getElem? hu))
theorem tup_pure {vs : List Value} : Pure (.tup (vs.map .sc)) := .tup _ fun p hp => by obtain ⟨v, _, rfl⟩ := List.mem_map.1 hp; exact .sc _
theorem cutP (s : ByteArray) (c : UInt8) (hs : s.size < 4294967281) :
   PCalls Tryz.prog 31 [.str s, .str (bs [c])] (.tup [.str (bs (Lib.cut s.data.toList [c]).1), .str (bs (Lib.cut s.data.toList [c]).2.1), .bool (Lib.cut s.data.toList [c]).2.2]) := by
 refine ⟨tup_pure (vs := [.string _, .string _, .bool _]), by kernel_rfl, fun w M vs hM hgw hsz hrep => ?_⟩;obtain ⟨v0, v1, rfl⟩ := arr2' hsz;have h0 := (hrep 0 v0 _ rfl rfl).sc_inv;have h1 := (hrep 1 v1 _ rfl rfl).sc_inv;subst h0; subst h1;obtain ⟨m, hm⟩ := gwM hgw;refine (Tryz.strings_Cut s (bs [c]) m w hs hm).mono ?_
 rintro e w' ⟨rfl, n, rfl⟩
 exact ⟨_, rfl, tup_rep (vs := [.string _, .string _, .bool _]) (fun v hv => by simp at hv; rcases hv with rfl | rfl | rfl <;> rfl), ⟨rfl, rfl, rfl, Nat.le_refl _, fun _ _ => rfl⟩⟩
theorem pow10_is : Lib.pow10Tab = x20 := by decide
theorem itoaG (n : Int) (h : -9223372036854775808 ≤ n ∧ n ≤ 9223372036854775807) : PCalls Tryz.prog 26 [.int n] (.str (bs (Lib.itoa n))) := by
 refine ⟨.sc _, by kernel_rfl, fun w M vs hM hgw hsz hrep => ?_⟩;obtain ⟨v0, rfl⟩ := arr1' hsz;have h0 := (hrep 0 v0 _ rfl rfl).sc_inv;subst h0;obtain ⟨cs, T, fr, ho, hc⟩ := gw_prop hgw (g := 2) (by decide)
 have htab : Lib.TabIs Tryz.prog w "internal/strconv.uint64pow10" .u64 Lib.pow10Tab := by
   have hc' : cs = (x20.map fun z => Value.int .u64 z).toArray := hc;unfold Lib.TabIs;rw [pow10_is, ← hc'];unfold World.var?;rw [show Tryz.prog.globalNamed "internal/strconv.uint64pow10" = some 2 by kernel_rfl]
   simp only [Option.bind_some, ho]
 refine (Tryz.strconv_Itoa n h.1 h.2 w htab).mono ?_
 rintro e w' ⟨rfl, k, os, rfl⟩
 exact ⟨_, rfl, .sc rfl, ⟨rfl, rfl, rfl, by show w.heap.size ≤ (w.heap ++ os).size; simp, fun j hj => by show (w.heap ++ os)[j]? = _; rw [Array.getElem?_append_left hj]⟩⟩
theorem atoiW (s : ByteArray) (hs : s.size ≤ 281474976710656) (w : World) (hgw : gw w w.heap.size) : Calls Tryz.prog 64 #[.string s] w fun e w' => ∃ er, e = .returned (.tuple #[.int .i64 (numN s.data.toList), er]) ∧ ((er = .nilIface ∧ ∃ v, Lib.atoiAll s.data.toList = .ok v) ∨ ((∃ te pe, er = .iface te pe) ∧ ∀ v, Lib.atoiAll s.data.toList ≠ .ok v)) ∧ Below w.heap.size w w' := by
 cases hc : Lib.atoiAll s.data.toList with
 | ok v =>
   refine (Tryz.strconv_Atoi_ok s (by omega) v hc w).mono ?_
   rintro e w' ⟨rfl, h⟩
   refine ⟨_, by unfold numN; rw [hc], .inl ⟨rfl, v, rfl⟩, ?_⟩;rcases h with rfl | ⟨t, rfl⟩
   · exact Below.refl _ _
   · exact Lib.bytesWorld_below _ _ _
 | range =>
   obtain ⟨v, hv, hi⟩ := gw_err hgw (g := 4) (by decide) (by decide);refine (Tryz.strconv_Atoi_range s hs hc v w hv hi).mono ?_
   rintro e w' ⟨N, rfl, _, _, hb⟩
   exact ⟨_, by unfold numN; rw [hc], .inr ⟨⟨_, _, rfl⟩, fun v h => by cases h⟩, hb⟩
 | _ =>
   have h1 : ∀ v, Lib.atoiAll s.data.toList ≠ .ok v := fun v h => by rw [hc] at h; cases h
   have h2 : Lib.atoiAll s.data.toList ≠ .range := fun h => by rw [hc] at h; cases h
   obtain ⟨v, hv, hi⟩ := gw_err hgw (g := 3) (by decide) (by decide);refine (Tryz.strconv_Atoi_bad s hs h1 h2 v w hv hi).mono ?_
   rintro e w' ⟨N, rfl, _, _, hb⟩
   exact ⟨_, by unfold numN; rw [hc], .inr ⟨⟨_, _, rfl⟩, fun v h => by cases h⟩, hb⟩
end Go.Proofs.YtmlhhdiomijpfaaGreatDoor

set_option linter.unusedSimpArgs false
set_option linter.unusedVariables false
set_option maxRecDepth 100000
namespace Go.Proofs.YtmlhhdiomijpfaaGreatDoor
open Go Go.Proofs Go.RowKit Go.Shelf Go.Pv Go.Tx
theorem below_gw {w w' : World} (h : gw w w.heap.size) (hb : Below w.heap.size w w') : gw w' w'.heap.size := gw_keep h hb.size fun b hb' => hb.block b hb'
theorem atoiY (s : ByteArray) (hs : s.size ≤ 281474976710656) {v : Int} (hv : Lib.atoiAll (ls s) = .ok v) (w : World) (hgw : gw w w.heap.size) : Calls Tryz.prog 64 #[.string s] w fun e w' => e = .returned (.tuple #[.int .i64 v, .nilIface]) ∧ Below w.heap.size w w' :=
 (atoiW s hs w hgw).mono fun e w' ⟨er, h1, h2, h3⟩ => by
   have hN : numN s.data.toList = v := by unfold numN; unfold ls at hv; rw [hv]
   rcases h2 with ⟨rfl, _⟩ | ⟨_, hno⟩
   · rw [hN] at h1; exact ⟨h1, h3⟩
   · exact absurd hv (hno v)
theorem atoiN (s : ByteArray) (hs : s.size ≤ 281474976710656) (hv : ∀ v, Lib.atoiAll (ls s) ≠ .ok v) (w : World) (hgw : gw w w.heap.size) : Calls Tryz.prog 64 #[.string s] w fun e w' => ∃ te pe, e = .returned (.tuple #[.int .i64 (numN (ls s)), .iface te pe]) ∧ Below w.heap.size w w' :=
 (atoiW s hs w hgw).mono fun e w' ⟨er, h1, h2, h3⟩ => by
   rcases h2 with ⟨_, v, h⟩ | ⟨⟨te, pe, rfl⟩, _⟩
   · exact absurd h (hv v)
   · exact ⟨te, pe, h1, h3⟩
end Go.Proofs.YtmlhhdiomijpfaaGreatDoor

set_option linter.unusedSimpArgs false
set_option linter.unusedVariables false
namespace Go.Tx
open Go Go.Lib
theorem dd_lt {v : Nat} (h : v < 10) : decDigits v = [UInt8.ofNat (48 + v)] := by rw [decDigits, dif_pos h]
theorem dd_ge {v : Nat} (h : ¬ v < 10) : decDigits v = decDigits (v / 10) ++ [UInt8.ofNat (48 + v % 10)] := by rw [decDigits, dif_neg h]
theorem dig_nat {d : Nat} (h : d < 10) : (UInt8.ofNat (48 + d)).toNat = 48 + d := by
 rw [UInt8.toNat_ofNat']; omega
theorem dd_chars : ∀ (k v : Nat), v < 10 ^ (k + 1) → ∀ b ∈ decDigits v, 48 ≤ b.toNat ∧ b.toNat ≤ 57
 | 0, v, h, b, hb => by
   rw [dd_lt (by omega)] at hb;simp only [List.mem_singleton] at hb; subst hb;rw [dig_nat (by omega)]; omega
 | k + 1, v, h, b, hb => by
   by_cases h1 : v < 10
   · rw [dd_lt h1] at hb;simp only [List.mem_singleton] at hb; subst hb;rw [dig_nat h1]; omega
   · rw [dd_ge h1, List.mem_append, List.mem_singleton] at hb;rcases hb with hb | rfl
     · exact dd_chars k (v / 10) (by rw [Nat.pow_succ] at h; omega) b hb
     · rw [dig_nat (Nat.mod_lt _ (by decide))]; omega
theorem dd_ne (v : Nat) : decDigits v ≠ [] := by
 by_cases h : v < 10
 · rw [dd_lt h]; simp
 · rw [dd_ge h]; simp
theorem dd_len : ∀ (k v : Nat), v < 10 ^ (k + 1) → (decDigits v).length ≤ k + 1
 | 0, v, h => by rw [dd_lt (by omega)]; exact Nat.le_refl _
 | k + 1, v, h => by
   by_cases h1 : v < 10
   · rw [dd_lt h1]; simp
   · rw [dd_ge h1, List.length_append];have := dd_len k (v / 10) (by rw [Nat.pow_succ] at h; omega);simp only [List.length_cons, List.length_nil]; omega
theorem dd_long : ∀ (k v : Nat), (decDigits v).length ≤ k + 1 → v < 10 ^ (k + 1)
 | 0, v, h => by
   by_cases h1 : v < 10
   · omega
   · rw [dd_ge h1, List.length_append] at h;have := List.length_pos_iff.2 (dd_ne (v / 10));simp only [List.length_cons, List.length_nil] at h; omega
 | k + 1, v, h => by
   by_cases h1 : v < 10
   · have : 10 ^ 1 ≤ 10 ^ (k + 1 + 1) := Nat.pow_le_pow_right (by decide) (by omega);omega
   · rw [dd_ge h1, List.length_append] at h;have := dd_long k (v / 10) (by simp only [List.length_cons, List.length_nil] at h; omega);rw [Nat.pow_succ]; omega
theorem digV_snoc : ∀ (l : List UInt8) (acc n : Int) (d : Nat), d < 10 → digV acc l = some n → digV acc (l ++ [UInt8.ofNat (48 + d)]) = some (10 * n + d)
 | [], acc, n, d, hd, h => by
   unfold digV at h; injection h with h; subst h;rw [List.nil_append, digV, dig_nat hd, if_pos (by omega)];unfold digV; congr 1; omega
 | b :: l, acc, n, d, hd, h => by
   unfold digV at h;split at h
   · rename_i hb;rw [List.cons_append, digV, if_pos hb]; exact digV_snoc l _ n d hd h
   · cases h
theorem digV_dd : ∀ (k v : Nat), v < 10 ^ (k + 1) → digV 0 (decDigits v) = some (v : Int)
 | 0, v, h => by
   rw [dd_lt (by omega)];have := digV_snoc [] 0 0 v (by omega) rfl;simpa using this
 | k + 1, v, h => by
   by_cases h1 : v < 10
   · rw [dd_lt h1];have := digV_snoc [] 0 0 v h1 rfl;simpa using this
   · rw [dd_ge h1, digV_snoc _ _ _ _ (Nat.mod_lt _ (by decide)) (digV_dd k (v / 10) (by rw [Nat.pow_succ] at h; omega))];congr 1; omega
theorem dd_neg {k v : Nat} (h : v < 10 ^ (k + 1)) : isNeg (decDigits v) = false := by
 unfold isNeg;rw [decide_eq_false_iff_not];intro q;have hm : (45 : UInt8) ∈ decDigits v := List.mem_of_mem_head? (by rw [q]; rfl);have := (dd_chars k v h 45 hm).1;exact absurd this (by decide)
theorem itoa_nat (v : Nat) : itoa (v : Int) = decDigits v := by
 unfold itoa; rw [if_neg (by omega), Int.toNat_natCast]
theorem ref7_yes {v : Nat} (h : v < 10 ^ 7) : refNum 7 (decDigits v) = ((v : Int), true) := by
 have h2 := dd_neg (k := 6) h;have h3 : magL (decDigits v) = decDigits v := by unfold magL; rw [h2]; rfl
 have h4 := dd_len 6 v h;have h5 := List.length_pos_iff.2 (dd_ne v);unfold refNum;rw [h3, if_neg (by omega), digV_dd 6 v h, h2];simp only [Bool.false_eq_true, if_false];rw [itoa_nat, decide_eq_true rfl]
theorem ref7_one : refNum 7 [45, 49] = (-1, true) := by decide +kernel
theorem ref7_no {w : List UInt8} (h : (refNum 7 w).2 = true) : (∃ v : Nat, v < 10 ^ 7 ∧ w = decDigits v ∧ (refNum 7 w).1 = (v : Int)) ∨ (w = [45, 49] ∧ (refNum 7 w).1 = -1) ∨ ((refNum 7 w).1 < -1 ∧ isNeg w = true ∧ w ≠ [45, 49]) := by
 have h9 := h;unfold refNum at h;split at h
 · cases h
 · rename_i hl;split at h
   · cases h
   · rename_i n hn;have hb := digV_bnd _ _ _ (Int.le_refl _) hn;have hi : itoa (if isNeg w = true then 0 - n else n) = w := by simpa using h
     have hv : (refNum 7 w).1 = (if isNeg w = true then 0 - n else n) := by
       unfold refNum; rw [if_neg hl, hn]
     cases hg : isNeg w with
     | false =>
       rw [hg] at hi hv;simp only [Bool.false_eq_true, if_false] at hi hv;left;have e1 : n = (n.toNat : Int) := by omega
       rw [e1, itoa_nat] at hi;have hm : magL w = w := by unfold magL; rw [hg]; rfl
       rw [hm] at hl;refine ⟨n.toNat, dd_long 6 _ (by rw [hi]; omega), hi.symm, by rw [hv]; exact e1⟩
     | true =>
       rw [hg] at hi hv;simp only [if_true] at hi hv;right;by_cases h1 : n = 1
       · subst h1;left;refine ⟨?_, by rw [hv]; rfl⟩;rw [← hi]; decide +kernel
       · right;refine ⟨?_, rfl, fun e => ?_⟩
         · rw [hv];by_cases h0 : n = 0
           · subst h0;rw [show (0 : Int) - 0 = ((0 : Nat) : Int) by rfl, itoa_nat] at hi;rw [← hi, dd_neg (k := 0) (by decide)] at hg; cases hg
           · omega
         · rw [e] at hv;rw [ref7_one] at hv;simp only at hv; omega
theorem digV_ge : ∀ (l : List UInt8) (acc n : Int), 0 ≤ acc → digV acc l = some n → acc ≤ n
 | [], acc, n, h, e => by unfold digV at e; injection e with e; omega
 | b :: l, acc, n, h, e => by
   unfold digV at e;split at e
   · have := digV_ge l _ n (by omega) e; omega
   · cases e
theorem pu_digV : ∀ (l : List UInt8) (acc n : Nat), digV (acc : Int) l = some (n : Int) → n < 10 ^ 18 → parseUint10 acc l = .ok n
 | [], acc, n, e, h => by
   unfold digV at e; injection e with e;unfold parseUint10; congr 1; omega
 | b :: l, acc, n, e, h => by
   unfold digV at e;split at e
   · rename_i hb;have hg := digV_ge l _ _ (by omega) e;unfold parseUint10;rw [if_pos hb, if_neg (by omega), if_neg (by omega)];refine pu_digV l _ n ?_ h;rw [← e]; congr 1; omega
   · cases e
theorem atoi_dd {v : Nat} (h : v < 10 ^ 7) : atoiAll (decDigits v) = .ok (v : Int) := by
 have hp : parseUint10 0 (decDigits v) = .ok v := pu_digV _ 0 v (digV_dd 6 v h) (by omega);have hc := dd_chars 6 v h;cases hd : decDigits v with
 | nil => exact absurd hd (dd_ne v)
 | cons c r =>
   rw [hd] at hp hc;have h1 := hc c (List.mem_cons_self ..);rw [atoiAll_plain c r (by omega) (by omega)];unfold parseMag;rw [if_neg (by simp), hp];unfold signless;simp only;rw [if_neg (by omega)]
def numB7 (w : List UInt8) : Bool := match atoiAll w with
 | .ok v => decide (w.length ≤ 7) && (decide (0 ≤ v) && decide (itoa v = w))
 | _ => false
theorem num7_yes {v : Nat} (h : v < 10 ^ 7) : numB7 (decDigits v) = true ∧ numN (decDigits v) = (v : Int) := by
 unfold numB7 numN;rw [atoi_dd h];simp only [itoa_nat, decide_true, Bool.and_true, Bool.and_eq_true, decide_eq_true_eq, and_true];exact ⟨dd_len 6 v h, by omega⟩
theorem num7_no {w : List UInt8} (h : numB7 w = true) : ∃ v : Nat, v < 10 ^ 7 ∧ w = decDigits v ∧ numN w = (v : Int) := by
 unfold numB7 at h;split at h
 · rename_i v hv;simp only [Bool.and_eq_true, decide_eq_true_eq] at h;obtain ⟨h1, h2, h3⟩ := h;have e1 : v = (v.toNat : Int) := by omega
   rw [e1, itoa_nat] at h3;refine ⟨v.toNat, dd_long 6 _ (by rw [h3]; exact h1), h3.symm, ?_⟩;unfold numN; rw [hv]; exact e1
 · cases h
end Go.Tx

set_option linter.unusedSimpArgs false
set_option linter.unusedVariables false
set_option maxRecDepth 100000
namespace Go.Proofs.YtmlhhdiomijpfaaGreatDoor
open Go Go.Proofs Go.RowKit Go.Shelf Go.Pv Go.Tx
theorem itoaWG (n : Int) (h : -9223372036854775808 ≤ n ∧ n ≤ 9223372036854775807) (w : World) (hgw : gw w w.heap.size) : Calls Tryz.prog 26 #[.int .i64 n] w fun e w' => e = .returned (.string (bs (Lib.itoa n))) ∧ Below w.heap.size w w' := by
 refine ((itoaG n h).2.2 w (fun _ => False) _ (fun _ h => h.elim) hgw rfl fun i u p h1 h2 => ?_).mono ?_
 · match i with
   | 0 => cases h1; cases h2; exact .sc rfl
   | i + 1 => cases h2
 · rintro e w' ⟨u, rfl, hr, hb⟩
   rw [hr.sc_inv]; exact ⟨rfl, hb⟩
theorem number7C (s : ByteArray) (hs : s.size ≤ 1000000) : PCalls Tryz.prog 79 [.str s] (.tup [.int (numN (ls s)), .bool (numB7 (ls s))]) := by
 refine ⟨tup_pure (vs := [.int .i64 _, .bool _]), by kernel_rfl, fun w M vs hM hgw hsz hrep => ?_⟩;obtain ⟨v0, rfl⟩ := arr1' hsz;have h0 := (hrep 0 v0 _ rfl rfl).sc_inv;subst h0
 suffices key : Calls Tryz.prog 79 #[.string s] w fun e w' => e = .returned (.tuple #[.int .i64 (numN (ls s)), .bool (numB7 (ls s))]) ∧ Below w.heap.size w w' from
   key.mono fun e w' ⟨h1, h2⟩ => ⟨_, h1, tup_rep (vs := [.int .i64 _, .bool _]) (fun v hv => by simp at hv; rcases hv with rfl | rfl <;> rfl), h2⟩
 clear hrep hsz;have hsl : (ls s).length = s.size := ls_len s;by_cases hok : ∃ v, Lib.atoiAll (ls s) = .ok v
 · obtain ⟨v, hv⟩ := hok;have hN : numN (ls s) = v := by unfold numN; rw [hv]
   rw [hN];by_cases hz : s.size ≤ 7
   · have hz1 : decide ((s.size : Int) ≤ 7) = true := decide_eq_true (by omega);by_cases hp : 0 ≤ v
     · have hp1 : decide (0 ≤ v) = true := decide_eq_true hp
       have hB : numB7 (ls s) = decide (bs (Lib.itoa v) = s) := by
         unfold numB7; rw [hv];have e1 : decide ((ls s).length ≤ 7) = true := decide_eq_true (by omega);simp only [e1, hp1, Bool.true_and];rw [Bool.eq_iff_iff, decide_eq_true_eq, decide_eq_true_eq];exact ⟨fun h => by rw [h]; rfl, fun h => by rw [← h]; rfl⟩
       rw [hB];have hvb := Lib.atoiAll_bounds hv
       go_enter Tryz.func79, Tryz.ntmps79
       go_wp2_with (go_at_call 64; refine (atoiY s (by omega) hv _ hgw).mono ?_)
       rintro e W1 ⟨rfl, hb1⟩
       have hgw1 := below_gw hgw hb1
       go_wp2_with (go_at_call 26; refine (itoaWG v (by omega) _ hgw1).mono ?_)
       rintro e W3 ⟨rfl, hb3⟩
       go_wp2
       go_ret2
       refine ⟨?_, hb1.trans (hb3.mono hb1.size)⟩;rw [bytes_beq]; rfl
     · have hB : numB7 (ls s) = false := by
         unfold numB7; rw [hv]; simp only [decide_eq_false hp, Bool.false_and, Bool.and_false]
       rw [hB];have hp2 : v < 0 := by omega
       have hp3 : ¬ v ≥ 0 := hp
       go_enter Tryz.func79, Tryz.ntmps79
       go_wp2_with (go_at_call 64; refine (atoiY s (by omega) hv _ hgw).mono ?_)
       rintro e W1 ⟨rfl, hb1⟩
       go_wp2
       intro hb1
       go_wp2
       go_ret2
       exact ⟨rfl, hb1⟩
   · have hB : numB7 (ls s) = false := by
       unfold numB7; rw [hv];have e1 : decide ((ls s).length ≤ 7) = false := decide_eq_false (by omega);simp only [e1, Bool.false_and]
     rw [hB]
     go_enter Tryz.func79, Tryz.ntmps79
     go_wp2_with (go_at_call 64; refine (atoiY s (by omega) hv _ hgw).mono ?_)
     rintro e W1 ⟨rfl, hb1⟩
     go_wp2
     go_ret2
     exact ⟨rfl, hb1⟩
 · have hno : ∀ v, Lib.atoiAll (ls s) ≠ .ok v := fun v h => hok ⟨v, h⟩
   have hB : numB7 (ls s) = false := by
     unfold numB7;split
     · rename_i v hv; exact absurd hv (hno v)
     · rfl
   rw [hB]
   go_enter Tryz.func79, Tryz.ntmps79
   go_wp2_with (go_at_call 64; refine (atoiN s (by omega) hno _ hgw).mono ?_)
   rintro e W1 ⟨te, pe, rfl, hb1⟩
   go_wp2
   go_ret2
   exact ⟨rfl, hb1⟩
end Go.Proofs.YtmlhhdiomijpfaaGreatDoor

set_option linter.unusedSimpArgs false
set_option linter.unusedVariables false
namespace Go.Proofs.YtmlhhdiomijpfaaGreatDoor
open Go Go.Pv Go.Tx
def val7 (f : Bool) (w : List UInt8) : Option Int := if numB7 w = true then some (numN w) else if f = true ∧ w = [45, 49] then some (-1) else none
def vals7 : Bool → List (List UInt8) → Option (List Int)
 | _, [] => some []
 | f, w :: ws => match val7 f w, vals7 false ws with
   | some v, some vs => some (v :: vs)
   | _, _ => none
theorem vals7_snoc : ∀ (a : List (List UInt8)) (f : Bool) (w : List UInt8) (vs : List Int) (v : Int), vals7 f a = some vs → val7 (f && a.isEmpty) w = some v → vals7 f (a ++ [w]) = some (vs ++ [v])
 | [], f, w, vs, v, h, h2 => by
   unfold vals7 at h; injection h with h; subst h;simp only [List.isEmpty_nil, Bool.and_true] at h2;show (match val7 f w, vals7 false [] with | some v, some vs => some (v :: vs) | _, _ => none) = _;rw [h2]; rfl
 | x :: a, f, w, vs, v, h, h2 => by
   unfold vals7 at h;split at h
   · rename_i u us h3 h4;injection h with h; subst h;rw [List.cons_append];unfold vals7;rw [h3, vals7_snoc a false w us v h4 (by simpa using h2)]; rfl
   · cases h
theorem vals7_badF : ∀ (ws : List (List UInt8)) (w : List UInt8), w ∈ ws → val7 false w = none → ∀ f, (∀ r, ws ≠ w :: r) ∨ f = false → vals7 f ws = none
 | [], w, h, _, _, _ => absurd h List.not_mem_nil
 | x :: ws, w, h, h2, f, hf => by
   unfold vals7;rcases List.mem_cons.1 h with rfl | h
   · rcases hf with hf | rfl
     · exact absurd rfl (hf ws)
     · rw [h2]
   · rw [vals7_badF ws w h h2 false (.inr rfl)];split
     · rename_i h5 h6; cases h6
     · rfl
theorem vals7_bad {ws : List (List UInt8)} {w : List UInt8} {i : Nat} (hx : ws[i]? = some w) (h : val7 (decide (i = 0)) w = none) : vals7 true ws = none := by
 match i, ws, hx with
 | 0, x :: ws, hx =>
   simp only [List.getElem?_cons_zero, Option.some.injEq] at hx; subst hx;unfold vals7;simp only [decide_true] at h;rw [h]
 | i + 1, x :: ws, hx =>
   rw [List.getElem?_cons_succ] at hx;have h1 : val7 false w = none := by simpa using h
   unfold vals7;rw [vals7_badF ws w (List.mem_of_getElem? hx) h1 false (.inr rfl)];split
   · rename_i h5 h6; cases h6
   · rfl
theorem vals7_len : ∀ {ws : List (List UInt8)} {f : Bool} {vs : List Int}, vals7 f ws = some vs → vs.length = ws.length
 | [], f, vs, h => by unfold vals7 at h; injection h with h; subst h; rfl
 | w :: ws, f, vs, h => by
   unfold vals7 at h;split at h
   · rename_i v us _ h2;injection h with h; subst h;rw [List.length_cons, List.length_cons, vals7_len h2]
   · cases h
def mkT (nm tr : ByteArray) (vs : List Int) : Task := ⟨nm, tr, vs.getD 0 (-1), vs.getD 1 0, vs.getD 2 0, vs.drop 3⟩
def zT : Task := ⟨⟨#[]⟩, ⟨#[]⟩, 0, 0, 0, []⟩
def wds (x : ByteArray) : List (List UInt8) := ((cutB 32 x).drop 2).map ls
def taskP (x : ByteArray) : Option Task := if (cutB 32 x).length < 5 then none else match vals7 true (wds x) with
 | some vs => some (mkT ((cutB 32 x).getD 0 default) ((cutB 32 x).getD 1 default) vs)
 | none => none
def tskR (x : ByteArray) : Task × Bool := match taskP x with
 | some t => (t, true)
 | none => (zT, false)
theorem tsk_no {x : ByteArray} (h : taskP x = none) : tskR x = (zT, false) := by unfold tskR; rw [h]
theorem tsk_yes {x : ByteArray} {t : Task} (h : taskP x = some t) : tskR x = (t, true) := by unfold tskR; rw [h]
theorem tsk_few {x : ByteArray} (h : (cutB 32 x).length < 5) : taskP x = none := by unfold taskP; rw [if_pos h]
theorem tsk_bad {x : ByteArray} (h : vals7 true (wds x) = none) : taskP x = none := by
 unfold taskP; split
 · rfl
 · rw [h]
theorem tsk_ok {x : ByteArray} {vs : List Int} (h1 : ¬ (cutB 32 x).length < 5) (h : vals7 true (wds x) = some vs) : taskP x = some (mkT ((cutB 32 x).getD 0 default) ((cutB 32 x).getD 1 default) vs) := by
 unfold taskP; rw [if_neg h1, h]
def ValTo (x : ByteArray) (i : Nat) (vs : List Int) : Prop := vals7 true ((wds x).take i) = some vs ∧ vs.length = i
theorem ValTo.start {x : ByteArray} : ValTo x 0 [] := ⟨rfl, rfl⟩
theorem wds_get {x w : ByteArray} {i : Nat} (hx : (cutB 32 x)[i + 2]? = some w) : (wds x)[i]? = some (ls w) := by
 unfold wds;rw [List.getElem?_map, List.getElem?_drop, Nat.add_comm 2 i, hx]; rfl
theorem ValTo.next {x w : ByteArray} {i : Nat} {vs : List Int} {v : Int} (h : ValTo x i vs) (hx : (cutB 32 x)[i + 2]? = some w) (hv : val7 (decide (i = 0)) (ls w) = some v) : ValTo x (i + 1) (vs ++ [v]) := by
 obtain ⟨h1, h2⟩ := h;have hw := wds_get hx;refine ⟨?_, by simp [h2]⟩;rw [List.take_add_one, hw];refine vals7_snoc _ true (ls w) vs v h1 ?_;rw [← hv]; congr 1;have hl : i < (wds x).length := (List.getElem?_eq_some_iff.1 hw).1;cases i with
 | zero => rfl
 | succ n =>
   have : ((wds x).take (n + 1)).isEmpty = false := by
     cases hq : wds x with
     | nil => rw [hq] at hl; simp at hl
     | cons a r => rfl
   rw [this]; simp
theorem ValTo.bad {x w : ByteArray} {i : Nat} (hx : (cutB 32 x)[i + 2]? = some w) (hv : val7 (decide (i = 0)) (ls w) = none) : taskP x = none := tsk_bad (vals7_bad (wds_get hx) hv)
theorem wds_len (x : ByteArray) : (wds x).length = (cutB 32 x).length - 2 := by unfold wds; rw [lM, List.length_drop]
theorem ValTo.done {x : ByteArray} {i : Nat} {vs : List Int} (h : ValTo x i vs) (h1 : ¬ (cutB 32 x).length < 5) (hi : (cutB 32 x).length ≤ i + 2) : taskP x = some (mkT ((cutB 32 x).getD 0 default) ((cutB 32 x).getD 1 default) vs) := by
 refine tsk_ok h1 ?_;have := h.1
 rwa [List.take_of_length_le (by rw [wds_len]; omega)] at this
def parT : List ByteArray → Nat → Except Nat (List Task)
 | [], _ => .ok []
 | [x], k => if x = ⟨#[]⟩ then .ok [] else .error (k + 1)
 | x :: y :: r, k => match taskP x with
   | none => .error (k + 1)
   | some t => match parT (y :: r) (k + 1) with
     | .error n => .error n
     | .ok ts => .ok (t :: ts)
def appT (ts : List Task) : Except Nat (List Task) → Except Nat (List Task)
 | .error n => .error n
 | .ok us => .ok (ts ++ us)
theorem appT_snoc (ts : List Task) (t : Task) (e : Except Nat (List Task)) : appT (ts ++ [t]) e = appT ts (match e with | .error n => .error n | .ok us => .ok (t :: us)) := by
 cases e with
 | error n => rfl
 | ok us => simp [appT]
def PT (s r : ByteArray) (k : Nat) (ts : List Task) : Prop := parT (cutB 10 s) 0 = appT ts (parT (cutB 10 r) k)
theorem PT.start {s : ByteArray} : PT s s 0 [] := by
 unfold PT;cases parT (cutB 10 s) 0 with
 | error n => rfl
 | ok us => rfl
theorem cutB_nil : cutB 10 ⟨#[]⟩ = [⟨#[]⟩] := rfl
theorem PT.done {s : ByteArray} {k : Nat} {ts : List Task} (h : PT s ⟨#[]⟩ k ts) : parT (cutB 10 s) 0 = .ok ts := by
 unfold PT at h;rw [h, cutB_nil];unfold parT; rw [if_pos rfl]; simp [appT]
def cut1 (x : ByteArray) : ByteArray := bs (Lib.cut (ls x) [10]).1
def cut2 (x : ByteArray) : ByteArray := bs (Lib.cut (ls x) [10]).2.1
def cut3 (x : ByteArray) : Bool := (Lib.cut (ls x) [10]).2.2
theorem cut_cases (r : ByteArray) : (cut3 r = true ∧ cutB 10 r = cut1 r :: cutB 10 (cut2 r) ∧ (cut1 r).size + (cut2 r).size < r.size) ∨ (cut3 r = false ∧ cutB 10 r = [r] ∧ cut1 r = r) := by
 unfold cut1 cut2 cut3;by_cases h : (10 : UInt8) ∈ ls r
 · left;obtain ⟨p, q, hp, e⟩ := mem_cut h;have hz : r.size = p.length + 1 + q.length := by rw [← ls_len, e, List.length_append, List.length_cons]; omega
   rw [e, cut_hit hp];refine ⟨rfl, ?_, ?_⟩
   · unfold cutB;rw [e, cutL_app hp]; rfl
   · rw [bs_size, bs_size, hz]; show p.length + q.length < _; omega
 · right;rw [cut_miss h];refine ⟨rfl, ?_, rfl⟩;unfold cutB;rw [cutL_none h]; rfl
theorem cutB_ne (c : UInt8) (s : ByteArray) : cutB c s ≠ [] := by
 unfold cutB; intro h;exact cutL_ne _ (List.map_eq_nil_iff.1 h)
theorem PT.next {s r : ByteArray} {k : Nat} {ts : List Task} {t : Task} (h : PT s r k ts) (hc : cut3 r = true) (ht : taskP (cut1 r) = some t) : PT s (cut2 r) (k + 1) (ts ++ [t]) := by
 unfold PT at h ⊢;rcases cut_cases r with ⟨_, e, _⟩ | ⟨e, _⟩
 · rw [h, e, appT_snoc];cases hq : cutB 10 (cut2 r) with
   | nil => exact absurd hq (cutB_ne _ _)
   | cons y q => rw [parT, ht]
 · rw [e] at hc; cases hc
theorem PT.bad {s r : ByteArray} {k : Nat} {ts : List Task} (h : PT s r k ts) (hr : r ≠ ⟨#[]⟩) (hc : cut3 r = false ∨ taskP (cut1 r) = none) : parT (cutB 10 s) 0 = .error (k + 1) := by
 unfold PT at h;rw [h];rcases cut_cases r with ⟨e1, e, _⟩ | ⟨_, e, _⟩
 · rcases hc with hc | hc
   · rw [e1] at hc; cases hc
   · rw [e];cases hq : cutB 10 (cut2 r) with
     | nil => exact absurd hq (cutB_ne _ _)
     | cons y q => rw [parT, hc]; rfl
 · rw [e, parT, if_neg hr]; rfl
def PL (l : List ByteArray) (i : Nat) (ts : List Task) : Prop := parT l 0 = appT ts (parT (l.drop i) i)
theorem PL.start {l : List ByteArray} : PL l 0 [] := by
 unfold PL;rw [List.drop_zero];cases parT l 0 with
 | error n => rfl
 | ok us => rfl
theorem drop_two {l : List ByteArray} {i : Nat} {x : ByteArray} (hx : l[i]? = some x) (hl : i + 1 < l.length) : ∃ y r, l.drop i = x :: y :: r ∧ l.drop (i + 1) = y :: r := by
 obtain ⟨h1, h2⟩ := List.getElem?_eq_some_iff.1 hx;have h3 := List.drop_eq_getElem_cons h1;have h4 := List.drop_eq_getElem_cons hl;exact ⟨_, _, by rw [h3, h2, h4], h4⟩
theorem drop_one {l : List ByteArray} {i : Nat} {x : ByteArray} (hx : l[i]? = some x) (hl : l.length = i + 1) : l.drop i = [x] := by
 obtain ⟨h1, h2⟩ := List.getElem?_eq_some_iff.1 hx;rw [List.drop_eq_getElem_cons h1, h2, List.drop_eq_nil_of_le (by omega)]
theorem PL.next {l : List ByteArray} {i : Nat} {ts : List Task} {x : ByteArray} {t : Task} (h : PL l i ts) (hx : l[i]? = some x) (hl : i + 1 < l.length) (ht : taskP x = some t) : PL l (i + 1) (ts ++ [t]) := by
 unfold PL at h ⊢;obtain ⟨y, r, e1, e2⟩ := drop_two hx hl;rw [h, e1, e2, appT_snoc, parT, ht]
theorem PL.bad {l : List ByteArray} {i : Nat} {ts : List Task} {x : ByteArray} (h : PL l i ts) (hx : l[i]? = some x) (hl : i + 1 < l.length) (ht : taskP x = none) : parT l 0 = .error (i + 1) := by
 unfold PL at h;obtain ⟨y, r, e1, e2⟩ := drop_two hx hl;rw [h, e1, parT, ht]; rfl
theorem PL.last {l : List ByteArray} {i : Nat} {ts : List Task} {x : ByteArray} (h : PL l i ts) (hx : l[i]? = some x) (hl : l.length = i + 1) (hne : x ≠ ⟨#[]⟩) : parT l 0 = .error (i + 1) := by
 unfold PL at h;rw [h, drop_one hx hl, parT, if_neg hne]; rfl
theorem PL.end_ {l : List ByteArray} {i : Nat} {ts : List Task} {x : ByteArray} (h : PL l i ts) (hx : l[i]? = some x) (hl : l.length = i + 1) (hne : x = ⟨#[]⟩) : parT l 0 = .ok ts := by
 unfold PL at h;rw [h, drop_one hx hl, parT, if_pos hne]; simp [appT]
theorem PL.over {l : List ByteArray} {i : Nat} {ts : List Task} (h : PL l i ts) (hl : l.length ≤ i) : parT l 0 = .ok ts := by
 unfold PL at h;rw [h, List.drop_eq_nil_of_le hl, parT]; simp [appT]
end Go.Proofs.YtmlhhdiomijpfaaGreatDoor
