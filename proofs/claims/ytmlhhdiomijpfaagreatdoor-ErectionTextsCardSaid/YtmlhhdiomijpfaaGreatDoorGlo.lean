import Derived.Test.YtmlhhdiomijpfaaGreatDoorRows
import Derived.Test.YtmlhhdiomijpfaaGreatDoorDatA
import Derived.LaidMore
import Derived.OpenShut
import Derived.Stop.Joined
import Derived.Lay
import Derived.LaidLaws
import Derived.Shelf.Vars
import Derived.HandedFrom
import Derived.SizedLaws
import Derived.Test.YtmlhhdiomijpfaaGreatDoorPvGe
set_option linter.unusedSimpArgs false
set_option linter.unusedVariables false
set_option maxRecDepth 100000
namespace Go.Proofs.YtmlhhdiomijpfaaGreatDoor
open Go Go.Proofs Go.Pv Go.RowKit
theorem gEnv_full (w : World) : (gEnv w w.heap.size).w = w := by
 show { w with heap := w.heap.extract 0 w.heap.size } = w;rw [Array.extract_size]
theorem garr_rep {E : Env} {g : Nat} {k : IntKind} {xs : List Int} (hown : ∀ b, ¬ E.own b) (htt : E.tt = true) (h0 : 0 < xs.length)
   (hc : ∀ j, j < xs.length → E.w.cell? ⟨g, j, none⟩ = some (.int k (xs.getD j 0))) : Rep E (.pointer (some ⟨g, 0, none⟩)) (.lptr true xs.length [xs.map fun n : Int => .sc (.int k n)] 0 0) := by
 have hone : ∀ (i j : Nat) (row : List PV) (p : PV), ([xs.map fun n : Int => PV.sc (.int k n)] : List (List PV))[i]? = some row → row[j]? = some p → i = 0 ∧ j < xs.length ∧ p = .sc (.int k (xs.getD j 0)) := fun i j row p h2 h3 => by
   match i with
   | 0 =>
     simp only [List.getElem?_cons_zero, Option.some.injEq] at h2;subst h2;rw [List.getElem?_map, Option.map_eq_some_iff] at h3;obtain ⟨n, hn, rfl⟩ := h3;have hj : j < xs.length := (List.getElem?_eq_some_iff.1 hn).1;exact ⟨rfl, hj, by rw [List.getD_eq_getElem?_getD, hn]; rfl⟩
   | i + 1 => simp at h2
 have := Rep.lptr (E := E) (b := g) (off := 0) (t := true) (sz := xs.length) (rows := [xs.map fun n : Int => PV.sc (.int k n)]) (f := fun _ j => .int k (xs.getD j 0)) 0 0
   ⟨hown g, (fun h => by cases h), (fun _ => htt), cell_lt (hc 0 h0), (fun row hr => by simp only [List.mem_singleton] at hr; subst hr; rw [lM]), (fun i j row p h2 h3 => by
     obtain ⟨rfl, hj, _⟩ := hone i j row p h2 h3
     rw [Nat.zero_mul, Nat.zero_add]; exact hc j hj), (fun row hr p hp => by
       simp only [List.mem_singleton] at hr; subst hr;obtain ⟨n, _, rfl⟩ := List.mem_map.1 hp; exact .sc _),
     (fun row hr p hp => by
       simp only [List.mem_singleton] at hr; subst hr;obtain ⟨n, _, rfl⟩ := List.mem_map.1 hp; rfl)⟩ (fun i j row p h2 h3 => by
     obtain ⟨_, _, rfl⟩ := hone i j row p h2 h3; exact .sc rfl)
 simpa using this
theorem arr_cells {P : Program} {w : World} {t e : TypeId} {k : IntKind} {n fuel : Nat} {cs : List Value} {xs : List Int} {p : List MemPlace} {encU : TypeId × Value → Unit} {spare : Nat → Bool} {held : Bool}
   (ht : P.underlying t = some (.array n e)) (he : P.underlying e = some (.int k)) (hce : P.cellsOf e = 1)
   (h : DataW.trod encU P w 0 spare held fuel t cs = some (.agg (xs.map fun z : Int => .lit (.int k z)), p)) : ∀ j, j < xs.length → cs[j]? = some (.int k (xs.getD j 0)) := fun j hj => by
 obtain ⟨ys, m, _, h1, h2, h3, h4⟩ := DataW.trod_array ht h;simp only [Prod.mk.injEq, DataW.agg.injEq] at h1;obtain ⟨h1, _⟩ := h1;have hl : ys.length = xs.length := by have := congrArg List.length h1; simpa using this.symm
 have h5 := h4 j (by omega);rw [hce, Nat.mul_one, List.getElem?_eq_getElem (by omega)] at h5;obtain ⟨z, h6, h7, _⟩ := DataW.trod_int he h5;have h8 : (ys.map (·.1))[j]? = some (.lit (.int k z)) := by rw [List.getElem?_map, List.getElem?_eq_getElem (by omega), h7]; rfl
 rw [← h1, List.getElem?_map, List.getElem?_eq_getElem hj] at h8;simp only [Option.map_some, Option.some.injEq, DataW.lit.injEq, Lit.int.injEq, true_and] at h8
 have h9 : (cs.drop j)[0]? = some (.int k z) := by
   have := congrArg (fun l => l[0]?) h6;simpa [List.getElem?_take] using this
 rw [List.getElem?_drop, Nat.add_zero] at h9;rw [h9, List.getD_eq_getElem?_getD, List.getElem?_eq_getElem hj, ← h8];rfl
def x32 : List Int := [0, 1, 28, 2, 29, 14, 24, 3, 30, 22, 20, 15, 25, 17, 4, 8, 31, 27, 13, 23, 21, 19, 16, 7, 26, 12, 18, 6, 11, 5, 10, 9]
def x64 : List Int := [0, 1, 56, 2, 57, 49, 28, 3, 61, 58, 42, 50, 38, 29, 17, 4, 62, 47, 59, 36, 45, 43, 51, 22, 53, 39, 33, 30, 24, 18, 12, 5, 63, 55, 48, 27, 60, 41, 37, 16, 46, 35, 44, 21, 52, 32, 23, 11, 54, 26, 40, 15, 34, 20, 31, 10, 25, 14, 19, 9, 13, 8, 7, 6]
abbrev laid7 : List (String × DataW Unit) := [("math/bits.deBruijn32tab", Rows.laid_math_bits_deBruijn32tab), ("math/bits.deBruijn64tab", Rows.laid_math_bits_deBruijn64tab), ("internal/strconv.uint64pow10", Rows.laid_internal_strconv_uint64pow10), ("unicode/utf8.acceptRanges", Rows.laid_unicode_utf8_acceptRanges), ("strconv.ErrRange", Rows.laid_strconv_ErrRange), ("strconv.ErrSyntax", Rows.laid_strconv_ErrSyntax), ("unicode/utf8.first", Rows.laid_unicode_utf8_first)]
theorem gN32 : Tryz.prog.globalNamed "math/bits.deBruijn32tab" = some 7 := by kernel_rfl
theorem gN64 : Tryz.prog.globalNamed "math/bits.deBruijn64tab" = some 0 := by kernel_rfl
theorem gN10 : Tryz.prog.globalNamed "internal/strconv.uint64pow10" = some 2 := by kernel_rfl
theorem gNR : Tryz.prog.globalNamed "strconv.ErrRange" = some 4 := by kernel_rfl
theorem gNS : Tryz.prog.globalNamed "strconv.ErrSyntax" = some 3 := by kernel_rfl
theorem gT32 : (Tryz.prog.globals[7]?).map (·.type) = some 254 := by kernel_rfl
theorem gT64 : (Tryz.prog.globals[0]?).map (·.type) = some 164 := by kernel_rfl
theorem gT10 : (Tryz.prog.globals[2]?).map (·.type) = some 233 := by kernel_rfl
theorem gTR : (Tryz.prog.globals[4]?).map (·.type) = some 94 := by kernel_rfl
theorem gTS : (Tryz.prog.globals[3]?).map (·.type) = some 94 := by kernel_rfl
theorem gw_of_laid {W : World} (h : laidMetH Tryz.prog laid7 W) (hsh : W.ShapedOpen Tryz.prog) : gw W W.heap.size := by
 rw [MakeChecks.laidMetH_plain _ _ _ (by kernel_rfl)] at h;obtain ⟨ps, ⟨g0, t0, cs0, f0, p0, q0, hg0, ht0, hv0, hd0, ⟨g1, t1, cs1, f1, p1, q1, hg1, ht1, hv1, hd1, ⟨g2, t2, cs2, f2, p2, q2, hg2, ht2, hv2, hd2, ⟨g3, t3, cs3, f3, p3, q3, hg3, ht3, hv3, hd3, ⟨g4, t4, cs4, f4, p4, q4, hg4, ht4, hv4, hd4, ⟨g5, t5, cs5, f5, p5, q5, hg5, ht5, hv5, hd5, _⟩, _⟩, _⟩, _⟩, _⟩, _⟩, _, _⟩ := h;obtain rfl := Option.some.inj (gN32.symm.trans hg0);obtain rfl := Option.some.inj (gN64.symm.trans hg1);obtain rfl := Option.some.inj (gN10.symm.trans hg2);obtain rfl := Option.some.inj (gNR.symm.trans hg4);obtain rfl := Option.some.inj (gNS.symm.trans hg5);obtain rfl := Option.some.inj (gT32.symm.trans ht0);obtain rfl := Option.some.inj (gT64.symm.trans ht1);obtain rfl := Option.some.inj (gT10.symm.trans ht2);obtain rfl := Option.some.inj (gTR.symm.trans ht4);obtain rfl := Option.some.inj (gTS.symm.trans ht5);have hE : (gEnv W W.heap.size).w = W := gEnv_full W;have hown : ∀ b, ¬ (gEnv W W.heap.size).own b := fun b ⟨k, o, h, _⟩ => by simp [gEnv] at h
 have key : ∀ {n : String} {g : Nat} {cs : Array Value} {k : IntKind} {xs : List Int}, Tryz.prog.globalNamed n = some g → W.var? Tryz.prog n = some cs → (∀ j, j < xs.length → cs.toList[j]? = some (.int k (xs.getD j 0))) → ∀ j, j < xs.length → (gEnv W W.heap.size).w.cell? ⟨g, j, none⟩ = some (.int k (xs.getD j 0)) := fun hg hv hc j hj => by
   rw [hE, World.var?_cell hg hv j, ← Array.getElem?_toList]; exact hc j hj
 have obj : ∀ {n : String} {g : Nat} {cs : Array Value}, Tryz.prog.globalNamed n = some g → W.var? Tryz.prog n = some cs → ∃ T fr, W.heap[g]? = some (.cells cs T fr) := fun hg hv => by
   unfold World.var? at hv;rw [hg] at hv;simp only [Option.bind_some] at hv;split at hv
   · rename_i cs' T fr ho; cases hv; exact ⟨T, fr, ho⟩
   · cases hv
 have lt : ∀ {g : Nat} {o : Obj}, W.heap[g]? = some o → g < W.heap.size := fun h => (Array.getElem?_eq_some_iff.1 h).1;refine ⟨fun g => ?_, fun g hg => ?_⟩
 · match g with
   | 0 => exact garr_rep (k := .u8) (xs := x64) hown rfl (by decide) (key hg1 hv1 (arr_cells (e := 5) Tryz.underlying164 Tryz.underlying5 (by kernel_rfl) hd1))
   | 1 => exact .dead
   | 2 => exact garr_rep (k := .u64) (xs := x20) hown rfl (by decide) (key hg2 hv2 (arr_cells (e := 113) Tryz.underlying233 Tryz.underlying113 (by kernel_rfl) hd2))
   | 3 => exact .dead
   | 4 => exact .dead
   | 5 => exact .dead
   | 6 => exact .dead
   | 7 => exact garr_rep (k := .u8) (xs := x32) hown rfl (by decide) (key hg0 hv0 (arr_cells (e := 5) Tryz.underlying254 Tryz.underlying5 (by kernel_rfl) hd0))
   | g + 8 => exact .dead
 · simp only [gex, List.mem_cons, List.not_mem_nil, or_false] at hg;rcases hg with rfl | rfl | rfl | rfl
   · have hgs : 1 < Tryz.prog.globals.size := by
       have : Tryz.prog.globals.size = 8 := by kernel_rfl
       omega
     have hz0 : ((begin Tryz.prog (fun _ _ => 0) default).world.heap[1]?).bind Obj.row? = some (#[.int .i64 0], 3) := by kernel_rfl
     obtain ⟨cs, hh, _, _⟩ := hsh.1 1 _ _ hgs hz0;obtain ⟨m, hm⟩ := cell_of_shapedOpen_int (g := 1) (k := .i64) hsh hgs hz0 (by kernel_rfl) (by kernel_rfl) (by kernel_rfl) Tryz.underlying3;refine ⟨lt hh, cs, _, _, hh, m, ?_⟩;rw [← hm, cell_of_heap hh]
   · obtain ⟨T, fr, ho⟩ := obj hg2 hv2;refine ⟨lt ho, cs2, T, fr, ho, ?_⟩;have hc := arr_cells (k := .u64) (xs := x20) (e := 113) Tryz.underlying233 Tryz.underlying113 (by kernel_rfl) hd2;obtain ⟨_, _, _, _, hlen, _, _⟩ := DataW.trod_array Tryz.underlying233 hd2;have hl : cs2.toList.length = 20 := hlen.trans (by kernel_rfl);show cs2 = _;apply Array.toList_inj.1;apply List.ext_getElem?;intro j;by_cases hj : j < 20
     · rw [hc j (by exact hj)];simp [List.getElem?_map, List.getD_eq_getElem?_getD];have : j < x20.length := hj;rw [List.getElem?_eq_getElem this]; rfl
     · rw [List.getElem?_eq_none (by omega), List.getElem?_eq_none (by simp [x20]; omega)]
   · obtain ⟨T, fr, ho⟩ := obj hg5 hv5;obtain ⟨_, u, v, hcs, _, _⟩ := iface_of_trod Tryz.underlying94 hd5;exact ⟨lt ho, cs5, T, fr, ho, .iface u v, by rw [← Array.getElem?_toList, hcs]; rfl, .inr ⟨u, v, rfl⟩⟩
   · obtain ⟨T, fr, ho⟩ := obj hg4 hv4;obtain ⟨_, u, v, hcs, _, _⟩ := iface_of_trod Tryz.underlying94 hd4;exact ⟨lt ho, cs4, T, fr, ho, .iface u v, by rw [← Array.getElem?_toList, hcs]; rfl, .inr ⟨u, v, rfl⟩⟩
theorem laid_met (os : Os) (args : Array Value) : laidMetH Tryz.prog laid7 ((World.laidAll Tryz.prog os laid7).forCall (fun _ _ => 0) ⟨#[], args, []⟩).memory := by
 rw [MakeChecks.laidMetH_plain _ _ _ (by kernel_rfl)]; exact laidMet_laidAll _ (by kernel_rfl) (by kernel_rfl)
end Go.Proofs.YtmlhhdiomijpfaaGreatDoor
