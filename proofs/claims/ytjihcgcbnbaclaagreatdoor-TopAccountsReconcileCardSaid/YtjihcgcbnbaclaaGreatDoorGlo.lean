import Derived.Test.YtjihcgcbnbaclaaGreatDoorRows
import Derived.Test.YtjihcgcbnbaclaaGreatDoorRDatA
import Derived.LaidMore
import Derived.OpenShut
import Derived.Stop.Joined
set_option linter.unusedSimpArgs false
set_option linter.unusedVariables false
set_option maxRecDepth 100000
namespace Go.Proofs.YtjihcgcbnbaclaaGreatDoor
open Go Go.Pv Go.RowKit
theorem gEnv_full (w : World) : (gEnv w w.heap.size).w = w := by
 show { w with heap := w.heap.extract 0 w.heap.size } = w;rw [Array.extract_size]
def lpr (z : Int × Int) : DataW Unit := .agg [.lit (.int .i64 z.1), .lit (.int .i64 z.2)]
def ppr (z : Int × Int) : List PV := [.int z.1, .int z.2]
theorem pairs_rep {P : Program} {E : Env} {t e ti : TypeId} {c : Value} {fuel : Nat} {sp : List (DataW Unit)} {p : List MemPlace} {zs : List (Int × Int)} {encU : TypeId × Value → Unit} {spare : Nat → Bool} {held : Bool}
   (hown : ∀ b, ¬ E.own b) (htt : E.tt = true) (ht : P.underlying t = some (.slice e)) (he : P.underlying e = some (.array 2 ti)) (hi : P.underlying ti = some (.int .i64)) (hce : P.cellsOf e = 2) (hci : P.cellsOf ti = 1)
   (h : DataW.trod encU P E.w 0 spare held fuel t [c] = some (.slice (zs.map lpr) sp, p)) (h0 : 0 < zs.length) : Rep E c (.lit true 2 (zs.map ppr)) := by
 rcases DataW.trod_slice ht h with ⟨_, hx⟩ | ⟨a, len, cap, elems, rest, n, _, hcs, hx, _, hl, _, hlen, hel, _⟩
 · simp at hx
 · simp only [Prod.mk.injEq, DataW.slice.injEq] at hx;obtain ⟨⟨hz, _⟩, _⟩ := hx;have el : zs.length = len := by have := congrArg List.length hz; simpa [hlen] using this
   simp only [List.cons.injEq, and_true] at hcs;subst hcs
   have cell : ∀ i j, i < len → j < 2 → E.w.cell? (a.add (i * 2 + j)) = some (.int .i64 (if j = 0 then (zs.getD i (0, 0)).1 else (zs.getD i (0, 0)).2)) := fun i j hi' hj => by
     have hE := hel i hi';rw [hce] at hE;have hei : elems[i]? = some (elems[i]'(by omega)) := List.getElem?_eq_getElem (by omega);rw [hei, Option.bind_eq_some_iff] at hE;obtain ⟨cs, h1, h2⟩ := hE;obtain ⟨_, h3, h4⟩ := World.cells?_some h1;obtain ⟨xs, m, _, h5, _, h6, h7⟩ := DataW.trod_array he h2
     have hzi : (elems[i]'(by omega)).1 = lpr (zs.getD i (0, 0)) := by
       have h8 : (zs.map lpr)[i]? = (elems.map (·.1))[i]? := by rw [hz]
       rw [List.getElem?_map, List.getElem?_map, hei, List.getElem?_eq_getElem (by omega)] at h8;simp only [Option.map_some, Option.some.injEq] at h8;rw [← h8, List.getD_eq_getElem?_getD, List.getElem?_eq_getElem (by omega)];rfl
     rw [h5] at hzi;simp only [lpr, DataW.agg.injEq] at hzi;have hj7 := h7 j hj;rw [hci, Nat.mul_one] at hj7;have hcj : cs[j]? = some (cs[j]'(by omega)) := List.getElem?_eq_getElem (by omega)
     have hdt : (cs.drop j).take 1 = [cs[j]'(by omega)] := by
       rw [List.drop_eq_getElem_cons (by omega)]; rfl
     have hxj : xs[j]? = some (xs[j]'(by omega)) := List.getElem?_eq_getElem (by omega);rw [hdt, hxj] at hj7;obtain ⟨z, h9, h10, _⟩ := DataW.trod_int hi hj7;simp only [List.cons.injEq, and_true] at h9;have h11 : (xs.map (·.1))[j]? = some (.lit (.int .i64 z)) := by rw [List.getElem?_map, hxj, h10]; rfl
     rw [hzi] at h11;rw [← add_add, h4 j hj, hcj, h9];have hj01 : j = 0 ∨ j = 1 := by omega
     rcases hj01 with rfl | rfl
     · simp at h11; simp [h11]
     · simp at h11; simp [h11]
   obtain ⟨b, off, spot⟩ := a
   have hspot : spot = none := by
     have h2 := World.cell?_spot (cell 0 0 (by omega) (by decide));simpa [Addr.add] using h2
   subst hspot
   have cell2 : ∀ i j, i < len → j < 2 → E.w.cell? ⟨b, off + i * 2 + j, none⟩ = some (.int .i64 (if j = 0 then (zs.getD i (0, 0)).1 else (zs.getD i (0, 0)).2)) := fun i j hi' hj => by
     rw [← cell i j hi' hj, add_none, Nat.add_assoc]
   have hrow : ∀ (i j : Nat) (row : List PV) (q : PV), (zs.map ppr)[i]? = some row → row[j]? = some q → i < len ∧ j < 2 ∧ q = .int (if j = 0 then (zs.getD i (0, 0)).1 else (zs.getD i (0, 0)).2) := fun i j row q h1 h2 => by
     rw [List.getElem?_map, Option.map_eq_some_iff] at h1;obtain ⟨z, h1, rfl⟩ := h1;have hil : i < zs.length := (List.getElem?_eq_some_iff.1 h1).1;rw [List.getD_eq_getElem?_getD, h1]
     match j with
     | 0 => simp [ppr] at h2; subst h2; exact ⟨by omega, by decide, rfl⟩
     | 1 => simp [ppr] at h2; subst h2; exact ⟨by omega, by decide, rfl⟩
     | j + 2 => simp [ppr] at h2
   have hcl : b < E.w.heap.size := cell_lt (cell2 0 0 (by omega) (by decide))
   have := Rep.lit (E := E) (b := b) (off := off) (c := cap) (t := true) (sz := 2) (rows := zs.map ppr) (f := fun i j => .int .i64 (if j = 0 then (zs.getD i (0, 0)).1 else (zs.getD i (0, 0)).2))
     ⟨hown b, (fun h => by cases h), (fun _ => htt), hcl, (fun row hr => by obtain ⟨z, _, rfl⟩ := List.mem_map.1 hr; rfl), (fun i j row q h1 h2 => by
       obtain ⟨h3, h4, _⟩ := hrow i j row q h1 h2;exact cell2 i j h3 h4), (fun row hr q hq => by obtain ⟨z, _, rfl⟩ := List.mem_map.1 hr; simp only [ppr, List.mem_cons, List.not_mem_nil, or_false] at hq; rcases hq with rfl | rfl <;> exact .sc _),
       (fun row hr q hq => by obtain ⟨z, _, rfl⟩ := List.mem_map.1 hr; simp only [ppr, List.mem_cons, List.not_mem_nil, or_false] at hq; rcases hq with rfl | rfl <;> rfl)⟩ (by simp; omega) (fun i j row q h1 h2 => by
       obtain ⟨_, _, rfl⟩ := hrow i j row q h1 h2;exact .sc rfl)
   rw [List.length_map, el] at this;exact this
theorem gptr_rep {E : Env} {g : Nat} {c : Value} {q : PV} (hown : ∀ b, ¬ E.own b) (htt : E.tt = true) (hc : E.w.cell? ⟨g, 0, none⟩ = some c) (hr : Rep E c q) (hp : Pure q) (h1 : q.cell = true) : Rep E (.pointer (some ⟨g, 0, none⟩)) (.lptr true 1 [[q]] 0 0) := by
 have hone : ∀ (i j : Nat) (row : List PV) (p : PV), ([[q]] : List (List PV))[i]? = some row → row[j]? = some p → i = 0 ∧ j = 0 ∧ p = q := fun i j row p h2 h3 => by
   match i with
   | 0 =>
     simp at h2; subst h2
     match j with
     | 0 => simp at h3; exact ⟨rfl, rfl, h3.symm⟩
     | j + 1 => simp at h3
   | i + 1 => simp at h2
 have := Rep.lptr (E := E) (b := g) (off := 0) (t := true) (sz := 1) (rows := [[q]]) (f := fun _ _ => c) 0 0
   ⟨hown g, (fun h => by cases h), (fun _ => htt), cell_lt hc, (fun row hr => by simp at hr; subst hr; rfl), (fun i j row p h2 h3 => by
     obtain ⟨rfl, rfl, _⟩ := hone i j row p h2 h3; exact hc), (fun row hr p hq => by simp at hr; subst hr; simp at hq; subst hq; exact hp),
     (fun row hr p hq => by simp at hr; subst hr; simp at hq; subst hq; exact h1)⟩ (fun i j row p h2 h3 => by
     obtain ⟨rfl, rfl, rfl⟩ := hone i j row p h2 h3; exact hr)
 simpa using this
abbrev laid2 : List (String × DataW Unit) := [("putlog/yard.changes", Rows.laid_putlog_yard_changes), ("putlog/yard.repairs", Rows.laid_putlog_yard_repairs)]
theorem gN0 : Tryz.prog.globalNamed "putlog/yard.changes" = some 0 := by kernel_rfl
theorem gN1 : Tryz.prog.globalNamed "putlog/yard.repairs" = some 1 := by kernel_rfl
theorem gT0 : (Tryz.prog.globals[0]?).map (·.type) = some 128 := by kernel_rfl
theorem gT1 : (Tryz.prog.globals[1]?).map (·.type) = some 128 := by kernel_rfl
theorem one_toList {cs : Array Value} {c : Value} (h : cs.toList = [c]) : cs[0]? = some c := by
 rw [← Array.getElem?_toList, h]; rfl
theorem gw_of_laid {W : World} (h : laidMetH Tryz.prog laid2 W) : gw W W.heap.size := by
 rw [MakeChecks.laidMetH_plain _ _ _ (by kernel_rfl)] at h;obtain ⟨ps, ⟨g0, t0, cs0, f0, p0, q0, hg0, ht0, hv0, hd0, ⟨g1, t1, cs1, f1, p1, q1, hg1, ht1, hv1, hd1, _, _⟩, _⟩, _, _⟩ := h;obtain rfl := Option.some.inj (gN0.symm.trans hg0);obtain rfl := Option.some.inj (gN1.symm.trans hg1);obtain rfl := Option.some.inj (gT0.symm.trans ht0);obtain rfl := Option.some.inj (gT1.symm.trans ht1)
 have one : ∀ {cs : Array Value} {f : Nat} {ds sp : List (DataW Unit)} {p : List MemPlace}, DataW.trod (fun _ => ()) Tryz.prog W 0 (fun _ => true) false f 128 cs.toList = some (.slice ds sp, p) → ∃ c, cs.toList = [c] := fun hd => by
   rcases DataW.trod_slice Tryz.underlying128 hd with ⟨h, _⟩ | ⟨a, len, cap, elems, rest, n, _, h, _⟩
   · exact ⟨_, h⟩
   · exact ⟨_, h⟩
 obtain ⟨c0, e0⟩ := one hd0;obtain ⟨c1, e1⟩ := one hd1;have k0 := (World.var?_cell hg0 hv0 0).trans (one_toList e0);have k1 := (World.var?_cell hg1 hv1 0).trans (one_toList e1);rw [e0] at hd0;rw [e1] at hd1;have hE : (gEnv W W.heap.size).w = W := gEnv_full W;have hown : ∀ b, ¬ (gEnv W W.heap.size).own b := fun b ⟨k, o, h, _⟩ => by simp [gEnv] at h
 intro g
 match g with
 | 0 =>
   refine gptr_rep (q := .lit true 2 gch) hown rfl (by rw [hE]; exact k0) ?_ (.lit _ _ _ gch_pure) rfl;exact pairs_rep (E := gEnv W W.heap.size) (zs := [(0, 1), (0, 3), (1, 3)]) hown rfl Tryz.underlying128 Tryz.underlying67 (ti := 3) Tryz.underlying3 (by kernel_rfl) (by kernel_rfl) (by rw [hE]; exact hd0) (by decide)
 | 1 =>
   refine gptr_rep (q := .lit true 2 grp) hown rfl (by rw [hE]; exact k1) ?_ (.lit _ _ _ grp_pure) rfl;exact pairs_rep (E := gEnv W W.heap.size) (zs := [(1, 2), (2, 0), (2, 1), (3, 0), (3, 1)]) hown rfl Tryz.underlying128 Tryz.underlying67 (ti := 3) Tryz.underlying3 (by kernel_rfl) (by kernel_rfl) (by rw [hE]; exact hd1) (by decide)
 | g + 2 => exact .dead
theorem door_met (os : Os) (args : Array Value) : laidMetH Tryz.prog laid2 ((World.doorLaid Tryz.prog 400 os).forCall (fun _ _ => 0) ⟨#[], args, []⟩).memory :=
 laidMetH_of_parts3 (fuel := 8) (laidMet_of_run' 8 (by kernel_rfl) (by kernel_rfl)) (by kernel_rfl) (by kernel_rfl)
end Go.Proofs.YtjihcgcbnbaclaaGreatDoor
