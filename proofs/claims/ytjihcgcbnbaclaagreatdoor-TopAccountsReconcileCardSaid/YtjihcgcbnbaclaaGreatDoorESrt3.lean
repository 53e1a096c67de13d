import Derived.Shelf.SlIter.Collect
import Derived.RangeFuncLeaves
import Derived.KernelRfl
import Derived.Test.YtjihcgcbnbaclaaGreatDoorESrt2
set_option linter.unusedSimpArgs false
set_option linter.unusedVariables false
namespace Go.Proofs.YtjihcgcbnbaclaaGreatDoor.Y8
open Go Go.Proofs Go.RowKit Go.Shelf Go.Sort Go.Pv
def rfParts : Code → Option (Code × Code)
 | .seq _ (.seq (.seq _ (.block _ (.rangeFunc _ _ a b))) _) => some (a, b)
 | _ => none
noncomputable def apA : Code := match (Tryz.f74.body).bind rfParts with | some p => p.1 | none => .skip
noncomputable def apB : Code := match (Tryz.f74.body).bind rfParts with | some p => p.2 | none => .skip
noncomputable def apRec (fn : FuncId) (sv : Value) (Bs D : Nat) (st : LoopState) (pend : Option Code) : Loop :=
 { state := st, pending := pend, fn, tmps := #[.slice none 0 0, sv, .pointer (some ⟨Bs, 0, none⟩), undef, .slice none 0 0, undef, sv, undef, undef, undef, undef, undef, undef], params := #[7], assign := apA, body := apB, defers := D }
def cellsK (l : List K3) : List Value := l.flatMap encK
theorem cellsK_length : ∀ l : List K3, (cellsK l).length = l.length * 3
 | [] => rfl
 | x :: l => by
   have := cellsK_length l;show (encK x ++ cellsK l).length = _;rw [List.length_append, this];simp [encK]; omega
theorem cellsK_snoc (l : List K3) (x : K3) : cellsK (l ++ [x]) = cellsK l ++ encK x := by simp [cellsK]
structure ApAt (w0 : World) (fn : FuncId) (sv : Value) (Bs l D : Nat) (ss : List K3) (W : World) : Prop where
 box : ∃ v, W.heap[Bs]? = some (.cells #[v] 106 (0, 0)) ∧ W.ownsRow w0.heap.size 91 3 v ss.length (cellsK ss) ∧ (v = .slice none 0 0 ↔ ss = [])
 L : W.heap[l]? = some (.loop (apRec fn sv Bs D .ready none))
 K : W.heap[D]? = some (.deferred (some []))
 below : Below w0.heap.size w0 W
theorem ap_abides (w0 : World) (fn : FuncId) (sv : Value) (Bs l D Bn : Nat) (hB : w0.heap.size ≤ Bn) : AbidesFrom Bn (ApAt w0 fn sv Bs l D) := fun s W W' row h hg hrow => by
 have hrow' : ∀ r, row = some r → ∃ o : Obj, W.heap[r]? = some o ∧ o.isWalk = true := fun r e => (hrow r e).2;obtain ⟨v, hv, hr, hn⟩ := h.box
 exact ⟨⟨v, (grownBy_keeps hg hrow' hv rfl).trans hv, ownsRow_abides_a hr hg hrow', hn⟩, (grownBy_keeps hg hrow' h.L rfl).trans h.L, (grownBy_keeps hg hrow' h.K rfl).trans h.K,
   h.below.grown hg h.below.size (fun k e => Nat.le_trans hB (hrow k e).1)⟩
theorem cells_new (w : World) (cs : List Value) (t : TypeId) : ∀ j u, cs[j]? = some u → (w.alloc (.cells cs.toArray t)).cell? ((⟨w.heap.size, 0, none⟩ : Addr).add j) = some u := by
 intro j u h;rw [Addr.add_at, Nat.zero_add];rw [cell_of_heap (w := w.alloc (.cells cs.toArray t)) (World.alloc_heap_new w _) j];simpa using h
theorem cells_new' (w : World) (cs : List Value) (t : TypeId) (n : Nat) (h : w.heap.size = n) : ∀ j u, cs[j]? = some u → (w.alloc (.cells cs.toArray t)).cell? ((⟨n, 0, none⟩ : Addr).add j) = some u := by
 subst h; exact cells_new w cs t
theorem info91 : (Tryz.prog.info? 91).map (fun i => (i.zero, i.size, i.bytes)) = some (some (.agg #[.string ⟨#[]⟩, .int .i64 0, .int .i64 0]), 3, 32) := by kernel_rfl
set_option maxRecDepth 100000 in
set_option maxHeartbeats 2000000 in
theorem apYield (F : Fence) (m : Nat) (w0 : World) (fn : FuncId) (hfn : F.fn fn) (sv : Value) (Bs l D : Nat) (hBl : Bs ≠ l) (hDl : D ≠ l) (hDB : D ≠ Bs) (h0B : w0.heap.size ≤ Bs) (h0l : w0.heap.size ≤ l)
   (N : Nat) (hN : N ≤ maxLen) (hNb : N * 32 ≤ 140737488355328) (ss : List K3) (x : K3) (W : World) (h : ApAt w0 fn sv Bs l D ss W) (hlen : ss.length < N) :
   YieldAt F m Tryz.prog l #[.agg #[.string x.s, .int .i64 x.a, .int .i64 x.b]] W fun e W' => e = .returned (.bool true) ∧ ApAt w0 fn sv Bs l D (ss ++ [x]) W' ∧ KeepsWalks W W' := by
 obtain ⟨i0, hi, hz0, hz1, hz2⟩ := info_parts info91;obtain ⟨v, hv, hrow, _⟩ := h.box;refine ⟨fn, #[.slice none 0 0, sv, .pointer (some ⟨Bs, 0, none⟩), undef, .slice none 0 0, undef, sv, .agg #[.string x.s, .int .i64 x.a, .int .i64 x.b], undef, undef, undef, undef, undef], apA, apB, by simpa [apRec] using run_yield (P := Tryz.prog) (args := #[.agg #[.string x.s, .int .i64 x.a, .int .i64 x.b]]) h.L rfl, roundIn_of_wpIn hfn ?_⟩;have hl0 : l < W.heap.size := (Array.getElem?_eq_some_iff.1 h.L).1;have hBl0 : Bs < W.heap.size := (Array.getElem?_eq_some_iff.1 hv).1;have hDl0 : D < W.heap.size := (Array.getElem?_eq_some_iff.1 h.K).1;simp only [apA, Tryz.f74, Option.bind, rfParts]
 gi_wp2_with gi_round_op_a
 obtain ⟨X1, hX1⟩ : ∃ X1, W.alloc (.cells #[.string x.s, .int .i64 x.a, .int .i64 x.b] 91) = X1 := ⟨_, rfl⟩
 have hx5 : X1.cell? ⟨W.heap.size, 0, none⟩ = some (.string x.s) ∧ X1.cell? ⟨W.heap.size, 1, none⟩ = some (.int .i64 x.a) ∧ X1.cell? ⟨W.heap.size, 2, none⟩ = some (.int .i64 x.b) := by
   rw [← hX1];have := cell_of_heap (World.alloc_heap_new W (.cells #[.string x.s, .int .i64 x.a, .int .i64 x.b] 91));exact ⟨this 0, this 1, this 2⟩
 have hs1 : X1.heap.size = W.heap.size + 1 := by rw [← hX1]; simp
 have hold : ∀ k, k < W.heap.size → X1.heap[k]? = W.heap[k]? := fun k hk => by rw [← hX1]; exact Below.heap_alloc _ _ k hk
 have hL1 : X1.heap[l]? = some (.loop (apRec fn sv Bs D .ready none)) := (hold l hl0).trans h.L;have hv1 : X1.heap[Bs]? = some (.cells #[v] 106 (0, 0)) := (hold Bs hBl0).trans hv;have hK1 : X1.heap[D]? = some (.deferred (some [])) := (hold D hDl0).trans h.K;have hrow1 : X1.ownsRow w0.heap.size 91 3 v ss.length (cellsK ss) := by rw [← hX1]; exact hrow.alloc _
 have hb1 : Below w0.heap.size w0 X1 := by rw [← hX1]; exact h.below.alloc h.below.size _
 have hk1 : KeepsWalks W X1 := by rw [← hX1]; exact KeepsWalks.alloc _ _
 rw [hX1];clear hX1 hold;have hl : l < X1.heap.size := (Array.getElem?_eq_some_iff.1 hL1).1;have hbr := run_beginRound (P := Tryz.prog) hL1 rfl;obtain ⟨W2, hW2⟩ : ∃ W2, X1.putObj l (.loop { apRec fn sv Bs D .ready none with state := .busy }) = W2 := ⟨_, rfl⟩
 rw [hW2] at hbr;have hg2 : X1.grownBy W2 (some l) := by rw [← hW2]; exact grownBy_putObj_a _ _ _
 have hk2 : KeepsWalks W W2 := by rw [← hW2]; exact hk1.trans (KeepsWalks.putObj _ hL1 rfl)
 have hv2 : W2.heap[Bs]? = some (.cells #[v] 106 (0, 0)) := by rw [← hW2]; exact (World.putObj_heap_other hBl).trans hv1
 have hK2 : W2.heap[D]? = some (.deferred (some [])) := by rw [← hW2]; exact (World.putObj_heap_other hDl).trans hK1
 have hL2 : W2.heap[l]? = some (.loop { apRec fn sv Bs D .ready none with state := .busy }) := by rw [← hW2]; exact World.putObj_heap_same hl
 have hrow2 : W2.ownsRow w0.heap.size 91 3 v ss.length (cellsK ss) := hrow1.kept hg2 (ownsRow_ne_a hrow1 hL1 (fun cur e => by cases e));have hb2 : Below w0.heap.size w0 W2 := hb1.grown hg2 hb1.size (fun k e => by cases e; exact h0l);obtain ⟨hc2, hf2⟩ := cell_of_box_a hv2;have hBlt : Bs < W2.heap.size := (Array.getElem?_eq_some_iff.1 hv2).1;have hl2 : l < W2.heap.size := (Array.getElem?_eq_some_iff.1 hL2).1;have hDlt : D < W2.heap.size := (Array.getElem?_eq_some_iff.1 hK2).1
 have ne_of : ∀ {j : Nat} {o : Obj}, W2.heap[j]? = some o → (∀ cur, o ≠ .cells cur 91 (0, 0)) → some j ≠ v.ownBlock := fun hj hno => by
   rcases ownsRow_ne_a hrow2 hj hno with e | e
   · rw [e]; simp
   · exact fun e' => e e'.symm
 have hs2 : W2.heap.size = W.heap.size + 1 := by rw [← hW2]; simp [hs1]
 have hx2 : W2.cell? ⟨W.heap.size, 0, none⟩ = some (.string x.s) ∧ W2.cell? ⟨W.heap.size, 1, none⟩ = some (.int .i64 x.a) ∧ W2.cell? ⟨W.heap.size, 2, none⟩ = some (.int .i64 x.b) := by
   have hb : W2.heap[W.heap.size]? = X1.heap[W.heap.size]? := by rw [← hW2]; exact World.putObj_heap_other (by omega)
   have hc : ∀ j, W2.cell? ⟨W.heap.size, j, none⟩ = X1.cell? ⟨W.heap.size, j, none⟩ := fun j => World.cell?_of_block hb;rw [hc, hc, hc]; exact hx5
 obtain ⟨hx20, hx21, hx22⟩ := hx2;clear hW2 hx5;refine ⟨W2, hbr, ?_⟩;simp only [apB, Tryz.f74, Option.bind, rfParts]
 gi_wp2_with (first
   | (gi_at_builtin; refine wpListIn_append_own _ rfl _ _ 106 rfl w0.heap.size 91 i0 (.agg #[.string ⟨#[]⟩, .int .i64 0, .int .i64 0]) 3 32 Tryz.underlying106 hi hz0 hz1 hz2 rfl (by decide) _ _ _ rfl (hrow2.alloc _) ⟨W.heap.size + 1, 0, none⟩ 1 1 (encK x) rfl rfl (cells_new' _ _ _ _ hs2) (by intro u hu; simp [encK] at hu; rcases hu with rfl | rfl | rfl <;> rfl) (by omega) (by omega) (by have := hb2.size; simp; omega) ?_; intro v' w3 hown' hg3 hnil3
      have hv3 : w3.heap[Bs]? = some (.cells #[v] 106 (0, 0)) := (hg3.block Bs (by simp; omega) (ne_of hv2 (fun cur e => by cases e))).trans ((Below.heap_alloc _ _ Bs hBlt).trans hv2);obtain ⟨hc3, hf3⟩ := cell_of_box_a hv3
      obtain ⟨g', cap', cur', rfl, hbase', hgb', hr1, hr2, hr3, hr4⟩ : ∃ g' cap' cur', v' = .slice (some ⟨g', 0, none⟩) (ss.length + 1) cap' ∧ w0.heap.size ≤ g' ∧ w3.heap[g']? = some (.cells cur' 91 (0, 0)) ∧ ss.length + 1 ≤ cap' ∧ cap' ≤ maxLen ∧ cur'.size = cap' * 3 ∧ cur'.toList.take ((ss.length + 1) * 3) = cellsK ss ++ encK x := by
        rcases hown'.2 with ⟨_, h0⟩ | h'
        · exact absurd h0 (by omega)
        · exact h'
      go_frame)
   | gi_round_op_a)
 have hg3' : (W2.alloc (.cells (encK x).toArray 91)).grownBy w3 v.ownBlock := hg3;have hL3 : w3.heap[l]? = some (.loop { apRec fn sv Bs D .ready none with state := .busy }) := (hg3'.block l (by simp; omega) (ne_of hL2 (fun cur e => by cases e))).trans ((Below.heap_alloc _ _ l hl2).trans hL2);have hK3 : w3.heap[D]? = some (.deferred (some [])) := (hg3'.block D (by simp; omega) (ne_of hK2 (fun cur e => by cases e))).trans ((Below.heap_alloc _ _ D hDlt).trans hK2);obtain ⟨w4, hw4⟩ : ∃ w4, w3.setCell ⟨Bs, 0, none⟩ (.slice (some ⟨g', 0, none⟩) (ss.length + 1) cap') = w4 := ⟨_, rfl⟩
 rw [hw4];have hg4 : w3.grownBy w4 (some Bs) := by rw [← hw4]; exact grownBy_setCell0_a _ _ _
 have hv4 : w4.heap[Bs]? = some (.cells #[.slice (some ⟨g', 0, none⟩) (ss.length + 1) cap'] 106 (0, 0)) := by rw [← hw4]; exact heap_setCell_box_a _ hv3
 have hL4 : w4.heap[l]? = some (.loop { apRec fn sv Bs D .ready none with state := .busy }) := (hg4.block l (Array.getElem?_eq_some_iff.1 hL3).1 (fun e => hBl (by cases e; rfl))).trans hL3;have hK4 : w4.heap[D]? = some (.deferred (some [])) := (hg4.block D (Array.getElem?_eq_some_iff.1 hK3).1 (fun e => hDB (by cases e; rfl))).trans hK3;have hrow4 := hown'.kept hg4 (ownsRow_ne_a hown' hv3 (fun cur e => by cases e));have hl4 : l < w4.heap.size := (Array.getElem?_eq_some_iff.1 hL4).1;have hb3 : Below w0.heap.size w0 w3 := (hb2.alloc hb2.size _).grown hg3' (by have := hb2.size; simp; omega) (fun k e => (hrow2.lt k e).1);have hb4 : Below w0.heap.size w0 w4 := hb3.grown hg4 hb3.size (fun k e => by cases e; exact h0B);have hk4 : KeepsWalks W w4 := ((hk2.trans (KeepsWalks.alloc _ _)).trans (KeepsWalks.of_grownBy hg3' (ownsRow_not_walk_a (hrow2.alloc _)))).trans (by rw [← hw4]; exact KeepsWalks.setCell _ _ _);clear hw4;refine ⟨_, _, run_endRound none hL4, rfl, ⟨⟨_, (World.putObj_heap_other hBl).trans hv4, ?_, by simp⟩, World.putObj_heap_same hl4, (World.putObj_heap_other hDl).trans hK4, hb4.grown (grownBy_putObj_a _ _ _) hb4.size (fun k e => by cases e; exact h0l)⟩, hk4.trans (KeepsWalks.putObj _ hL4 rfl)⟩;have := hrow4.kept (grownBy_putObj_a w4 l (.loop { { apRec fn sv Bs D .ready none with state := .busy } with state := if (none : Option Code).isNone then .ready else .done, pending := none })) (ownsRow_ne_a hrow4 hL4 (fun cur e => by cases e));rw [cellsK_snoc, List.length_append];exact this
end Go.Proofs.YtjihcgcbnbaclaaGreatDoor.Y8
