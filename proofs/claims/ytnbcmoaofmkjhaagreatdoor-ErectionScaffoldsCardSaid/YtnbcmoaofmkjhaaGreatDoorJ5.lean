import Derived.Test.YtnbcmoaofmkjhaaGreatDoorJ4
import Derived.Shelf.Spec.SlicesGrow
import Derived.Ground.Names8Prog
import Derived.Test.YtnbcmoaofmkjhaaGreatDoorProg
import Derived.Test.YtnbcmoaofmkjhaaGreatDoorPvGh
import Derived.Shelf.Sort.Plain
import Derived.Shelf.Slices.In.SortNone
import Derived.Shelf.Slices.CompactI
import Derived.Shelf.Strconv.Itoa3
import Derived.Lib.RowBridge
import Derived.Test.YtnbcmoaofmkjhaaGreatDoorJ0
import Derived.Test.YtnbcmoaofmkjhaaGreatDoorJ2
set_option linter.unusedSimpArgs false
set_option linter.unusedVariables false
namespace Go.Pv
open Go Go.Proofs Go.RowKit
variable {P : Program}
inductive Frz (h : Heap) (D : Key → Prop) : PV → PV → Prop where
 | refl (p : PV) : Frz h D p p
 | nil (sz : Nat) : Frz h D .nil (.lit false sz [])
 | row {k : Key} {sz len : Nat} {rs rows : Rows} (hD : D k) (hk : h k = some (.rows sz rs)) (hlen : rows.length = len) (hl : len ≤ rs.length)
     (hw : ∀ row ∈ rows, row.length = sz) (hp : ∀ row ∈ rows, ∀ p ∈ row, Pure p ∧ p.cell = true)
     (hc : ∀ (i j : Nat) (row row' : List PV) (p p' : PV), rs[i]? = some row → rows[i]? = some row' → row[j]? = some p → row'[j]? = some p' → Frz h D p p') : Frz h D (.ref k sz 0 len) (.lit false sz rows)
def OFrz (h : Heap) (D : Key → Prop) (o o2 : PObj) : Prop := o2 = o ∨ (∃ sz rs rs2, o = .rows sz rs ∧ o2 = .rows sz rs2 ∧ rs2.length = rs.length ∧ (∀ row ∈ rs2, row.length = sz) ∧ (∀ row ∈ rs2, ∀ p ∈ row, p.cell = true) ∧
   ∀ (i j : Nat) (row row' : List PV) (p p' : PV), rs[i]? = some row → rs2[i]? = some row' → row[j]? = some p → row'[j]? = some p' → Frz h D p p') ∨
 ∃ es es2 bs clk, o = .map es bs clk ∧ o2 = .map es2 bs clk ∧ es2.length = es.length ∧ ∀ (i : Nat) (e e2 : PV × PV), es[i]? = some e → es2[i]? = some e2 → (e2.2 = e.2 ∨ mval e2.2 = true) ∧ e2.1 = e.1 ∧ Frz h D e.2 e2.2
structure HFrz (h h2 : Heap) (D : Key → Prop) : Prop where
 out : ∀ k, D k → h2 k = none
 none_ : ∀ k, h k = none → h2 k = none
 obj : ∀ k o, h k = some o → ¬ D k → ∃ o2, h2 k = some o2 ∧ OFrz h D o o2
section
variable {E : Env} {h2 : Heap} {D : Key → Prop}
theorem zEb (hz : HFrz E.h h2 D) {k : Key} {o : PObj} (h : h2 k = some o) : ¬ D k ∧ ∃ o0, E.h k = some o0 ∧ OFrz E.h D o0 o := by
 have hD : ¬ D k := fun hd => by rw [hz.out k hd] at h; cases h
 refine ⟨hD, ?_⟩;cases h0 : E.h k with
 | none => rw [hz.none_ k h0] at h; cases h
 | some o0 =>
   obtain ⟨o2, h1, h2⟩ := hz.obj k o0 h0 hD;rw [h] at h1; cases h1;exact ⟨o0, rfl, h2⟩
theorem OFrz.kd {h : Heap} {o o2 : PObj} (hz : OFrz h D o o2) : o2.kd = o.kd := by
 rcases hz with rfl | ⟨sz, rs, rs2, rfl, rfl, _⟩ | ⟨es, es2, bs, clk, rfl, rfl, _⟩ <;> rfl
theorem zKy (hz : HFrz E.h h2 D) : EnvLe E { E with h := h2 } where
 blk := fun _ _ _ => rfl
 size := Nat.le_refl _
 own := fun b ⟨k, o, h1, h2⟩ => by
   obtain ⟨_, o0, h3, _⟩ := zEb hz h1;exact .inl ⟨k, o0, h3, h2⟩
 M := rfl
 tt := rfl
 B0 := rfl
 cnt := fun _ => Nat.le_refl _
 nokey := fun k _ hn => hz.none_ k hn
 rows := fun k sz rs hk => by
   by_cases hD : D k
   · exact .inl (hz.out k hD)
   · obtain ⟨o2, h1, h2⟩ := hz.obj k _ hk hD;rcases h2 with rfl | ⟨sz', rs', rs2, he, rfl, _⟩ | ⟨es, es2, bs, clk, he, _⟩
     · exact .inr ⟨rs, h1, rfl, rfl⟩
     · cases he; exact .inr ⟨rs2, h1, rfl, rfl⟩
     · cases he
 map := fun k o hk hd => by
   by_cases hD : D k
   · exact .inl (hz.out k hD)
   · obtain ⟨o2, h1, h2⟩ := hz.obj k _ hk hD;exact .inr ⟨o2, h1, h2.kd, rfl⟩
theorem zJZ (g : Good E) (hz : HFrz E.h h2 D) {p p' : PV} (hf : Frz E.h D p p') : ∀ {v : Value}, Rep E v p → Rep { E with h := h2 } v p' := by
 induction hf with
 | refl p => intro v h; exact h.le (zKy hz)
 | nil sz => intro v h; cases h; exact .litE
 | @row k sz len rs rows hD hk hlen hl hw hp hc ih =>
   intro v h;cases h with
   | @ref b a _ _ _ _ cp hkn hle hloc =>
     obtain ⟨⟨rfl, ha⟩, hcap, _⟩ := hloc _ hk;rw [show (E.cap k).2 + 0 * sz = (E.cap k).2 by omega] at ha;subst ha;have V := View.of_obj (g.obj k _ hk)
     have hget : ∀ (i j : Nat) (row' : List PV) (p' : PV), rows[i]? = some row' → row'[j]? = some p' → ∃ row p v, rs[i]? = some row ∧ row[j]? = some p ∧ E.w.cell? ⟨E.blk k, (E.cap k).2 + i * sz + j, none⟩ = some v ∧ Rep E v p := fun i j row' p' h1 h2 => by
       have hi : i < rows.length := (List.getElem?_eq_some_iff.1 h1).1;obtain ⟨row, hrow⟩ : ∃ row, rs[i]? = some row := ⟨_, List.getElem?_eq_getElem (by omega)⟩
       have hj : j < row'.length := (List.getElem?_eq_some_iff.1 h2).1;have hl1 := hw row' (List.mem_of_getElem? h1);have hl2 := V.width row (List.mem_of_getElem? hrow);obtain ⟨p, hpj⟩ : ∃ p, row[j]? = some p := ⟨_, List.getElem?_eq_getElem (by omega)⟩
       obtain ⟨v, h3, h4⟩ := V.cell i j row p hrow hpj;exact ⟨row, p, v, hrow, hpj, h3, h4⟩
     rw [← hlen];refine .lit (f := fun i j => (E.w.cell? ⟨E.blk k, (E.cap k).2 + i * sz + j, none⟩).getD undef) ⟨?_, fun _ hM => ?_, fun h => (by cases h), zBL g hk, hw, fun i j row' p' h1 h2 => ?_, fun row hr p hp' => (hp row hr p hp').1, fun row hr p hp' => (hp row hr p hp').2⟩ (by omega) fun i j row' p' h1 h2 => ?_
     · rintro ⟨k', o, h1, h3⟩
       obtain ⟨hD', o0, h4, _⟩ := zEb hz h1;have := g.inj _ _ _ _ h4 hk h3;subst this; exact hD' hD
     · have h1 := g.out _ hM;have h3 := g.base _ _ hk;omega
     · obtain ⟨row, p, v, h3, h4, h5, h6⟩ := hget i j row' p' h1 h2;show E.w.cell? _ = _;rw [h5]; rfl
     · obtain ⟨row, p, v, h3, h4, h5, h6⟩ := hget i j row' p' h1 h2;show Rep _ ((E.w.cell? ⟨E.blk k, (E.cap k).2 + i * sz + j, none⟩).getD undef) p';rw [h5];exact ih i j row row' p p' h3 h1 h4 h2 h6
   | refE hkn hloc =>
     have : rows = [] := List.length_eq_zero_iff.1 hlen;subst this; exact .litE
theorem frz_good (g : Good E) (hz : HFrz E.h h2 D) : Good { E with h := h2 } := by
 refine ⟨fun k k' o o' h1 h2 h3 => ?_, fun k o h1 => ?_, fun k o h1 => ?_, fun k o h1 => ?_, g.out, g.size, g.glob⟩
 · obtain ⟨_, o1, h4, _⟩ := zEb hz h1;obtain ⟨_, o2, h5, _⟩ := zEb hz h2;exact g.inj _ _ _ _ h4 h5 h3
 · obtain ⟨_, o1, h4, _⟩ := zEb hz h1;exact g.known _ _ h4
 · obtain ⟨_, o1, h4, _⟩ := zEb hz h1;exact g.base _ _ h4
 · obtain ⟨hD, o1, h4, h5⟩ := zEb hz h1;have ho := g.obj _ _ h4;rcases h5 with rfl | ⟨sz, rs, rs2, rfl, rfl, hl, hw, hcell, hf⟩ | ⟨es, es2, bs, clk, rfl, rfl, hl, hf⟩
   · exact ObjOK.le (zKy hz) rfl rfl rfl ho
   · obtain ⟨c, T, a1, a2, a3, a4, a5, a6, a7⟩ := ho;refine ⟨c, T, a1, a2, by rw [hl]; exact a3, a4, hw, hcell, fun i j row' p' h6 h7 => ?_⟩;have hi : i < rs2.length := (List.getElem?_eq_some_iff.1 h6).1;obtain ⟨row, hrow⟩ : ∃ row, rs[i]? = some row := ⟨_, List.getElem?_eq_getElem (by omega)⟩
     have hj : j < row'.length := (List.getElem?_eq_some_iff.1 h7).1;have hl1 := hw row' (List.mem_of_getElem? h6);have hl2 := a5 row (List.mem_of_getElem? hrow);obtain ⟨p, hpj⟩ : ∃ p, row[j]? = some p := ⟨_, List.getElem?_eq_getElem (by omega)⟩
     obtain ⟨v, h8, h9⟩ := a7 i j row p hrow hpj;exact ⟨v, h8, zJZ g hz (hf i j row row' p p' hrow h6 hpj h7) h9⟩
   · obtain ⟨ents, a1, a2, a3, a4, a5, a6⟩ := ho
     have hmv : ∀ p ∈ es2, mval p.2 = true := fun p hp => by
       obtain ⟨i, hi⟩ := List.mem_iff_getElem?.1 hp;have hlt := (List.getElem?_eq_some_iff.1 hi).1;obtain ⟨p0, hp0⟩ : ∃ p0, es[i]? = some p0 := ⟨_, List.getElem?_eq_getElem (by omega)⟩
       rcases (hf i p0 p hp0 hi).1 with h | h
       · rw [h]; exact a3 p0 (List.mem_of_getElem? hp0)
       · exact h
     refine ⟨ents, a1, by rw [a2, hl], hmv, fun i e p h6 h7 => ?_, a5, a6⟩;have hi : i < es2.length := (List.getElem?_eq_some_iff.1 h7).1;obtain ⟨p0, hp0⟩ : ∃ p0, es[i]? = some p0 := ⟨_, List.getElem?_eq_getElem (by omega)⟩
     obtain ⟨h8, h9⟩ := a4 i e p0 h6 hp0;obtain ⟨_, e1, e2⟩ := hf i p0 p hp0 h7;exact ⟨by rw [e1]; exact h8.le (zKy hz), zJZ g hz e2 h9⟩
end
theorem zAy.thaw {f : FuncId} {args : List PV} {h : Heap} {cnt : Nat → Nat} {R R2 : PV → Heap → (Nat → Nat) → Prop} (hc : zAy P f args h cnt R)
   (hR : ∀ v h' c', R v h' c' → ∃ D h2 v2, HFrz h' h2 D ∧ Frz h' D v v2 ∧ R2 v2 h2 c') (hkn : True) : zAy P f args h cnt R2 := by
 refine ⟨hc.1, fun E vs g hh hcn htt hsz hrep => (hc.2 E vs g hh hcn htt hsz hrep).mono ?_⟩
 rintro e w' ⟨u, v, E', rfl, hRv, rfl, g', hle, hbl, hu⟩
 obtain ⟨D, h2, v2, hz, hf, hR2⟩ := hR _ _ _ hRv;exact ⟨u, v2, { E' with h := h2 }, rfl, hR2, rfl, frz_good g' hz, hle.trans (zKy hz) g.known, hbl, zJZ g' hz hf hu⟩
end Go.Pv
namespace Go.Proofs
open Go.Shelf
def Tryz.growG_ren : Go.Shelf.Ren := ⟨fun | 4 => 81 | n => n, fun | 22 => 33 | 25 => 3 | 3 => 3 | 4 => 4 | 9 => 9 | 20 => 20 | 0 => 0 | n => n, fun | n => n⟩
theorem Tryz.growG : Go.Proofs.Lays8.n4 Tryz.prog Tryz.growG_ren := {
 mixed := by kernel_rfl
 f4 := ⟨Tryz.f81.name, by decide, Tryz.func81.trans (congrArg some (by kernel_rfl))⟩
 t0 := Tryz.underlying0
 a0 := Tryz.isAgg0
 z0 := Tryz.sizeOf0
 v0 := Tryz.zeroValue0
 t3 := Tryz.underlying3
 a3 := Tryz.isAgg3
 z3 := Tryz.sizeOf3
 v3 := Tryz.zeroValue3
 t4 := Tryz.underlying4
 a4 := Tryz.isAgg4
 z4 := Tryz.sizeOf4
 v4 := Tryz.zeroValue4
 t9 := Tryz.underlying9
 a9 := Tryz.isAgg9
 z9 := Tryz.sizeOf9
 v9 := Tryz.zeroValue9
 t20 := Tryz.underlying20
 a20 := Tryz.isAgg20
 z20 := Tryz.sizeOf20
 v20 := Tryz.zeroValue20
 t22 := Tryz.underlying33
 a22 := Tryz.isAgg33
 z22 := Tryz.sizeOf33
 v22 := Tryz.zeroValue33 }
end Go.Proofs
namespace Go.Proofs.YtnbcmoaofmkjhaaGreatDoor.E7
open Go Go.Proofs Go.RowKit Go.Shelf Go.Pv
theorem growP (base : Option Addr) (n : Nat) (h0 : 0 < n) (h1 : n ≤ 1000000) (w : World) : Calls Tryz.prog 81 #[.slice base 0 0, .int .i64 n] w fun e w' => ∃ (c : Nat) (cells : Array Value) (T : TypeId), e = .returned (.slice (some ⟨w.heap.size, 0, none⟩) 0 c) ∧ w' = w.drew.alloc (.cells cells T) ∧ cells.size = c * 1 := by
 obtain ⟨z, hz, hzs⟩ := zDK (P := Tryz.prog) (t := 3) (by kernel_rfl);obtain ⟨v, i, hi, hv, _, hlen⟩ := zDq (E := zA5 w (fun _ => False) true) hz;have ht : zAr Tryz.prog 3 = 1 := by kernel_rfl
 have hsz : i.size = 1 := by rw [← ht]; unfold zAr Program.cellsOf; rw [hi]; rfl
 have hby : i.bytes ≤ 100000 := by
   have h2 : Nat.ble (Tryz.prog.bytesOf 3) 100000 = true := by kernel_rfl
   have h3 := Nat.le_of_ble_eq_true h2;have h4 : Tryz.prog.bytesOf 3 = i.bytes := by unfold Program.bytesOf; rw [hi]; rfl
   omega
 have hbig : (0 + n) * i.bytes ≤ 140737488355328 := by
   have := Nat.mul_le_mul h1 hby;rw [Nat.zero_add]; omega
 refine (Any8.slices_Grow_grow Tryz.growG i v hi hv (by omega) base 0 0 n [] w (Nat.le_refl _) (by omega) hbig (by omega) (by simp) (fun _ => rfl) (fun _ _ _ _ h => by simp at h)).mono ?_
 rintro e w' ⟨rfl, rfl⟩
 refine ⟨_, _, _, rfl, rfl, ?_⟩;have hc : v.cells.size = 1 := by rw [← hlen, hzs, ht]
 have hge := grownCap_ge w (0 + n) 0 (Tryz.growG_ren.t 25);generalize grownCap w (0 + n) 0 (Tryz.growG_ren.t 25) = gc at hge;simp only [Array.size_append, List.size_toArray, List.length_nil, size_zeroCells, hc, ← Nat.add_mul, Nat.zero_add, Nat.sub_zero];have e : n + (gc - n) = gc := by omega
 rw [e]
theorem growH {h : Heap} {c : Nat → Nat} {R : PV → Heap → (Nat → Nat) → Prop} (site n : Nat) (h0 : 0 < n) (h1 : n ≤ 1000000) (hR : R (.ref (site, c site) 1 0 0) (hset h (site, c site) (some (.rows 1 []))) (cset c site)) : zAy Tryz.prog 81 [.nil, .int n] h c R :=
 grow_core (by kernel_rfl) (by omega) (fun b w => growP b n h0 h1 w) hR
theorem growP0 (base : Option Addr) (w : World) : Calls Tryz.prog 81 #[.slice base 0 0, .int .i64 0] w fun e w' => e = .returned (.slice base 0 0) ∧ w' = w :=
 Any8.slices_Grow_room Tryz.growG base 0 0 0 w (by omega) (by omega) (by omega) (by omega)
theorem grow0 {h : Heap} {c : Nat → Nat} {R : PV → Heap → (Nat → Nat) → Prop} (hR : R .nil h c) : zAy Tryz.prog 81 [.nil, .int 0] h c R := by
 refine ⟨by kernel_rfl, fun E vs gE hh hcn htt hvs hrep => ?_⟩;subst hh;subst hcn;obtain ⟨v0, v1, rfl⟩ := arr2' hvs;have h0 := hrep 0 v0 _ rfl rfl;have h1 := hrep 1 v1 _ rfl rfl;cases h0 with
 | nil =>
 have hv1 : v1 = .int .i64 0 := h1.sc_inv;subst hv1;refine (growP0 _ E.w).mono ?_
 rintro e w' ⟨rfl, rfl⟩
 exact ⟨_, .nil, E, rfl, hR, rfl, gE, EnvLe.refl E, Below.refl _ _, .nil⟩
theorem growC {h : Heap} {c : Nat → Nat} (n : Nat) (h1 : n ≤ 1000000) : zAy Tryz.prog 81 [.nil, .int n] h c fun v h' _ => zAq h' 33 v 1 [] := by
 by_cases h0 : n = 0
 · subst h0; exact grow0 .nil
 · exact growH 33 n (by omega) h1 (.ofRef (zBk _ _ _) rfl)
end Go.Proofs.YtnbcmoaofmkjhaaGreatDoor.E7
set_option maxRecDepth 100000
namespace Go.Proofs
open Go.Shelf
def Tryz.lays189_ren : Go.Shelf.Ren := ⟨fun | 189 => 63 | 125 => 86 | 257 => 85 | 128 => 106 | 129 => 107 | 294 => 97 | 295 => 98 | 296 => 99 | 297 => 100 | 298 => 101 | 299 => 102 | 216 => 103 | 300 => 104 | 301 => 105 | 328 => 112 | 329 => 113 | 330 => 114 | 331 => 115 | 332 => 116 | 215 => 117 | 343 => 120 | n => n, fun | 28 => 33 | 3 => 3 | 46 => 95 | 0 => 0 | 51 => 158 | 53 => 144 | 4 => 4 | 183 => 152 | 182 => 151 | 131 => 139 | 5 => 5 | 9 => 9 | 218 => 163 | 222 => 167 | 228 => 169 | 229 => 170 | n => n, fun | n => n⟩
theorem Tryz.lays189 : Go.Proofs.Lays.n189 Tryz.prog Tryz.lays189_ren := {
 mixed := by kernel_rfl
 f125 := Tryz.func86.trans (congrArg some (by kernel_rfl))
 f128 := Tryz.func106.trans (congrArg some (by kernel_rfl))
 f129 := Tryz.func107.trans (congrArg some (by kernel_rfl))
 f189 := Tryz.func63.trans (congrArg some (by kernel_rfl))
 f215 := Tryz.func117.trans (congrArg some (by kernel_rfl))
 f216 := Tryz.func103.trans (congrArg some (by kernel_rfl))
 f257 := Tryz.func85.trans (congrArg some (by kernel_rfl))
 f294 := Tryz.func97.trans (congrArg some (by kernel_rfl))
 f295 := Tryz.func98.trans (congrArg some (by kernel_rfl))
 f296 := Tryz.func99.trans (congrArg some (by kernel_rfl))
 f297 := Tryz.func100.trans (congrArg some (by kernel_rfl))
 f298 := Tryz.func101.trans (congrArg some (by kernel_rfl))
 f299 := Tryz.func102.trans (congrArg some (by kernel_rfl))
 f300 := Tryz.func104.trans (congrArg some (by kernel_rfl))
 f301 := Tryz.func105.trans (congrArg some (by kernel_rfl))
 f328 := Tryz.func112.trans (congrArg some (by kernel_rfl))
 f329 := Tryz.func113.trans (congrArg some (by kernel_rfl))
 f330 := Tryz.func114.trans (congrArg some (by kernel_rfl))
 f331 := Tryz.func115.trans (congrArg some (by kernel_rfl))
 f332 := Tryz.func116.trans (congrArg some (by kernel_rfl))
 f343 := Tryz.func120.trans (congrArg some (by kernel_rfl))
 t0 := Tryz.underlying0
 a0 := Tryz.isAgg0
 z0 := Tryz.sizeOf0
 v0 := Tryz.zeroValue0
 t3 := Tryz.underlying3
 a3 := Tryz.isAgg3
 z3 := Tryz.sizeOf3
 v3 := Tryz.zeroValue3
 t4 := Tryz.underlying4
 a4 := Tryz.isAgg4
 z4 := Tryz.sizeOf4
 v4 := Tryz.zeroValue4
 t5 := Tryz.underlying5
 a5 := Tryz.isAgg5
 z5 := Tryz.sizeOf5
 v5 := Tryz.zeroValue5
 t9 := Tryz.underlying9
 a9 := Tryz.isAgg9
 z9 := Tryz.sizeOf9
 v9 := Tryz.zeroValue9
 t28 := Tryz.underlying33
 a28 := Tryz.isAgg33
 z28 := Tryz.sizeOf33
 v28 := Tryz.zeroValue33
 t46 := Tryz.underlying95
 a46 := Tryz.isAgg95
 z46 := Tryz.sizeOf95
 v46 := Tryz.zeroValue95
 t51 := Tryz.underlying158
 a51 := Tryz.isAgg158
 z51 := Tryz.sizeOf158
 v51 := Tryz.zeroValue158
 t53 := Tryz.underlying144
 a53 := Tryz.isAgg144
 z53 := Tryz.sizeOf144
 v53 := Tryz.zeroValue144
 t131 := Tryz.underlying139
 a131 := Tryz.isAgg139
 z131 := Tryz.sizeOf139
 v131 := Tryz.zeroValue139
 t182 := Tryz.underlying151
 a182 := Tryz.isAgg151
 z182 := Tryz.sizeOf151
 v182 := Tryz.zeroValue151
 t183 := Tryz.underlying152
 a183 := Tryz.isAgg152
 z183 := Tryz.sizeOf152
 v183 := Tryz.zeroValue152
 t218 := Tryz.underlying163
 a218 := Tryz.isAgg163
 z218 := Tryz.sizeOf163
 v218 := Tryz.zeroValue163
 t222 := Tryz.underlying167
 a222 := Tryz.isAgg167
 z222 := Tryz.sizeOf167
 v222 := Tryz.zeroValue167
 t228 := Tryz.underlying169
 a228 := Tryz.isAgg169
 z228 := Tryz.sizeOf169
 v228 := Tryz.zeroValue169
 t229 := Tryz.underlying170
 a229 := Tryz.isAgg170
 z229 := Tryz.sizeOf170
 v229 := Tryz.zeroValue170 }
open Go.RowKit Go.Sort in
theorem Tryz.slices_Sort_int (blk off cap : Nat) (zs : List Int) (w : World) (hH : Holds (Value.int .i64) w blk off zs.toArray) (hblk : blk < w.heap.size) (hsz : zs.length < 4611686018427387904) :
   Calls Tryz.prog 63 #[.slice (some ⟨blk, off, none⟩) zs.length cap] w fun e w' => e = .returned (.tuple #[]) ∧ ∃ n os, w' = grow (putRow (Value.int .i64) (Sort.ahead w n) blk off (zs.mergeSort fun x y => decide (x ≤ y)).toArray) os := Any.slices_Sort_int Tryz.lays189 blk off cap zs w hH hblk hsz
open Go.RowKit in
theorem Tryz.slices_Sort_none (p : Option Addr) (cap : Nat) (w : World) :
   Calls Tryz.prog 63 #[.slice p 0 cap] w fun e w' => e = .returned (.tuple #[]) ∧ w' = w := Any.slices_Sort_int_none Tryz.lays189 p cap w
def Tryz.laysB20_ren : Go.Shelf.Ren := ⟨fun | 20 => 64 | n => n, fun | 22 => 33 | 3 => 3 | 4 => 4 | 0 => 0 | n => n, fun | n => n⟩
theorem Tryz.laysB20 : Go.Proofs.Lays2.n20 Tryz.prog Tryz.laysB20_ren := {
 mixed := by kernel_rfl
 f20 := Tryz.func64.trans (congrArg some (by kernel_rfl))
 t0 := Tryz.underlying0
 a0 := Tryz.isAgg0
 z0 := Tryz.sizeOf0
 v0 := Tryz.zeroValue0
 t3 := Tryz.underlying3
 a3 := Tryz.isAgg3
 z3 := Tryz.sizeOf3
 v3 := Tryz.zeroValue3
 t4 := Tryz.underlying4
 a4 := Tryz.isAgg4
 z4 := Tryz.sizeOf4
 v4 := Tryz.zeroValue4
 t22 := Tryz.underlying33
 a22 := Tryz.isAgg33
 z22 := Tryz.sizeOf33
 v22 := Tryz.zeroValue33
 i3 := by kernel_rfl }
open Go.RowKit Go.Sort in
theorem Tryz.slices_Compact_int (blk off cap : Nat) (zs : List Int) (w : World) (hH : Holds (Value.int .i64) w blk off zs.toArray) (hsz : zs.length ≤ 9223372036854775807) (hcap : zs.length ≤ cap) :
   Calls Tryz.prog 64 #[.slice (some ⟨blk, off, none⟩) zs.length cap] w fun e w' => e = .returned (.slice (some ⟨blk, off, none⟩) (Lib.compact zs).length cap) ∧ ∃ q, w' = putRow (Value.int .i64) (Sort.ahead w q) blk off (Lib.compact zs ++ List.replicate (zs.length - (Lib.compact zs).length) 0).toArray := Any.slices_Compact_int Tryz.laysB20 blk off cap zs w hH hsz hcap
open Go.RowKit in
theorem Tryz.slices_Compact_none (a : Option Addr) (cap : Nat) (w : World) :
   Calls Tryz.prog 64 #[.slice a 0 cap] w fun e w' => e = .returned (.slice a 0 cap) ∧ w' = w := Any.slices_Compact_int_empty Tryz.laysB20 a cap w
def Tryz.lays171_ren : Go.Shelf.Ren := ⟨fun | 171 => 23 | 243 => 56 | 246 => 80 | 283 => 92 | 284 => 93 | 285 => 94 | 286 => 95 | 129 => 107 | 317 => 108 | 318 => 109 | 319 => 110 | 320 => 111 | 337 => 118 | 338 => 119 | n => n, fun | 3 => 3 | 9 => 9 | 2 => 2 | 4 => 4 | 171 => 143 | 0 => 0 | 53 => 144 | 37 => 117 | 5 => 5 | 173 => 147 | 212 => 161 | 51 => 158 | 20 => 20 | 213 => 162 | 46 => 95 | 232 => 172 | 233 => 173 | n => n, fun | 17 => 0 | 18 => 1 | 19 => 2 | n => n⟩
theorem Tryz.lays171 : Go.Proofs.Lays.n171 Tryz.prog Tryz.lays171_ren := {
 mixed := by kernel_rfl
 f129 := Tryz.func107.trans (congrArg some (by kernel_rfl))
 f171 := Tryz.func23.trans (congrArg some (by kernel_rfl))
 f243 := Tryz.func56.trans (congrArg some (by kernel_rfl))
 f246 := Tryz.func80.trans (congrArg some (by kernel_rfl))
 f283 := Tryz.func92.trans (congrArg some (by kernel_rfl))
 f284 := Tryz.func93.trans (congrArg some (by kernel_rfl))
 f285 := Tryz.func94.trans (congrArg some (by kernel_rfl))
 f286 := Tryz.func95.trans (congrArg some (by kernel_rfl))
 f317 := Tryz.func108.trans (congrArg some (by kernel_rfl))
 f318 := Tryz.func109.trans (congrArg some (by kernel_rfl))
 f319 := Tryz.func110.trans (congrArg some (by kernel_rfl))
 f320 := Tryz.func111.trans (congrArg some (by kernel_rfl))
 f337 := Tryz.func118.trans (congrArg some (by kernel_rfl))
 f338 := Tryz.func119.trans (congrArg some (by kernel_rfl))
 t0 := Tryz.underlying0
 a0 := Tryz.isAgg0
 z0 := Tryz.sizeOf0
 v0 := Tryz.zeroValue0
 t2 := Tryz.underlying2
 a2 := Tryz.isAgg2
 z2 := Tryz.sizeOf2
 v2 := Tryz.zeroValue2
 t3 := Tryz.underlying3
 a3 := Tryz.isAgg3
 z3 := Tryz.sizeOf3
 v3 := Tryz.zeroValue3
 t4 := Tryz.underlying4
 a4 := Tryz.isAgg4
 z4 := Tryz.sizeOf4
 v4 := Tryz.zeroValue4
 t5 := Tryz.underlying5
 a5 := Tryz.isAgg5
 z5 := Tryz.sizeOf5
 v5 := Tryz.zeroValue5
 t9 := Tryz.underlying9
 a9 := Tryz.isAgg9
 z9 := Tryz.sizeOf9
 v9 := Tryz.zeroValue9
 t20 := Tryz.underlying20
 a20 := Tryz.isAgg20
 z20 := Tryz.sizeOf20
 v20 := Tryz.zeroValue20
 t37 := Tryz.underlying117
 a37 := Tryz.isAgg117
 z37 := Tryz.sizeOf117
 v37 := Tryz.zeroValue117
 t46 := Tryz.underlying95
 a46 := Tryz.isAgg95
 z46 := Tryz.sizeOf95
 v46 := Tryz.zeroValue95
 t51 := Tryz.underlying158
 a51 := Tryz.isAgg158
 z51 := Tryz.sizeOf158
 v51 := Tryz.zeroValue158
 t53 := Tryz.underlying144
 a53 := Tryz.isAgg144
 z53 := Tryz.sizeOf144
 v53 := Tryz.zeroValue144
 t171 := Tryz.underlying143
 a171 := Tryz.isAgg143
 z171 := Tryz.sizeOf143
 v171 := Tryz.zeroValue143
 t173 := Tryz.underlying147
 a173 := Tryz.isAgg147
 z173 := Tryz.sizeOf147
 v173 := Tryz.zeroValue147
 t212 := Tryz.underlying161
 a212 := Tryz.isAgg161
 z212 := Tryz.sizeOf161
 v212 := Tryz.zeroValue161
 t213 := Tryz.underlying162
 a213 := Tryz.isAgg162
 z213 := Tryz.sizeOf162
 t232 := Tryz.underlying172
 a232 := Tryz.isAgg172
 z232 := Tryz.sizeOf172
 v232 := Tryz.zeroValue172
 t233 := Tryz.underlying173
 a233 := Tryz.isAgg173
 z233 := Tryz.sizeOf173
 v233 := Tryz.zeroValue173
 g17 := by kernel_rfl
 g18 := by kernel_rfl
 g19 := by kernel_rfl }
open Go.RowKit in
theorem Tryz.strconv_Itoa_small (i : Nat) (hi : i < 100) (w : World) :
   Calls Tryz.prog 23 #[.int .i64 i] w fun e w' => e = .returned (.string ⟨(Lib.decDigits i).toArray⟩) ∧ w' = w := Any.strconv_Itoa_small Tryz.lays171 i hi w
end Go.Proofs
namespace Go.Proofs.YtnbcmoaofmkjhaaGreatDoor.E7
open Go Go.Pv Go.Proofs Go.RowKit Go.Proofs.YtnbcmoaofmkjhaaGreatDoor
def srtI (xs : List Int) : List Int := xs.mergeSort fun x y => decide (x ≤ y)
def setI (xs : List Int) : List Int := Lib.compact (srtI xs)
theorem zCl {xs : List Int} : (srtI xs).length = xs.length := List.length_mergeSort _
theorem srtI_mem {xs : List Int} {z : Int} : z ∈ srtI xs ↔ z ∈ xs := List.mem_mergeSort
theorem zKP {xs : List Int} : (srtI xs).Pairwise (· ≤ ·) := by
 have h := List.pairwise_mergeSort (le := fun x y : Int => decide (x ≤ y)) (fun a b c h1 h2 => by simp only [decide_eq_true_eq] at *; omega) (fun a b => by simp only [Bool.or_eq_true, decide_eq_true_eq]; omega) xs;exact h.imp fun h => by simpa using h
theorem zH5 {xs : List Int} (hp : xs.Pairwise (· ≤ ·)) : ∀ m, m ≤ xs.length → (Lib.compactUpTo xs.toArray m).Pairwise (· < ·) ∧ (∀ z, z ∈ Lib.compactUpTo xs.toArray m ↔ ∃ j, j < m ∧ xs[j]? = some z)
 | 0, _ => ⟨by simp [Lib.compactUpTo], fun z => by simp [Lib.compactUpTo]⟩
 | m + 1, hm => by
   obtain ⟨h1, h2⟩ := zH5 hp m (by omega);rw [Lib.compactUpTo_succ];obtain ⟨z, hz⟩ : ∃ z, xs[m]? = some z := ⟨_, List.getElem?_eq_getElem (by omega)⟩
   have hzb : (xs.toArray)[m]! = z := zG0 hz;by_cases hm0 : m = 0
   · subst hm0;have hk : Lib.keeps xs.toArray 0 = true := by simp [Lib.keeps]
     rw [if_pos hk, hzb];have h0 : Lib.compactUpTo xs.toArray 0 = [] := by simp [Lib.compactUpTo]
     rw [h0];refine ⟨by simp, fun y => ?_⟩;constructor
     · intro h; simp at h; subst h; exact ⟨0, by omega, hz⟩
     · rintro ⟨j, hj, he⟩
       have : j = 0 := by omega
       subst this; rw [hz] at he; cases he; simp
   · obtain ⟨y, hy⟩ : ∃ y, xs[m - 1]? = some y := ⟨_, List.getElem?_eq_getElem (by omega)⟩
     have hyb : (xs.toArray)[m - 1]! = y := zG0 hy
     have hle : ∀ j x, j < m → xs[j]? = some x → x ≤ y := fun j x hj hx => by
       by_cases hjm : j = m - 1
       · subst hjm; rw [hy] at hx; cases hx; exact Int.le_refl _
       · obtain ⟨l1, e1⟩ := List.getElem?_eq_some_iff.1 hx;obtain ⟨l2, e2⟩ := List.getElem?_eq_some_iff.1 hy;have := List.pairwise_iff_getElem.1 hp j (m - 1) l1 l2 (by omega);rw [e1, e2] at this; exact this
     have hyz : y ≤ z := by
       obtain ⟨l1, e1⟩ := List.getElem?_eq_some_iff.1 hy;obtain ⟨l2, e2⟩ := List.getElem?_eq_some_iff.1 hz;have := List.pairwise_iff_getElem.1 hp (m - 1) m l1 l2 (by omega);rw [e1, e2] at this; exact this
     by_cases he : z = y
     · have hk : Lib.keeps xs.toArray m = false := Lib.keeps_neg (by omega) (by rw [hzb, hyb, he]);rw [hk];simp only [Bool.false_eq_true, if_false, List.append_nil];refine ⟨h1, fun x => (h2 x).trans ⟨fun ⟨j, hj, hx⟩ => ⟨j, by omega, hx⟩, fun ⟨j, hj, hx⟩ => ?_⟩⟩;by_cases hjm : j = m
       · subst hjm; rw [hz] at hx; cases hx; exact ⟨j - 1, by omega, by rw [hy, he]⟩
       · exact ⟨j, by omega, hx⟩
     · have hk : Lib.keeps xs.toArray m = true := Lib.keeps_pos (by rw [hzb, hyb]; exact he);rw [if_pos hk, hzb];refine ⟨List.pairwise_append.2 ⟨h1, by simp, fun a ha b hb => ?_⟩, fun x => ?_⟩
       · obtain ⟨j, hj, hx⟩ := (h2 a).1 ha;have := hle j a hj hx;simp at hb; subst hb; omega
       · rw [List.mem_append, List.mem_singleton, h2 x];constructor
         · rintro (⟨j, hj, hx⟩ | rfl)
           · exact ⟨j, by omega, hx⟩
           · exact ⟨m, by omega, hz⟩
         · rintro ⟨j, hj, hx⟩
           by_cases hjm : j = m
           · subst hjm; rw [hz] at hx; cases hx; exact .inr rfl
           · exact .inl ⟨j, by omega, hx⟩
theorem setI_pw {xs : List Int} : (setI xs).Pairwise (· < ·) := (zH5 zKP _ (Nat.le_refl _)).1
theorem setI_mem {xs : List Int} {z : Int} : z ∈ setI xs ↔ z ∈ xs := by
 rw [setI, Lib.compact, (zH5 zKP _ (Nat.le_refl _)).2 z, ← srtI_mem];constructor
 · rintro ⟨j, _, h⟩; exact List.mem_of_getElem? h
 · intro h;obtain ⟨j, hj⟩ := List.getElem?_of_mem h;exact ⟨j, (List.getElem?_eq_some_iff.1 hj).1, hj⟩
theorem zLq : ∀ {l m : List Int}, l.Pairwise (· < ·) → m.Pairwise (· < ·) → (∀ z, z ∈ l ↔ z ∈ m) → l = m
 | [], [], _, _, _ => rfl
 | [], b :: m, _, _, h => by have := (h b).2 (List.mem_cons_self ..); cases this
 | a :: l, [], _, _, h => by have := (h a).1 (List.mem_cons_self ..); cases this
 | a :: l, b :: m, hl, hm, h => by
   rw [List.pairwise_cons] at hl hm
   have hab : a = b := by
     have h1 := (h a).1 (List.mem_cons_self ..);have h2 := (h b).2 (List.mem_cons_self ..);rcases List.mem_cons.1 h1 with h1 | h1
     · exact h1
     · rcases List.mem_cons.1 h2 with h2 | h2
       · exact h2.symm
       · have := hm.1 a h1; have := hl.1 b h2; omega
   subst hab;rw [zLq hl.2 hm.2 fun z => ?_];constructor
   · intro hz;have h1 := (h z).1 (List.mem_cons_of_mem _ hz);rcases List.mem_cons.1 h1 with h1 | h1
     · subst h1; have := hl.1 z hz; omega
     · exact h1
   · intro hz;have h1 := (h z).2 (List.mem_cons_of_mem _ hz);rcases List.mem_cons.1 h1 with h1 | h1
     · subst h1; have := hm.1 z hz; omega
     · exact h1
section
variable {k : Key} {xs : List Int} {h0 : Heap} {c0 : Nat → Nat}
theorem sortH (hk : h0 k = some (.rows 1 (xs.map ci))) (hx : xs.length ≤ 1000000) : zAy Tryz.prog 63 [.ref k 1 0 xs.length] h0 c0 (fun _ h c => h k = some (.rows 1 ((srtI xs).map ci)) ∧ (∀ k', k' ≠ k → h k' = h0 k') ∧ c = c0) :=
 zAy.ownRow (by kernel_rfl) hk zCl (fun blk off cap w _ h2 h3 => Tryz.slices_Sort_int blk off cap xs w h2 h3 (by omega)) (fun a cap w => Tryz.slices_Sort_none a cap w)
theorem compactH (hk : h0 k = some (.rows 1 (xs.map ci))) (hx : xs.length ≤ 1000000) (hne : xs ≠ []) : zAy Tryz.prog 64 [.ref k 1 0 xs.length] h0 c0 (fun v h c => v = .ref k 1 0 (Lib.compact xs).length ∧ h k = some (.rows 1 ((Lib.compact xs ++ List.replicate (xs.length - (Lib.compact xs).length) 0).map ci)) ∧ (∀ k', k' ≠ k → h k' = h0 k') ∧ c = c0) := by
 have hl := Lib.compact_length_le xs;refine zAy.ownHead (by kernel_rfl) hk (by rw [List.length_append, List.length_replicate]; omega) hl hne (fun blk off cap w h1 h2 h3 => ?_);refine (Tryz.slices_Compact_int blk off cap xs w h2 (by omega) h1).mono ?_
 rintro e w' ⟨h4, q, h5⟩
 exact ⟨h4, q, #[], by rw [h5, Sort.grow_empty]⟩
theorem sort0 : zAy Tryz.prog 63 [.nil] h0 c0 (fun _ h c => h = h0 ∧ c = c0) := by
 refine ⟨by kernel_rfl, fun E vs g hh hcn htt hsz hrep => ?_⟩;obtain ⟨v0, rfl⟩ := arr1x hsz;have h0 := hrep 0 v0 _ rfl rfl;cases h0;refine (Tryz.slices_Sort_none _ _ E.w).mono ?_
 rintro e w' ⟨rfl, rfl⟩
 exact ⟨_, .tup [], E, rfl, ⟨hh, hcn⟩, rfl, g, EnvLe.refl E, Below.refl _ _, .tup rfl fun i v p h1 h2 => by cases h2⟩
theorem compact0 : zAy Tryz.prog 64 [.nil] h0 c0 (fun v h c => v = .nil ∧ h = h0 ∧ c = c0) := by
 refine ⟨by kernel_rfl, fun E vs g hh hcn htt hsz hrep => ?_⟩;obtain ⟨v0, rfl⟩ := arr1x hsz;have h0 := hrep 0 v0 _ rfl rfl;cases h0;refine (Tryz.slices_Compact_none _ _ E.w).mono ?_
 rintro e w' ⟨rfl, rfl⟩
 exact ⟨_, .nil, E, rfl, ⟨rfl, hh, hcn⟩, rfl, g, EnvLe.refl E, Below.refl _ _, .nil⟩
end
theorem itoaS (i : Nat) (hi : i < 100) : PCalls Tryz.prog 23 [.int i] (.str ⟨(Lib.decDigits i).toArray⟩) := by
 refine ⟨.sc _, by kernel_rfl, fun w M vs hM hgw hsz hrep => ?_⟩;obtain ⟨v0, rfl⟩ := arr1x hsz;have h0 := (hrep 0 v0 _ rfl rfl).sc_inv;subst h0;exact (Tryz.strconv_Itoa_small i hi w).mono fun e w' ⟨h1, h2⟩ => by subst h2; exact ⟨_, h1, .sc rfl, Below.refl _ _⟩
open Go Go.Pv Go.Proofs.YtnbcmoaofmkjhaaGreatDoor
theorem zIP {ls : List (List Int)} {k : Nat} {l : List Int} (ht : ls.take (k + 1) = ls.take k ++ [l]) : (ls.take (k + 1)).flatten = (ls.take k).flatten ++ l := by rw [ht]; simp
theorem zLj {ls : List (List Int)} {k : Nat} : (ls.take k).flatten.length ≤ ls.flatten.length := by
 have : ls.flatten = (ls.take k).flatten ++ (ls.drop k).flatten := by rw [← List.flatten_append, List.take_append_drop]
 rw [this, List.length_append]; omega
theorem ints_out {h : Heap} {v : PV} {d : Nat} {xs : List Int} (hv : zAq h d v 1 (xs.map ci)) : Out h v (.lit false 1 (xs.map ci)) := by
 refine zDM hv rfl (fun _ => rfl) fun a p hp => ?_;simp only [ci, List.mem_cons, List.not_mem_nil, or_false] at hp;subst hp;exact ⟨.sc _, rfl⟩
theorem concatO (ls : List (List Int)) (hll : ls.length ≤ 1000000) (hl : ls.flatten.length ≤ 1000000) : zAy Tryz.prog 58 [.lit true 1 (ls.map cl)] (fun _ => none) (fun _ => 0) (fun v h _ => zAq h 33 v 1 (ls.flatten.map ci)) := by
 refine hco Tryz.func58 rfl rfl (zAa rfl fun K1 hK1 => p_e rfl (zAs (v := .nil) rfl) (p_end (hK1 _ ?_)));refine zAa rfl fun K2 hK2 => p_aS rfl (p_end (hK2 _ ?_));refine zAf (zAa rfl fun K3 hK3 => p_e rfl (zAi (v := .lit _ _ _) rfl) (p_e rfl (e_len rfl (by kernel_rfl)) (p_mS rfl (p_end (hK3 _ ?_)))));refine zAg fun K4 hK4 => zAE (α := Nat × Int) [0, 9, 10] (fun (a5 : Nat × Int) => [(3, .int (a5.2)), (11, .int (a5.1))]) (fun (a5 : Nat × Int) (h : Heap) (_ : Nat → Nat) => ((a5.1) ≤ ls.length) ∧ ((a5.2) = (((ls.take (a5.1)).flatten.length : Nat) : Int))) (fun (a5 : Nat × Int) => ls.length - (a5.1)) (0, 0) (by exact ⟨rfl, rfl, trivial⟩) (by exact ⟨by exact Nat.zero_le _, by exact rfl⟩) fun a5 r6 h7 c8 hj9 => ?_;obtain ⟨k, n⟩ := a5;obtain ⟨hk, hnn⟩ := hj9;try dsimp only at hk
 try dsimp only at hnn
 show pwp _ _ (loopQ _ _ _) ⟨sets (mix _ _ _) [(3, .int n), (11, .int k)], _, _⟩;refine zAa rfl fun K10 hK10 => p_e rfl (e_lt rfl rfl) (p_end (hK10 _ ?_));refine zAe rfl fun K11 hK11 => ⟨fun hb12 => ?_, fun hb12 => ?_⟩
 ·have hb12R := hb12; try simp only [zz] at hb12
  obtain ⟨l, hx, hd, ht⟩ := zBx (xs := ls) (i := k) (by omega);have hf0 := zIP ht;have hf1 := zLj (ls := ls) (k := k + 1);rw [hf0, List.length_append] at hf1;refine zAl (zAb (hK11 _ ?_));refine zAg fun K13 hK13 => zAa rfl fun K14 hK14 => p_e rfl (e_ixL rfl rfl) (p_e rfl (e_lL (v := .lit _ _ _) rfl ((zAV hx _).trans rfl)) (p_e rfl (zAs (v := .lit _ _ _) rfl) (p_end (hK14 _ ?_))));refine zAa rfl fun K15 hK15 => p_mS rfl (p_e rfl (zAi (v := .lit _ _ _) rfl) (p_e rfl (e_len rfl (by kernel_rfl)) (p_e rfl (e_adL rfl rfl) (p_aS rfl (p_end (hK15 _ ?_))))));refine zAa rfl fun K16 hK16 => p_mS rfl (p_e rfl (e_lt rfl rfl) (p_end (hK16 _ ?_)));refine zAt rfl (fun hb17 => ?_) (fun hb17 => ?_)
  ·have hb17T := hb17; try simp only [zz] at hb17
   exfalso; omega
  have hb17F := hb17; try simp only [zz] at hb17
  refine zAl (zAj (zAb (hK13 _ ?_)));refine zAn rfl fun K18 hK18 => p_e rfl (e_adL rfl rfl) (p_mS rfl (p_end (hK18 _ ?_)));exact zAo ((k + 1, (n + ((((l).map ci).length : Nat) : Int)))) (by show _ < _; simp only; omega) ⟨rfl, rfl, rfl, trivial⟩ ⟨rfl, rfl, trivial⟩ (by exact ⟨by show _ + 1 ≤ _; simp only [lM] at *; omega, by (rw [hf0, List.length_append]; simp only [lM] at *; omega)⟩)
 have hb12R := hb12; try simp only [zz] at hb12
 obtain rfl : k = ls.length := by simp only [lM] at *; omega
 have hfl : (ls.take ls.length).flatten.length ≤ 1000000 := by rw [List.take_length]; exact hl
 subst hnn;refine zAJ (zAK ?_);clear hK11 K11;refine zAC (zAA (zAb (hK4 _ ?_)));refine zAa rfl fun K19 hK19 => p_mS rfl (zBc rfl (growC _ hfl) fun v24 h24 c24 hs24 => p_e rfl (zAs (v := _) rfl) (p_end (hK19 _ ?_)));refine zAf (zAa rfl fun K20 hK20 => p_e rfl (zAi (v := .lit _ _ _) rfl) (p_e rfl (e_len rfl (by kernel_rfl)) (p_mS rfl (p_end (hK20 _ ?_)))));refine zAg fun K21 hK21 => zAE (α := Nat × PV) [25, 26] (fun (a22 : Nat × PV) => [(6, (a22.2)), (27, .int (a22.1))]) (fun (a22 : Nat × PV) (h : Heap) (_ : Nat → Nat) => ((a22.1) ≤ ls.length) ∧ (zAq h 33 (a22.2) 1 ((ls.take (a22.1)).flatten.map ci))) (fun (a22 : Nat × PV) => ls.length - (a22.1)) (0, v24) (by exact ⟨rfl, rfl, trivial⟩) (by exact ⟨by exact Nat.zero_le _, hs24⟩) fun a22 r23 h24 c25 hj26 => ?_;obtain ⟨k, v⟩ := a22;obtain ⟨hk, hihj26_0⟩ := hj26;try dsimp only at hk
 try dsimp only at hihj26_0
 show pwp _ _ (loopQ _ _ _) ⟨sets (mix _ _ _) [(6, v), (27, .int k)], _, _⟩;refine zAa rfl fun K27 hK27 => p_e rfl (e_lt rfl rfl) (p_end (hK27 _ ?_));refine zAe rfl fun K28 hK28 => ⟨fun hb29 => ?_, fun hb29 => ?_⟩
 ·have hb29R := hb29; try simp only [zz] at hb29
  obtain ⟨l, hx, hd, ht⟩ := zBx (xs := ls) (i := k) (by omega);have hf0 := zIP ht;have hf1 := zLj (ls := ls) (k := k + 1);rw [hf0, List.length_append] at hf1;refine zAl (zAb (hK28 _ ?_));refine zAg fun K30 hK30 => zAa rfl fun K31 hK31 => p_e rfl (e_ixL rfl rfl) (p_e rfl (e_lL (v := .lit _ _ _) rfl ((zAV hx _).trans rfl)) (p_e rfl (zAs (v := .lit _ _ _) rfl) (p_end (hK31 _ ?_))));refine zAn rfl fun K32 hK32 => p_e rfl (zAi (v := _) rfl) (p_e rfl (zAi (v := .lit _ _ _) rfl) (p_app rfl rfl rfl hihj26_0 zJm (by kernel_rfl) (by simp only [List.length_append, lM, List.length_nil, List.length_cons]; omega) fun v33 h34 c35 hs36 hf37 => p_e rfl (zAs (v := _) rfl) (p_end (hK32 _ ?_))));refine zAj (zAb (hK30 _ ?_));refine zAn rfl fun K38 hK38 => p_e rfl (e_adL rfl rfl) (p_mS rfl (p_end (hK38 _ ?_)));exact zAo ((k + 1, v33)) (by show _ < _; simp only; omega) ⟨rfl, rfl, trivial⟩ ⟨rfl, rfl, trivial⟩ (by exact ⟨by show _ + 1 ≤ _; simp only [lM] at *; omega, (zAq.to hs36 (by (rw [← List.map_append, ← hf0])))⟩)
 have hb29R := hb29; try simp only [zz] at hb29
 obtain rfl : k = ls.length := by simp only [lM] at *; omega
 refine zAJ (zAK ?_);clear hK28 K28;refine zAC (zAA (zAb (hK21 _ ?_)));refine zAa rfl fun K39 hK39 => p_e rfl (zAi (v := _) rfl) (p_e rfl (zAs (v := _) rfl) (p_end (hK39 _ ?_)));refine zAh (end1 (v := _) rfl ?_);exact (by have := hihj26_0; rw [List.take_length] at this; exact this)
theorem e_appN {P : Program} {ρ : Operand → PV} {h : Heap} {key : Key} {t t2 : TypeId} {x y : Operand} {ts : Array TypeId} {tt : Bool} (hts : ts.toList = [t, t2]) (hx : ρ x = .nil) (hy : ρ y = .lit tt 1 []) (hok : (zAN P t && (decide (P.bytesOf (zAu P t) < 2 ^ 15) && (decide (zBm P t2 = none) && (zEg P (zAu P t) && ((P.underlying t2).isSome && decide (zAr P (zAu P t) = 1)))))) = true) :
   eff P ρ h key (.call { callee := .builtin .append, args := #[x, y], argTypes := ts }) = ⟨True, .nil, [], [], false⟩ := by
 simp only [Bool.and_eq_true, decide_eq_true_eq] at hok;obtain ⟨o1, o2, o3, o4, o5, o6⟩ := hok;show zA9 P h key .append ts.toList [ρ x, ρ y] = _;rw [hts, hx, hy];show zA3 P h key t t2 .nil (.lit tt 1 []) = _;simp [zA3, zAU, o1, o2, o3, o4, o5, o6]
theorem zJ0 {ls : List (List Int)} {k : Nat} {l : List Int} (h : ls.flatten = []) (hx : ls[k]? = some l) : l = [] := List.flatten_eq_nil_iff.1 h l (List.mem_of_getElem? hx)
theorem concatN (ls : List (List Int)) (hll : ls.length ≤ 1000000) (h0 : ls.flatten = []) : PCalls Tryz.prog 58 [.lit true 1 (ls.map cl)] .nil := by
 refine pco Tryz.func58 rfl rfl .nil (zAa rfl fun K1 hK1 => p_e rfl (zAs (v := .nil) rfl) (p_end (hK1 _ ?_)));refine zAa rfl fun K2 hK2 => p_aS rfl (p_end (hK2 _ ?_));refine zAf (zAa rfl fun K3 hK3 => p_e rfl (zAi (v := .lit _ _ _) rfl) (p_e rfl (e_len rfl (by kernel_rfl)) (p_mS rfl (p_end (hK3 _ ?_)))));refine zAg fun K4 hK4 => zAE (α := Nat × Int) [0, 9, 10] (fun (a5 : Nat × Int) => [(3, .int (a5.2)), (11, .int (a5.1))]) (fun (a5 : Nat × Int) (h : Heap) (_ : Nat → Nat) => ((a5.1) ≤ ls.length) ∧ ((a5.2) = 0)) (fun (a5 : Nat × Int) => ls.length - (a5.1)) (0, 0) (by exact ⟨rfl, rfl, trivial⟩) (by exact ⟨by exact Nat.zero_le _, by exact rfl⟩) fun a5 r6 h7 c8 hj9 => ?_;obtain ⟨k, n⟩ := a5;obtain ⟨hk, hnn⟩ := hj9;try dsimp only at hk
 try dsimp only at hnn
 show pwp _ _ (loopQ _ _ _) ⟨sets (mix _ _ _) [(3, .int n), (11, .int k)], _, _⟩;refine zAa rfl fun K10 hK10 => p_e rfl (e_lt rfl rfl) (p_end (hK10 _ ?_));refine zAe rfl fun K11 hK11 => ⟨fun hb12 => ?_, fun hb12 => ?_⟩
 ·have hb12R := hb12; try simp only [zz] at hb12
  obtain ⟨l, hx, hd, ht⟩ := zBx (xs := ls) (i := k) (by omega);have hl0 := zJ0 h0 hx;have hl1 : l.length = 0 := by rw [hl0]; rfl
  refine zAl (zAb (hK11 _ ?_));refine zAg fun K13 hK13 => zAa rfl fun K14 hK14 => p_e rfl (e_ixL rfl rfl) (p_e rfl (e_lL (v := .lit _ _ _) rfl ((zAV hx _).trans rfl)) (p_e rfl (zAs (v := .lit _ _ _) rfl) (p_end (hK14 _ ?_))));refine zAa rfl fun K15 hK15 => p_mS rfl (p_e rfl (zAi (v := .lit _ _ _) rfl) (p_e rfl (e_len rfl (by kernel_rfl)) (p_e rfl (e_adL rfl rfl) (p_aS rfl (p_end (hK15 _ ?_))))));refine zAa rfl fun K16 hK16 => p_mS rfl (p_e rfl (e_lt rfl rfl) (p_end (hK16 _ ?_)));refine zAt rfl (fun hb17 => ?_) (fun hb17 => ?_)
  ·have hb17T := hb17; try simp only [zz] at hb17
   exfalso; omega
  have hb17F := hb17; try simp only [zz] at hb17
  refine zAl (zAj (zAb (hK13 _ ?_)));refine zAn rfl fun K18 hK18 => p_e rfl (e_adL rfl rfl) (p_mS rfl (p_end (hK18 _ ?_)));exact zAo ((k + 1, (n + ((((l).map ci).length : Nat) : Int)))) (by show _ < _; simp only; omega) ⟨rfl, rfl, rfl, trivial⟩ ⟨rfl, rfl, trivial⟩ (by exact ⟨by show _ + 1 ≤ _; simp only [lM] at *; omega, by (show n + (((l.map ci).length : Nat) : Int) = 0; rw [hl0]; simp; exact hnn)⟩)
 have hb12R := hb12; try simp only [zz] at hb12
 refine zAJ (zAK ?_);clear hK11 K11;refine zAC (zAA (zAb (hK4 _ ?_)));refine zAa rfl fun K19 hK19 => p_mS rfl ?_;subst hnn;refine zBc rfl (grow0 (R := fun v h' _ => v = .nil) rfl) fun v24 h24 c24 hs24 => ?_;subst hs24;refine p_e rfl (zAs (v := .nil) rfl) (p_end (hK19 _ ?_));refine zAf (zAa rfl fun K20 hK20 => p_e rfl (zAi (v := .lit _ _ _) rfl) (p_e rfl (e_len rfl (by kernel_rfl)) (p_mS rfl (p_end (hK20 _ ?_)))));refine zAg fun K21 hK21 => zAE (α := Nat) [25, 26] (fun (k : Nat) => [(6, .nil), (27, .int (k))]) (fun (k : Nat) (h : Heap) (_ : Nat → Nat) => ((k) ≤ ls.length)) (fun (k : Nat) => ls.length - (k)) (0) (by exact ⟨rfl, rfl, trivial⟩) (by exact by exact Nat.zero_le _) fun k r22 h23 c24 hj25 => ?_;have hk := hj25; clear hj25;try dsimp only at hk
 show pwp _ _ (loopQ _ _ _) ⟨sets (mix _ _ _) [(6, .nil), (27, .int k)], _, _⟩;refine zAa rfl fun K26 hK26 => p_e rfl (e_lt rfl rfl) (p_end (hK26 _ ?_));refine zAe rfl fun K27 hK27 => ⟨fun hb28 => ?_, fun hb28 => ?_⟩
 ·have hb28R := hb28; try simp only [zz] at hb28
  obtain ⟨l, hx, hd, ht⟩ := zBx (xs := ls) (i := k) (by omega);have hl0 := zJ0 h0 hx;refine zAl (zAb (hK27 _ ?_));refine zAg fun K29 hK29 => zAa rfl fun K30 hK30 => p_e rfl (e_ixL rfl rfl) (p_e rfl (e_lL (v := .lit _ _ _) rfl ((zAV hx _).trans rfl)) (p_e rfl (zAs (v := .lit _ _ _) rfl) (p_end (hK30 _ ?_))));refine zAn rfl fun K31 hK31 => p_e rfl (zAi (v := .nil) rfl) (p_e rfl (zAi (v := .lit _ _ _) rfl) (p_e rfl (e_appN (t := 33) (t2 := 33) (tt := true) rfl rfl (show PV.lit true 1 (l.map ci) = _ by rw [hl0]; rfl) (by kernel_rfl)) (p_e rfl (zAs (v := .nil) rfl) (p_end (hK31 _ ?_)))));refine zAj (zAb (hK29 _ ?_));refine zAn rfl fun K32 hK32 => p_e rfl (e_adL rfl rfl) (p_mS rfl (p_end (hK32 _ ?_)));exact zAo (k + 1) (by show _ < _; omega) ⟨rfl, rfl, trivial⟩ ⟨rfl, rfl, trivial⟩ (by exact by show _ + 1 ≤ _; simp only [lM] at *; omega)
 have hb28R := hb28; try simp only [zz] at hb28
 refine zAJ (zAK ?_);clear hK27 K27;refine zAC (zAA (zAb (hK21 _ ?_)));refine zAa rfl fun K33 hK33 => p_e rfl (zAi (v := .nil) rfl) (p_e rfl (zAs (v := .nil) rfl) (p_end (hK33 _ ?_)));refine zAh (end1 (v := .nil) rfl ?_);exact .clean .nil
theorem cloneZ  : PCalls Tryz.prog 62 [.lit true 1 (([] : List Int).map ci)] (.lit false 1 []) := by
 refine pco Tryz.func62 rfl rfl (.lit _ _ _ fun row hr => by cases hr) (zAa rfl fun K1 hK1 => p_e rfl (zAs (v := .nil) rfl) (p_end (hK1 _ ?_)));refine zAf (zAa rfl fun K2 hK2 => p_e rfl (zAi (v := .lit _ _ _) rfl) (p_nilq rfl (by kernel_rfl) rfl fun b => p_end (hK2 _ ?_)));refine zAe rfl fun K3 hK3 => ⟨fun hb4 => ?_, fun hb4 => ?_⟩
 ·try simp only [zz] at hb4
  refine zAa rfl fun K5 hK5 => p_e rfl (zAs (v := .nil) rfl) (p_end (hK5 _ ?_));refine zAh (zAk (end1 (v := .nil) rfl ?_));exact .nil 1
 try simp only [zz] at hb4
 refine zAl (zAb (hK3 _ ?_));refine zAa rfl fun K6 hK6 => p_new rfl (zB4 (rows := []) (zs := [.int 0]) (sz := 1) (by kernel_rfl) (by kernel_rfl) rfl (by kernel_rfl) (by decide) rfl rfl (by exact trivial) rfl) trivial (p_e rfl (zAi (v := .lit _ _ _) rfl) (p_app rfl rfl rfl (.ofRef w_ rfl) zJm (by kernel_rfl) (by simp only [List.length_append, lM, List.length_nil, List.length_cons]; omega) fun v7 h8 c9 hs10 hf11 => p_e rfl (zAs (v := _) rfl) (p_end (hK6 _ ?_))));refine zAh (end1 (v := _) rfl ?_);exact ints_out (xs := []) hs10
theorem cloneO (l : List Int) (hl : l.length ≤ 10000) (hne : l ≠ []) : zAy Tryz.prog 62 [.lit true 1 (l.map ci)] (fun _ => none) (fun _ => 0) (fun v h _ => zAq h 7 v 1 (l.map ci)) := by
 refine hco Tryz.func62 rfl rfl (zAa rfl fun K1 hK1 => p_e rfl (zAs (v := .nil) rfl) (p_end (hK1 _ ?_)));refine zAf (zAa rfl fun K2 hK2 => p_e rfl (zAi (v := .lit _ _ _) rfl) (p_e rfl (e_nileq rfl (by simpa using hne) rfl (by kernel_rfl)) (p_end (hK2 _ ?_))));refine zAe (t := false) rfl fun K3 hK3 => ⟨nofun, fun _ => ?_⟩
 refine zAl (zAb (hK3 _ ?_));refine zAa rfl fun K4 hK4 => p_new rfl (zB4 (rows := []) (zs := [.int 0]) (sz := 1) (by kernel_rfl) (by kernel_rfl) rfl (by kernel_rfl) (by decide) rfl rfl (by exact trivial) rfl) trivial (p_e rfl (zAi (v := .lit _ _ _) rfl) (p_app rfl rfl rfl (.ofRef w_ rfl) zJm (by kernel_rfl) (by simp only [List.length_append, lM, List.length_nil, List.length_cons]; omega) fun v5 h6 c7 hs8 hf9 => p_e rfl (zAs (v := _) rfl) (p_end (hK4 _ ?_))));refine zAh (end1 (v := _) rfl ?_);exact zAq.to hs8 (by simp)
def zFb (cnt : Nat → Nat) (xs : List Int) (v : PV) (h2 : Heap) : Prop := ((v = .nil ∨ v = .lit false 1 []) ∧ xs = []) ∨ ∃ k : Key, v = .ref k 1 0 xs.length ∧ h2 k = some (.rows 1 (xs.map ci)) ∧ cnt k.1 ≤ k.2
def OldK (cnt : Nat → Nat) (h h2 : Heap) : Prop := ∀ k : Key, k.2 < cnt k.1 → h2 k = h k
def CLe (c0 c : Nat → Nat) : Prop := ∀ d, c0 d ≤ c d
theorem CLe.refl (c : Nat → Nat) : CLe c c := fun _ => Nat.le_refl _
theorem CLe.set {c0 c : Nat → Nat} {d : Nat} (h : CLe c0 c) : CLe c0 (cset c d) := fun x => by
 have := h x;unfold cset; split <;> omega
def VN (c0 : Nat → Nat) (v : PV) : Prop := ∀ (k : Key) (sz o n : Nat), v = .ref k sz o n → c0 k.1 ≤ k.2
theorem VN.nil {c0 : Nat → Nat} : VN c0 .nil := fun _ _ _ _ h => by cases h
theorem VN.new {c0 c : Nat → Nat} {d sz n : Nat} (h : CLe c0 c) : VN c0 (.ref (d, c d) sz 0 n) := fun k sz o n e => by cases e; exact h d
theorem OldK.refl {c0 : Nat → Nat} {h : Heap} : OldK c0 h h := fun _ _ => rfl
theorem OldK.set {c0 c : Nat → Nat} {h0 h : Heap} {d : Nat} {o : Option PObj} (ho : OldK c0 h0 h) (hc : CLe c0 c) : OldK c0 h0 (hset h (d, c d) o) := fun k hk => by
 rw [hset, if_neg, ho k hk]
 rintro rfl
 have := hc d;exact absurd hk (Nat.not_lt.2 this)
theorem OldK.app {c0 c : Nat → Nat} {h0 h h1 : Heap} {d d1 sz n : Nat} {u : PV} (ho : OldK c0 h0 h) (hc : CLe c0 c) (hv : VN c0 u) (hf : ∀ k' : Key, k' ≠ (d, c d) → (∀ g, u = .ref (d1, g) sz 0 n → k' ≠ (d1, g)) → h1 k' = h k') : OldK c0 h0 h1 := fun k hk => by
 rw [hf k (fun e => ?_) (fun g e1 e => ?_), ho k hk]
 · subst e; exact absurd hk (Nat.not_lt.2 (hc d))
 · subst e; exact absurd hk (Nat.not_lt.2 (hv _ _ _ _ e1))
theorem zEc {c0 : Nat → Nat} {h : Heap} {d : Nat} {v : PV} {xs : List Int} (hs : zAq h d v 1 (xs.map ci)) (hv : VN c0 v) : zFb c0 xs v h := by
 rcases hs with ⟨h1, rfl⟩ | ⟨g, rfl, hg⟩
 · exact .inl ⟨.inl rfl, List.map_eq_nil_iff.1 h1⟩
 · exact .inr ⟨(d, g), by rw [lM], hg, hv _ _ _ _ rfl⟩
theorem zK6 {f : FuncId} {args as' : List PV} {h : Heap} {cnt : Nat → Nat} {sz : Nat} {rows : Pv.Rows} (site : Nat) (hc : PNew Tryz.prog f as' sz rows) {ks : List Key} (ha : InnsX h ks args as') :
   zAy Tryz.prog f args h cnt fun v h' cnt' => v = .ref (site, cnt site) sz 0 rows.length ∧ h' = zAZ h [((site, cnt site), some (.rows sz rows))] ∧ cnt' = bumpC cnt site true := by
 obtain ⟨hb, h2, hw, hc⟩ := hc;refine ⟨hb, fun E vs g hh hcn htt hsz hrep => ?_⟩;subst hh;subst hcn;refine (hc E.w (zCE E) vs (zEz g) (zCr g.glob g.size fun _ _ => rfl) (hsz.trans ha.length) fun i u q h1 h2 => ?_).mono ?_
 · have hi := (List.getElem?_eq_some_iff.1 h2).1;have hi' : i < args.length := by rw [ha.length]; exact hi
   exact zJU g (ha.get i _ q (List.getElem?_eq_getElem hi') h2) (hrep i u _ h1 (List.getElem?_eq_getElem hi'))
 · rintro e w' ⟨u, gb, cp, ba, cells, T, rfl, hbl, hgb, hcl, hcs, h1, hr, hu⟩
   have had := adopt g (site := site) hbl hgb hcl hcs h1 h2 hw hr;refine ⟨u, _, zBi E site (.rows sz rows) w' (cp, ba) gb, rfl, ⟨rfl, rfl, rfl⟩, rfl, had.1, had.2.1, hbl.mono g.size, ?_⟩;rcases hu with ⟨c, rfl, h3, h4⟩ | ⟨a, rfl, h3⟩
   · exact had.2.2.1 c h3 h4
   · exact had.2.2.2 h3 a
theorem zIp {f : FuncId} {args : List PV} {d : Nat} {xs : List Int} (hne : xs ≠ []) (hc : zAy Tryz.prog f args (fun _ => none) (fun _ => 0) fun v h _ => zAq h d v 1 (xs.map ci)) : PNew Tryz.prog f args 1 (xs.map ci) := by
 refine PNew.of_calls (Nat.le_refl _) ?_ ?_ (hc.mono fun v h _ hs => zAq.isRef hs (by simpa using hne))
 · intro row hr; obtain ⟨z, _, rfl⟩ := List.mem_map.1 hr; rfl
 · intro row hr p hp; obtain ⟨z, _, rfl⟩ := List.mem_map.1 hr; simp [ci] at hp; subst hp; exact ⟨_, rfl, rfl⟩
theorem new_fresh {h : Heap} {cnt : Nat → Nat} {xs : List Int} {v : PV} {h' : Heap} {s : Nat} (h1 : v = .ref (s, cnt s) 1 0 (xs.map ci).length) (h2 : h' = zAZ h [((s, cnt s), some (.rows 1 (xs.map ci)))]) : zFb cnt xs v h' ∧ OldK cnt h h' := by
 subst h1; subst h2;refine ⟨.inr ⟨(s, cnt s), by rw [lM], by simp [zAZ], Nat.le_refl _⟩, fun k hk => ?_⟩;have : k ≠ (s, cnt s) := fun e => by subst e; exact Nat.lt_irrefl _ hk
 simp [zAZ, this]
theorem zHB (site : Nat) {args : List PV} {h : Heap} {cnt : Nat → Nat} {ls : List (List Int)} (hll : ls.length ≤ 1000000) (hl : ls.flatten.length ≤ 1000000) {ks : List Key} (ha : InnsX h ks args [.lit true 1 (ls.map cl)]) :
   zAy Tryz.prog 58 args h cnt fun v h' c' => zAq h' site v 1 (ls.flatten.map ci) ∧ VN cnt v ∧ OldK cnt h h' ∧ CLe cnt c' := by
 by_cases hne : ls.flatten = []
 · exact zAy.of_pureX (concatN ls hll hne) ha ⟨by rw [hne]; exact .nil, VN.nil, OldK.refl, CLe.refl _⟩
 · refine (zK6 site (zIp hne (concatO ls hll hl)) ha).mono fun v h' c' ⟨h1, h2, h3⟩ => ?_;subst h1; subst h2; subst h3;refine ⟨.inr ⟨cnt site, rfl, by simp [zAZ]⟩, fun k sz o n e => by cases e; exact Nat.le_refl _, fun k hk => ?_, fun d => by unfold bumpC; simp; split <;> omega⟩;have : k ≠ (site, cnt site) := fun e => by subst e; exact Nat.lt_irrefl _ hk
   simp [zAZ, this]
theorem zMA {args : List PV} {h : Heap} {cnt : Nat → Nat} {l : List Int} (hl : l.length ≤ 10000) {ks : List Key} (ha : InnsX h ks args [.lit true 1 (l.map ci)]) :
   zAy Tryz.prog 62 args h cnt fun v h' _ => zFb cnt l v h' ∧ OldK cnt h h' := by
 by_cases hne : l = []
 · subst hne;exact zAy.of_pureX (v := .lit false 1 []) cloneZ ha ⟨.inl ⟨.inr rfl, rfl⟩, fun _ _ => rfl⟩
 · exact (zK6 700 (zIp hne (cloneO l hl hne)) ha).mono fun v h' c' ⟨h1, h2, _⟩ => new_fresh h1 h2
section
variable {h0 : Heap} {c0 c : Nat → Nat} {xs : List Int} {v : PV}
theorem sortE : zAy Tryz.prog 63 [.lit false 1 []] h0 c0 (fun _ h c => h = h0 ∧ c = c0) := by
 refine ⟨by kernel_rfl, fun E vs g hh hcn htt hsz hrep => ?_⟩;obtain ⟨v0, rfl⟩ := arr1x hsz;have h0 := hrep 0 v0 _ rfl rfl;have hrt : Rep E (.tuple #[]) (.tup []) := .tup rfl fun i v p h1 h2 => by cases h2
 cases h0 with
 | litE =>
   refine (Tryz.slices_Sort_none _ _ E.w).mono ?_
   rintro e w' ⟨rfl, rfl⟩
   exact ⟨_, .tup [], E, rfl, ⟨hh, hcn⟩, rfl, g, EnvLe.refl E, RowKit.Below.refl _ _, hrt⟩
 | lit _ _ _ =>
   refine (Tryz.slices_Sort_none _ _ E.w).mono ?_
   rintro e w' ⟨rfl, rfl⟩
   exact ⟨_, .tup [], E, rfl, ⟨hh, hcn⟩, rfl, g, EnvLe.refl E, RowKit.Below.refl _ _, hrt⟩
theorem compactE : zAy Tryz.prog 64 [.lit false 1 []] h0 c0 (fun v h c => v = .lit false 1 [] ∧ h = h0 ∧ c = c0) := by
 refine ⟨by kernel_rfl, fun E vs g hh hcn htt hsz hrep => ?_⟩;obtain ⟨v0, rfl⟩ := arr1x hsz;have h0 := hrep 0 v0 _ rfl rfl;cases h0 with
 | litE =>
   refine (Tryz.slices_Compact_none _ _ E.w).mono ?_
   rintro e w' ⟨rfl, rfl⟩
   exact ⟨_, .lit false 1 [], E, rfl, ⟨rfl, hh, hcn⟩, rfl, g, EnvLe.refl E, RowKit.Below.refl _ _, .litE⟩
 | lit _ _ _ =>
   refine (Tryz.slices_Compact_none _ _ E.w).mono ?_
   rintro e w' ⟨rfl, rfl⟩
   exact ⟨_, .lit false 1 [], E, rfl, ⟨rfl, hh, hcn⟩, rfl, g, EnvLe.refl E, RowKit.Below.refl _ _, .litE⟩
theorem compactR0 {k : Key} : zAy Tryz.prog 64 [.ref k 1 0 0] h0 c0 (fun v h c => v = .ref k 1 0 0 ∧ h = h0 ∧ c = c0) := by
 refine ⟨by kernel_rfl, fun E vs g hh hcn htt hsz hrep => ?_⟩;obtain ⟨v0, rfl⟩ := arr1x hsz;have h0 := hrep 0 v0 _ rfl rfl;have h1 := h0;cases h0 with
 | ref _ _ _ =>
   refine (Tryz.slices_Compact_none _ _ E.w).mono ?_
   rintro e w' ⟨rfl, rfl⟩
   exact ⟨_, .ref k 1 0 0, E, rfl, ⟨rfl, hh, hcn⟩, rfl, g, EnvLe.refl E, RowKit.Below.refl _ _, h1⟩
 | refE _ _ =>
   refine (Tryz.slices_Compact_none _ _ E.w).mono ?_
   rintro e w' ⟨rfl, rfl⟩
   exact ⟨_, .ref k 1 0 0, E, rfl, ⟨rfl, hh, hcn⟩, rfl, g, EnvLe.refl E, RowKit.Below.refl _ _, h1⟩
theorem sortX (hf : zFb c0 xs v h0) (hx : xs.length ≤ 1000000) : zAy Tryz.prog 63 [v] h0 c (fun _ h c' => zFb c0 (srtI xs) v h ∧ OldK c0 h0 h ∧ c' = c) := by
 rcases hf with ⟨rfl | rfl, rfl⟩ | ⟨k, rfl, hk, hn⟩
 · exact sort0.mono fun _ h c' ⟨h1, h2⟩ => ⟨.inl ⟨.inl rfl, List.mergeSort_nil⟩, fun _ _ => by rw [h1], h2⟩
 · exact sortE.mono fun _ h c' ⟨h1, h2⟩ => ⟨.inl ⟨.inr rfl, List.mergeSort_nil⟩, fun _ _ => by rw [h1], h2⟩
 · exact (sortH hk hx).mono fun _ h c' ⟨h1, h2, h3⟩ => ⟨.inr ⟨k, by rw [zCl], h1, hn⟩, fun k' hk' => h2 k' fun e => by subst e; omega, h3⟩
theorem zCQ (hf : zFb c0 xs v h0) (hx : xs.length ≤ 1000000) : zAy Tryz.prog 64 [v] h0 c (fun v' h c' => zLZ c0 (Lib.compact xs) v' h ∧ OldK c0 h0 h ∧ c' = c) := by
 rcases hf with ⟨rfl | rfl, rfl⟩ | ⟨k, rfl, hk, hn⟩
 · exact compact0.mono fun v' h c' ⟨h1, h2, h3⟩ => ⟨.inl ⟨.inl h1, rfl⟩, fun _ _ => by rw [h2], h3⟩
 · exact compactE.mono fun v' h c' ⟨h1, h2, h3⟩ => ⟨.inl ⟨.inr h1, rfl⟩, fun _ _ => by rw [h2], h3⟩
 · by_cases hne : xs = []
   · subst hne;exact (compactR0 (k := k)).mono fun v' h c' ⟨h1, h2, h3⟩ => ⟨.inr ⟨k, [], h1, by rw [h2]; exact hk, rfl, hn⟩, fun _ _ => by rw [h2], h3⟩
   · refine (compactH hk hx hne).mono fun v' h c' ⟨h1, h2, h3, h4⟩ => ⟨.inr ⟨k, _, h1, h2, ?_, hn⟩, fun k' hk' => h3 k' fun e => by subst e; omega, h4⟩
     exact List.take_left
end
open Go Go.Pv Go.Proofs.YtnbcmoaofmkjhaaGreatDoor
def ixA {α : Type} (K : α → Bool) (l : List α) : Int := match l.findIdx? K with | some i => (i : Int) | none => -1
theorem zHv {α : Type} {K : α → Bool} {l : List α} {k : Nat} {x : α} (hx : l[k]? = some x) (h : ∀ i, i < k → ∀ y, l[i]? = some y → K y = false) (h2 : K x = true) : (k : Int) = ixA K l := by
 obtain ⟨h1, e⟩ := List.getElem?_eq_some_iff.1 hx
 have : l.findIdx? K = some k := by
   rw [List.findIdx?_eq_some_iff_getElem];exact ⟨h1, by rw [e]; exact h2, fun j hj => by rw [h j hj _ (List.getElem?_eq_getElem (by omega))]; decide⟩
 rw [ixA, this]
theorem zLM {α : Type} {K : α → Bool} {l : List α} {k : Nat} (h : ∀ i, i < k → ∀ y, l[i]? = some y → K y = false) (h2 : l.length ≤ k) : -1 = ixA K l := by
 have : l.findIdx? K = none := by
   rw [List.findIdx?_eq_none_iff];intro z hz;obtain ⟨i, hi⟩ := List.getElem?_of_mem hz;exact h i (by have := (List.getElem?_eq_some_iff.1 hi).1; omega) z hi
 rw [ixA, this]
theorem ixA_any {α : Type} {K : α → Bool} {l : List α} : decide (0 ≤ ixA K l) = l.any K := by
 rw [Bool.eq_iff_iff, decide_eq_true_eq, ixA, List.any_eq_true];cases h : l.findIdx? K with
 | none =>
   rw [List.findIdx?_eq_none_iff] at h;simp only [Int.reduceNeg];exact ⟨fun h => absurd h (by decide), fun ⟨x, h1, h2⟩ => by rw [h x h1] at h2; cases h2⟩
 | some i =>
   rw [List.findIdx?_eq_some_iff_getElem] at h;obtain ⟨h1, h2, _⟩ := h;exact ⟨fun _ => ⟨_, List.getElem_mem h1, h2⟩, fun _ => Int.natCast_nonneg i⟩
theorem zEo {α : Type} {K : α → Bool} {l : List α} {k : Nat} {x : α} (h : ∀ i, i < k → ∀ y, l[i]? = some y → K y = false) (hx : l[k]? = some x) (h2 : K x = false) : ∀ i, i < k + 1 → ∀ y, l[i]? = some y → K y = false := fun i hi y hy => by
 rcases Nat.lt_succ_iff_lt_or_eq.1 hi with h3 | h3
 · exact h i h3 y hy
 · subst h3; rw [hx] at hy; cases hy; exact h2
theorem nx_0 {α : Type} {K : α → Bool} {l : List α} : ∀ i, i < 0 → ∀ y, l[i]? = some y → K y = false := fun i h => absurd h (Nat.not_lt_zero _)
def grng (g : Gang) : Prop := 0 ≤ g.fro ∧ g.fro ≤ g.til ∧ g.til ≤ 1000000
instance (g : Gang) : Decidable (grng g) := inferInstanceAs (Decidable (_ ∧ _))
def crng (x : Span) : Prop := (0 ≤ x.place ∧ x.place ≤ 999) ∧ 0 ≤ x.fro ∧ x.fro ≤ x.til ∧ x.til ≤ 1000000
instance (x : Span) : Decidable (crng x) := inferInstanceAs (Decidable (_ ∧ _))
section
variable {gs : List Gang} {k : Nat} {g : Gang}
end
section
variable {c : Crew} {k : Nat}
end
end Go.Proofs.YtnbcmoaofmkjhaaGreatDoor.E7
