import Derived.Test.YtmlhhdiomijpfaaGreatDoorDatA
import Derived.Test.YtmlhhdiomijpfaaGreatDoorProg
import Derived.Shelf.Strings.Builder1
import Derived.Shelf.Strings.BuilderF
import Derived.Shelf.Strings.BuilderK
import Derived.WalkKit
import Derived.BigCall
set_option linter.unusedSimpArgs false
set_option linter.unusedVariables false
set_option maxRecDepth 100000
namespace Go.Proofs
open Go.Shelf
def Tryz.lays169_ren : Go.Shelf.Ren := ⟨fun | 169 => 44 | n => n, fun | 70 => 89 | 9 => 9 | 0 => 0 | 72 => 92 | 37 => 90 | 127 => 147 | 3 => 3 | 5 => 5 | n => n, fun | n => n⟩
theorem Tryz.lays169 : Go.Proofs.Lays.n169 Tryz.prog Tryz.lays169_ren := {
 mixed := by kernel_rfl
 f169 := Tryz.func44.trans (congrArg some (by kernel_rfl))
 t0 := Tryz.underlying0
 a0 := Tryz.isAgg0
 z0 := Tryz.sizeOf0
 v0 := Tryz.zeroValue0
 t3 := Tryz.underlying3
 a3 := Tryz.isAgg3
 z3 := Tryz.sizeOf3
 v3 := Tryz.zeroValue3
 t9 := Tryz.underlying9
 a9 := Tryz.isAgg9
 z9 := Tryz.sizeOf9
 v9 := Tryz.zeroValue9
 t37 := Tryz.underlying90
 a37 := Tryz.isAgg90
 z37 := Tryz.sizeOf90
 v37 := Tryz.zeroValue90
 t70 := Tryz.underlying89
 a70 := Tryz.isAgg89
 z70 := Tryz.sizeOf89
 v70 := Tryz.zeroValue89
 t72 := Tryz.underlying92
 a72 := Tryz.isAgg92
 z72 := Tryz.sizeOf92
 v72 := Tryz.zeroValue92
 t127 := Tryz.underlying147
 a127 := Tryz.isAgg147
 z127 := Tryz.sizeOf147
 v127 := Tryz.zeroValue147 }
theorem Tryz.Builder_Extra_169 : Builder.Extra Tryz.prog Tryz.lays169_ren := {
 sizeBuilder := by kernel_rfl
 liesBuilder := by kernel_rfl
 t5 := Tryz.underlying5
 a5 := Tryz.isAgg5
 z5 := Tryz.sizeOf5
 v5 := Tryz.zeroValue5
 infoByte := by kernel_rfl
 cellsByte := by kernel_rfl
 sizeByte := by kernel_rfl
 neB5 := by decide }
open Go.RowKit in
theorem Tryz.Builder_String_any_k (B b : Nat) (l : List UInt8) (w : World) (h : Lib.IsBuilderF 92 5 B b (Lib.byteCells l) w) (hBw : B ≤ w.heap.size) :
   Calls Tryz.prog 44 #[.pointer (some ⟨b, 0, none⟩)] w fun e w' => e = .returned (.string ⟨l.toArray⟩) ∧ (Lib.IsBuilderF 92 5 B b (Lib.byteCells l) w' ∧ Below B w w' ∧ Lib.OthersKept 5 (some b) w w') := Any.Builder_String_any_k Tryz.lays169 Tryz.Builder_Extra_169 B b l w h hBw
end Go.Proofs
namespace Go.Proofs.YtmlhhdiomijpfaaGreatDoor
open Go Go.Proofs Go.RowKit Go.Shelf
theorem info92 : ∃ j, Tryz.prog.info? 92 = some j ∧ j.size ≠ 0 := by
 have h : (Tryz.prog.info? 92).map (·.size) = some 2 := by kernel_rfl
 obtain ⟨j, hj, hs⟩ := Option.map_eq_some_iff.1 h;exact ⟨j, hj, by rw [hs]; decide⟩
theorem info5 : ∃ i, Tryz.prog.info? 5 = some i ∧ i.zero = some (.int .u8 0) ∧ i.size = 1 ∧ i.bytes = 1 := by
 have h : (Tryz.prog.info? 5).map (fun i => (i.zero, i.size, i.bytes)) = some (some (.int .u8 0), 1, 1) := by kernel_rfl
 obtain ⟨j, hj, hs⟩ := Option.map_eq_some_iff.1 h;simp only [Prod.mk.injEq] at hs;exact ⟨j, hj, hs⟩
set_option maxHeartbeats 1000000 in
theorem copyUsed (b : Nat) (w : World) (h0 : w.cell? ⟨b, 0, none⟩ = some (.pointer (some ⟨b, 0, none⟩))) :
   Calls Tryz.prog 77 #[.pointer (some ⟨b, 0, none⟩)] w fun e w' => e = .returned (.tuple #[]) ∧ w' = w := by
 obtain ⟨j, hj, _⟩ := info92
 go_enter Tryz.func77, Tryz.ntmps77
 go_wp2
 rw [Lib.run_neq_ptr_same w _ Tryz.underlying89 hj]
 go_wp2
 go_end0
 exact ⟨rfl, rfl⟩
set_option maxHeartbeats 1000000 in
theorem copyFresh (b : Nat) (w : World) (h0 : w.cell? ⟨b, 0, none⟩ = some (.pointer none)) (hsh : w.shape? b = some (92, 2)) (hfz : w.frozen? ⟨b, 0, none⟩ = false) :
   Calls Tryz.prog 77 #[.pointer (some ⟨b, 0, none⟩)] w fun e w' => e = .returned (.tuple #[]) ∧ w' = w.setCell ⟨b, 0, none⟩ (.pointer (some ⟨b, 0, none⟩)) := by
 obtain ⟨j, hj, hjs⟩ := info92
 go_enter Tryz.func77, Tryz.ntmps77
 go_wp2
 rw [Lib.run_to_unsafe w ⟨b, 0, none⟩ Tryz.underlying89 Tryz.underlying191 hj hjs hsh (Nat.zero_lt_succ 1)];simp only [Result.andThen];rw [Oper.upon_value]
 go_wp2
 rw [run_callFunc_extern Tryz.func113 (by kernel_rfl) (by kernel_rfl) (by kernel_rfl) (e := Extern.AbiNoEscape.same) (by kernel_rfl)];rw [Lib.run_noEscape];simp only [Result.andThen];rw [Oper.upon_value]
 go_wp2
 rw [Lib.run_from_unsafe w ⟨b, 0, none⟩ Tryz.underlying191 Tryz.underlying89 hj hsh (by kernel_rfl)];simp only [Result.andThen];rw [Oper.upon_value]
 go_wp2
 go_end0
 exact ⟨rfl, rfl⟩
def Apart (k b : Nat) (w : World) : Prop := k < w.heap.size ∧ k ≠ b ∧ ∀ p v, w.heap[b]? = some (.cells #[p, v] 92 (0, 0)) → v.ownBlock ≠ some k
theorem append_row (w : World) (B n : Nat) (v : Value) (xs : List Value) (hown : w.ownsRowF B 5 1 v n xs) (s : ByteArray) (h63 : n + s.size ≤ 1000000000) (hb : B ≤ w.heap.size) :
   ∃ v' w', (Builtin.append_ #[90, 9] 90 #[v, .string s]).run Tryz.prog w = .ok v' w' ∧ w'.ownsRowF B 5 1 v' (n + s.size) (xs ++ Lib.strCells s) ∧ w.grownBy w' v.ownBlock ∧ (v'.ownBlock = v.ownBlock ∨ ∀ g, v'.ownBlock = some g → w.heap.size ≤ g) := by
 obtain ⟨i0, hi, hz0, hz1, hz2⟩ := info5;obtain ⟨v', w', hr, h2, h3, _⟩ := Lib.run_append_own_stringF w B 90 9 90 5 i0 Tryz.underlying90 Tryz.underlying9 hi hz0 hz1 hz2 v n xs hown s (by unfold maxLen; omega) (by omega) hb;refine ⟨v', w', hr, h2, h3, ?_⟩;rcases hown.2 with ⟨rfl, rfl⟩ | ⟨g, cap, cur, fz, rfl, hbg, hg, hfz, hnc, hcm, hcs, htake⟩
 · obtain ⟨v2, w2, hr2, h22, _⟩ := Lib.run_append_own_stringF w w.heap.size 90 9 90 5 i0 Tryz.underlying90 Tryz.underlying9 hi hz0 hz1 hz2 (.slice none 0 0) 0 xs ⟨hown.1, .inl ⟨rfl, rfl⟩⟩ s (by unfold maxLen; omega) (by omega) (Nat.le_refl _);rw [hr] at hr2; cases hr2;exact .inr fun g hg => (h22.lt g hg).1
 · by_cases hroom : n + s.size ≤ cap
   · have hr2 := Lib.run_append_room_stringF (P := Tryz.prog) w 90 9 90 5 i0 Tryz.underlying90 Tryz.underlying9 hi hz1 g n cap cur fz hg (by simpa using hfz) s hroom (by omega);rw [hr] at hr2; cases hr2;exact .inl rfl
   · have hxl : xs.length = n := by simpa using hown.1
     have hr2 := Lib.run_append_grow_string (P := Tryz.prog) w 90 9 90 5 i0 (.int .u8 0) Tryz.underlying90 Tryz.underlying9 hi hz0 ⟨g, 0, none⟩ n cap xs (by rw [hz1]; simpa using hxl) (hown.cells (g := g) rfl) s (by omega) (by omega) (by rw [hz2]; exact growslice_fits (by omega) (by omega));rw [hr] at hr2; cases hr2;exact .inr fun g' hg' => by simp only [Value.ownBlock, Option.some.injEq] at hg'; omega
theorem wpList_append_s {ops : Array Oper} {rest : List Oper} {o : Oper} {a : Act} {w : World} {Q : Exit → Act → World → Prop} (hgd : o.guard = none) (sl x : Operand) (hty : o.type = 90)
   (ho : o.op = .call { callee := .builtin .append, args := #[sl, x], argTypes := #[90, 9] })
   (B n : Nat) (v : Value) (xs : List Value) (hs : a.eval sl = v) (hown : w.ownsRowF B 5 1 v n xs) (s : ByteArray) (hx : a.eval x = .string s) (h63 : n + s.size ≤ 1000000000) (hb : B ≤ w.heap.size)
   (h : ∀ v' w', w'.ownsRowF B 5 1 v' (n + s.size) (xs ++ Lib.strCells s) → w.grownBy w' v.ownBlock → (v'.ownBlock = v.ownBlock ∨ ∀ g, v'.ownBlock = some g → w.heap.size ≤ g) → wpList Tryz.prog ops Q rest (a.put o.dst v') w') : wpList Tryz.prog ops Q (o :: rest) a w := by
 refine wpList_plain hgd fun K hK => ?_;obtain ⟨v', w', hr, h2, h3, h4⟩ := append_row w B n v xs hown s h63 hb;unfold Oper.wp execOp;simp only [ho, hty, resolve, invoke, builtin, Sem.run_bind, Sem.run_pure, Result.andThen_ok, List.map_toArray, List.map_cons, List.map_nil, hs, hx, hr];exact hK _ _ (h v' w' h2 h3 h4)
theorem copyC (B b : Nat) (bs : List Value) (w : World) (h : Lib.IsBuilderF 92 5 B b bs w) :
   Calls Tryz.prog 77 #[.pointer (some ⟨b, 0, none⟩)] w fun e w' => e = .returned (.tuple #[]) ∧ Lib.BuilderAtF 92 5 B b (.pointer (some ⟨b, 0, none⟩)) bs w' ∧ Below B w w' ∧ w'.heap.size = w.heap.size ∧ (∀ k, k ≠ b → w'.heap[k]? = w.heap[k]?) ∧
     ∀ p v, w'.heap[b]? = some (.cells #[p, v] 92 (0, 0)) → ∃ p', w.heap[b]? = some (.cells #[p', v] 92 (0, 0)) := by
 rcases h with h | h
 · refine (copyFresh b w h.cell0 h.shape h.frozen0).mono ?_
   rintro e w' ⟨rfl, rfl⟩
   obtain ⟨v0, hv0, _⟩ := h.2;refine ⟨rfl, h.used _, (Below.refl B w).setCell (p := ⟨b, 0, none⟩) h.1 _, by simp [World.setCell], fun k hk => Below.heap_setCell _ _ _ _ hk, fun p v hv => ⟨.pointer none, ?_⟩⟩;have h1 : (w.setCell ⟨b, 0, none⟩ (.pointer (some ⟨b, 0, none⟩))).heap[b]? = some (.cells #[.pointer (some ⟨b, 0, none⟩), v0] 92 (0, 0)) := by simp [World.setCell, Array.getElem?_modify, hv0]
   rw [h1] at hv;simp only [Option.some.injEq, Obj.cells.injEq, Array.mk.injEq, List.cons.injEq] at hv;rw [hv0, hv.1.2.1]
 · refine (copyUsed b w h.cell0).mono ?_
   rintro e w' ⟨rfl, rfl⟩
   exact ⟨rfl, h, Below.refl B _, rfl, fun _ _ => rfl, fun p v hv => ⟨p, hv⟩⟩
set_option maxHeartbeats 2000000 in
theorem writeS (B b : Nat) (l : List UInt8) (s : ByteArray) (w : World) (h : Lib.IsBuilderF 92 5 B b (Lib.byteCells l) w) (hlen : l.length + s.size ≤ 1000000000) (hBw : B ≤ w.heap.size) :
   Calls Tryz.prog 41 #[.pointer (some ⟨b, 0, none⟩), .string s] w fun e w' => e = .returned (.tuple #[.int .i64 s.size, .nilIface]) ∧ Lib.BuilderAtF 92 5 B b (.pointer (some ⟨b, 0, none⟩)) (Lib.byteCells (l ++ s.data.toList)) w' ∧ Below B w w' ∧
     ∀ k, Apart k b w → w'.heap[k]? = w.heap[k]? ∧ Apart k b w' := by
 go_enter Tryz.func41, Tryz.ntmps41
 go_wp2_with (go_at_call 77; refine (copyC B b _ _ h).mono ?_)
 rintro e w1 ⟨rfl, h1, hb1, hz1, hk1, hr1⟩
 obtain ⟨hB, v, hbk, hown, hne⟩ := h1;have c0 : w1.cell? ⟨b, 0, none⟩ = some (.pointer (some ⟨b, 0, none⟩)) := by rw [Lib.cell_of_heap hbk]; rfl
 have c1 : w1.cell? ⟨b, 1, none⟩ = some v := by rw [Lib.cell_of_heap hbk]; rfl
 rw [Lib.byteCells_length] at hown
 go_wp2_with (at_builtin; refine wpList_append_s rfl _ _ rfl rfl B _ _ _ rfl hown s rfl (by omega) (by omega) ?_)
 intro v' w2 hown' hgrow hrow
 have hlt : b < w1.heap.size := by
   rcases Nat.lt_or_ge b w1.heap.size with h' | h'
   · exact h'
   · simp [Array.getElem?_eq_none h'] at hbk
 have hb2 : w2.heap[b]? = some (.cells #[.pointer (some ⟨b, 0, none⟩), v] 92 (0, 0)) := by
   rw [hgrow.block b hlt (fun e => hne e.symm)];exact hbk
 have d0 : w2.cell? ⟨b, 0, none⟩ = some (.pointer (some ⟨b, 0, none⟩)) := by rw [Lib.cell_of_heap hb2]; rfl
 have d1 : w2.cell? ⟨b, 1, none⟩ = some v := by rw [Lib.cell_of_heap hb2]; rfl
 have f1 : w2.frozen? ⟨b, 1, none⟩ = false := Lib.frozen_of_heap hb2 1
 obtain ⟨ao, n', cap, rfl⟩ : ∃ ao n' cap, v' = .slice ao n' cap := by
   rcases hown'.2 with ⟨hv, _⟩ | ⟨g, cap, cur, fz, hv, _⟩
   · exact ⟨_, _, _, hv⟩
   · exact ⟨_, _, _, hv⟩
 go_wp2
 go_ret2
 have hbc : Lib.byteCells (l ++ s.data.toList) = Lib.byteCells l ++ Lib.strCells s := by rw [Lib.byteCells_append]; rfl
 have hbl : (Lib.byteCells (l ++ s.data.toList)).length = l.length + s.size := by rw [Lib.byteCells_length, List.length_append, Array.length_toList]; rfl
 have hput := Lib.BuilderAtF.put (T := 92) (e := 5) hB hb2 (bs' := Lib.byteCells (l ++ s.data.toList)) (by rw [hbl, hbc]; exact hown') (by decide);refine ⟨rfl, hput, (hb1.grown hgrow (by omega) (fun k hk => (hown.lt k hk).1)).setCell (p := ⟨b, 1, none⟩) hB _, fun k ⟨k1, k2, k3⟩ => ?_⟩
 have hkv : some k ≠ v.ownBlock := fun e => by
   obtain ⟨p', hp'⟩ := hr1 _ _ hbk;exact k3 _ _ hp' e.symm
 refine ⟨by rw [Below.heap_setCell _ _ _ _ k2, hgrow.block k (by omega) hkv, hk1 k k2], by simp only [World.setCell, Array.size_modify]; have := hgrow.size; omega, k2, fun p u hu => ?_⟩;have h1 : (w2.setCell ⟨b, 1, none⟩ (.slice ao n' cap)).heap[b]? = some (.cells #[.pointer (some ⟨b, 0, none⟩), .slice ao n' cap] 92 (0, 0)) := by simp [World.setCell, Array.getElem?_modify, hb2]
 rw [h1] at hu;simp only [Option.some.injEq, Obj.cells.injEq, Array.mk.injEq, List.cons.injEq] at hu;rw [← hu.1.2.1];rcases hrow with h' | h'
 · rw [h']; exact fun e => hkv e.symm
 · intro e; have := h' _ e; omega
set_option maxHeartbeats 2000000 in
theorem writeB (B b : Nat) (l : List UInt8) (c : UInt8) (w : World) (h : Lib.IsBuilderF 92 5 B b (Lib.byteCells l) w) (hlen : l.length + 1 ≤ 1000000000) (hBw : B ≤ w.heap.size) :
   Calls Tryz.prog 43 #[.pointer (some ⟨b, 0, none⟩), .int .u8 c.toNat] w fun e w' => e = .returned .nilIface ∧ Lib.BuilderAtF 92 5 B b (.pointer (some ⟨b, 0, none⟩)) (Lib.byteCells (l ++ [c])) w' ∧ Below B w w' := by
 obtain ⟨i0, hi, hz0, hz1, hz2⟩ := info5
 go_enter Tryz.func43, Tryz.ntmps43
 go_wp2_with (go_at_call 77; refine (copyC B b _ _ h).mono ?_)
 rintro e w1 ⟨rfl, h1, hb1, -, -, -⟩
 obtain ⟨hB, v, hbk, hown, hne⟩ := h1;have c0 : w1.cell? ⟨b, 0, none⟩ = some (.pointer (some ⟨b, 0, none⟩)) := by rw [Lib.cell_of_heap hbk]; rfl
 have c1 : w1.cell? ⟨b, 1, none⟩ = some v := by rw [Lib.cell_of_heap hbk]; rfl
 rw [Lib.byteCells_length] at hown
 go_wp2_with (at_builtin; refine wpList_append_ownF _ rfl _ _ 90 rfl B 5 i0 (.int .u8 0) 1 1 Tryz.underlying90 hi hz0 hz1 hz2 rfl (by decide) _ _ _ rfl (hown.alloc _) ⟨w1.heap.size, 0, none⟩ 1 1 [.int .u8 c.toNat] rfl rfl ?c1 ?c2 ?c3 ?c4 ?c5 ?_)
 case c1 =>
   intro j u hj
   match j, hj with
   | 0, hj => simp at hj; subst hj; simp [Addr.add]
 case c2 => intro u hu; simp at hu; subst hu; rfl
 case c3 => unfold maxLen; omega
 case c4 => omega
 case c5 => have := hb1.size; simp; omega
 intro v' w2 hown' hgrow _
 have hlt : b < w1.heap.size := by
   rcases Nat.lt_or_ge b w1.heap.size with h' | h'
   · exact h'
   · simp [Array.getElem?_eq_none h'] at hbk
 have hb2 : w2.heap[b]? = some (.cells #[.pointer (some ⟨b, 0, none⟩), v] 92 (0, 0)) := by
   rw [hgrow.block b (by simp; omega) (fun e => hne e.symm), Lib.alloc_old w1 _ b hlt];exact hbk
 have d0 : w2.cell? ⟨b, 0, none⟩ = some (.pointer (some ⟨b, 0, none⟩)) := by rw [Lib.cell_of_heap hb2]; rfl
 have d1 : w2.cell? ⟨b, 1, none⟩ = some v := by rw [Lib.cell_of_heap hb2]; rfl
 have f1 : w2.frozen? ⟨b, 1, none⟩ = false := Lib.frozen_of_heap hb2 1
 obtain ⟨ao, n', cap, rfl⟩ : ∃ ao n' cap, v' = .slice ao n' cap := by
   rcases hown'.2 with ⟨hv, _⟩ | ⟨g, cap, cur, fz, hv, _⟩
   · exact ⟨_, _, _, hv⟩
   · exact ⟨_, _, _, hv⟩
 go_wp2
 go_ret
 have hbc : Lib.byteCells (l ++ [c]) = Lib.byteCells l ++ [.int .u8 c.toNat] := by rw [Lib.byteCells_append]; rfl
 have hbl : (Lib.byteCells (l ++ [c])).length = l.length + 1 := by rw [Lib.byteCells_length, List.length_append]; rfl
 exact ⟨rfl, Lib.BuilderAtF.put (T := 92) (e := 5) hB hb2 (bs' := Lib.byteCells (l ++ [c])) (by rw [hbl, hbc]; exact hown') (by decide),
   ((hb1.alloc (by have := hb1.size; omega) _).grown hgrow (by have := hb1.size; simp; omega) (fun k hk => (hown.lt k hk).1)).setCell (p := ⟨b, 1, none⟩) hB _⟩
end Go.Proofs.YtmlhhdiomijpfaaGreatDoor
