/- strings.Join at this program: told from the library's contract, for the P level. No conditions. -/
import Derived.Shelf.Strings.OnBuilder
import Derived.Test.YtmlhhdiomijpfaaGreatDoorProg
import Derived.Test.YtmlhhdiomijpfaaGreatDoorPvGy
import Derived.Test.YtmlhhdiomijpfaaGreatDoorPvGg
import Derived.Test.YtmlhhdiomijpfaaGreatDoorPvGh
namespace Go.Proofs
open Go.Shelf
def Tryz.lays156_ren : Go.Shelf.Ren := ⟨fun | 156 => 27 | 165 => 60 | 166 => 41 | 169 => 44 | 240 => 77 | 241 => 100 | 276 => 113 | 277 => 138 | n => n, fun | 31 => 67 | 9 => 9 | 3 => 3 | 4 => 4 | 0 => 0 | 20 => 20 | 72 => 92 | 76 => 95 | 70 => 89 | 37 => 90 | 75 => 94 | 127 => 147 | 164 => 191 | 5 => 5 | 80 => 99 | n => n, fun | n => n⟩
theorem Tryz.lays156 : Go.Proofs.Lays.n156 Tryz.prog Tryz.lays156_ren := {
 mixed := by kernel_rfl
 f156 := Tryz.func27.trans (congrArg some (by kernel_rfl))
 f165 := Tryz.func60.trans (congrArg some (by kernel_rfl))
 f166 := Tryz.func41.trans (congrArg some (by kernel_rfl))
 f169 := Tryz.func44.trans (congrArg some (by kernel_rfl))
 f240 := Tryz.func77.trans (congrArg some (by kernel_rfl))
 f241 := Tryz.func100.trans (congrArg some (by kernel_rfl))
 f276 := Tryz.func113.trans (congrArg some (by kernel_rfl))
 f277 := Tryz.func138.trans (congrArg some (by kernel_rfl))
 t0 := Tryz.underlying0
 a0 := Tryz.isAgg0
 z0 := Tryz.sizeOf0
 v0 := Tryz.zeroValue0
 t3 := Tryz.underlying3
 a3 := Tryz.isAgg3
 z3 := Tryz.sizeOf3
 v3 := Tryz.zeroValue3
 t4 := Tryz.underlying4
 a4 := Tryz.isAgg4
 z4 := Tryz.sizeOf4
 v4 := Tryz.zeroValue4
 t9 := Tryz.underlying9
 a9 := Tryz.isAgg9
 z9 := Tryz.sizeOf9
 v9 := Tryz.zeroValue9
 t20 := Tryz.underlying20
 a20 := Tryz.isAgg20
 z20 := Tryz.sizeOf20
 v20 := Tryz.zeroValue20
 t31 := Tryz.underlying67
 a31 := Tryz.isAgg67
 z31 := Tryz.sizeOf67
 v31 := Tryz.zeroValue67
 t37 := Tryz.underlying90
 a37 := Tryz.isAgg90
 z37 := Tryz.sizeOf90
 v37 := Tryz.zeroValue90
 t70 := Tryz.underlying89
 a70 := Tryz.isAgg89
 z70 := Tryz.sizeOf89
 v70 := Tryz.zeroValue89
 t72 := Tryz.underlying92
 a72 := Tryz.isAgg92
 z72 := Tryz.sizeOf92
 v72 := Tryz.zeroValue92
 t75 := Tryz.underlying94
 a75 := Tryz.isAgg94
 z75 := Tryz.sizeOf94
 v75 := Tryz.zeroValue94
 t76 := Tryz.underlying95
 a76 := Tryz.isAgg95
 z76 := Tryz.sizeOf95
 v76 := Tryz.zeroValue95
 t127 := Tryz.underlying147
 a127 := Tryz.isAgg147
 z127 := Tryz.sizeOf147
 v127 := Tryz.zeroValue147
 t164 := Tryz.underlying191
 a164 := Tryz.isAgg191
 z164 := Tryz.sizeOf191
 v164 := Tryz.zeroValue191 }
theorem Tryz.Builder_Extra_156 : Builder.Extra Tryz.prog Tryz.lays156_ren := {
 sizeBuilder := by kernel_rfl
 liesBuilder := by kernel_rfl
 t5 := Tryz.underlying5
 a5 := Tryz.isAgg5
 z5 := Tryz.sizeOf5
 v5 := Tryz.zeroValue5
 infoByte := by kernel_rfl
 cellsByte := by kernel_rfl
 sizeByte := by kernel_rfl
 neB5 := by decide }
open Go.RowKit in
/-- No element: the empty string; the world is as it was. (Whatever the slice's address and capacity: a nil slice too.) (LAID: no walk: one application.) -/
theorem Tryz.strings_Join_none (a : Option Addr) (c : Nat) (sep : ByteArray) (w : World) :
   Calls Tryz.prog 27 #[.slice a 0 c, .string sep] w fun e w' => e = .returned (.string ⟨#[]⟩) ∧ w' = w := Any.strings_Join_none Tryz.lays156 Tryz.Builder_Extra_156 a c sep w
open Go.RowKit in
/-- strings.Join: "Join concatenates the elements of its first argument to create a single string. The separator string sep is placed between elements in the resulting string.": HOWEVER MANY ELEMENTS. Below the heap's end the world is as it was. (LAID: no walk: one application.) -/
theorem Tryz.strings_Join (bk o c : Nat) (xs : List ByteArray) (sep : ByteArray) (w : World) (hcells : ∀ (j : Nat) x, xs[j]? = some x → w.cell? ⟨bk, o + j, none⟩ = some (.string x)) (hbk : bk < w.heap.size) (hN : xs.length ≤ 140737488355328) (hcap : xs.length ≤ c) (hlen : (Lib.join (xs.map (·.data.toList)) sep.data.toList).length ≤ 140737488355328) :
   Calls Tryz.prog 27 #[.slice (some ⟨bk, o, none⟩) xs.length c, .string sep] w fun e w' => e = .returned (.string ⟨(Lib.join (xs.map (·.data.toList)) sep.data.toList).toArray⟩) ∧ Below w.heap.size w w' := Any.strings_Join Tryz.lays156 Tryz.Builder_Extra_156 bk o c xs sep w hcells hbk hN hcap hlen
end Go.Proofs
namespace Go.Proofs.YtmlhhdiomijpfaaGreatDoor
open Go Go.Proofs Go.RowKit Go.Shelf Go.Pv
def joinB (xs : List ByteArray) (sep : ByteArray) : ByteArray := ⟨(Lib.join (xs.map fun x => x.data.toList) sep.data.toList).toArray⟩
theorem joinP (xs : List ByteArray) (sep : ByteArray) (hne : xs ≠ []) (hN : xs.length ≤ 140737488355328) (hlen : (Lib.join (xs.map fun x => x.data.toList) sep.data.toList).length ≤ 140737488355328) :
   PCalls Tryz.prog 27 [.lit true 1 (xs.map cb), .str sep] (.str (joinB xs sep)) := by
 refine ⟨.sc _, by kernel_rfl, fun w M vs hM hgw hsz hrep => ?_⟩
 obtain ⟨v0, v1, rfl⟩ := arr2' hsz
 have h0 := hrep 0 v0 _ rfl rfl
 have h1 := hrep 1 v1 _ rfl rfl
 have hv1 : v1 = .string sep := h1.sc_inv
 subst hv1
 have hl : (xs.map cb).length = xs.length := List.length_map ..
 generalize hR : xs.map cb = rows at h0 hl
 cases h0 with
 | litE =>
   cases xs with
   | nil => exact absurd rfl hne
   | cons x l => simp at hR
 | @lit b off c _ _ _ f hm hc hr =>
   rw [hl] at hc ⊢
   refine (Tryz.strings_Join b off c xs sep w (fun j x hx => ?_) hm.lt hN hc hlen).mono ?_
   · have hrow : rows[j]? = some (cb x) := by rw [← hR, List.getElem?_map, hx]; rfl
     have h2 := hm.cell j 0 (cb x) (.str x) hrow rfl
     have h3 := (hr j 0 (cb x) (.str x) hrow rfl).sc_inv
     rw [h3] at h2
     have h4 : w.cell? ⟨b, off + j * 1 + 0, none⟩ = some (.string x) := h2
     simpa using h4
   · rintro e w' ⟨rfl, hb⟩
     exact ⟨_, rfl, .sc rfl, hb⟩
def strsB : Pv.Rows → Option (List ByteArray)
 | [] => some []
 | [.sc (.string s)] :: l => match strsB l with | some xs => some (s :: xs) | none => none
 | _ => none
theorem strsB_ok : ∀ {rows : Pv.Rows} {xs : List ByteArray}, strsB rows = some xs → rows = xs.map cb
 | [], xs, h => by cases h; rfl
 | row :: l, xs, h => by
   unfold strsB at h
   split at h
   · rename_i heq; cases heq
   · rename_i s l' heq
     split at h
     · rename_i ys hy
       cases h
       cases heq
       rw [strsB_ok hy]; rfl
     · cases h
   · cases h
def joinO (f : FuncId) (args : List PV) (h : HL) (c : CL) : Option (PV × HL × CL) :=
 match args with
 | [.ref k 1 0 n, .sc (.string sep)] => match hGet h k with
   | some (.rows 1 rows) => match strsB rows with
     | some xs => bif Nat.beq f 27 && (Nat.beq xs.length n && (Nat.ble 1 n && (Nat.ble n 1000 && Nat.ble (Lib.join (xs.map fun x => x.data.toList) sep.data.toList).length 100000))) then some (.str (joinB xs sep), h, c) else none
     | none => none
   | _ => none
 | _ => none
theorem join_orc : ∀ (f : FuncId) (args : List PV) (h : HL) (c : CL) (v : PV) (h' : HL) (c' : CL), joinO f args h c = some (v, h', c') → ∀ R : PV → Heap → (Nat → Nat) → Prop, R v (hGet h') (cGet c') → HCallsR Tryz.prog f args (hGet h) (cGet c) R := by
 intro f args h c v h' c' ho R hR
 unfold joinO at ho
 split at ho
 · rename_i k n sep
   split at ho
   · rename_i rows hk
     split at ho
     · rename_i xs hxs
       cases hb : (Nat.beq f 27 && (Nat.beq xs.length n && (Nat.ble 1 n && (Nat.ble n 1000 && Nat.ble (Lib.join (xs.map fun x => x.data.toList) sep.data.toList).length 100000)))) with
       | false => rw [hb] at ho; cases ho
       | true =>
         rw [hb] at ho; cases ho
         simp only [Bool.and_eq_true, Nat.beq_eq, Nat.ble_eq] at hb
         obtain ⟨rfl, hn, h1, h2, h3⟩ := hb
         have hr := strsB_ok hxs
         subst hr
         refine HCallsR.of_pure (joinP xs sep (fun e => by subst e; simp at hn; omega) (by omega) (by omega)) (.cons (inn_ref hk (by rw [List.length_map]; exact hn) rfl fun row hrow => ?_) (.cons inn_sc .nil)) hR
         obtain ⟨x, _, rfl⟩ := List.mem_map.1 hrow
         exact cb_pure x
     · cases ho
   · cases ho
 · cases ho
end Go.Proofs.YtmlhhdiomijpfaaGreatDoor
