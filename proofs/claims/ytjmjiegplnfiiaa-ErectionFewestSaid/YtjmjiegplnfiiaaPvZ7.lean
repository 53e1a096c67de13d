/- Blocks that a called function has laid, as own memory: slices.Grow of nothing, sorted keys; closures over three places; texts in own rows; the end of own rows cleared. -/
import Derived.Test.YtjmjiegplnfiiaaPvZ6
import Derived.Test.YtjmjiegplnfiiaaPvU1
namespace Go.Pv
open Go Go.RowKit
section
variable {P : Program} {K : PS → Prop} {d : Nat} {op : Op} {ty : TypeId} {pos : String} {aft : Array Edge} {gd : Option (Nat × Bool)} {rest : List Oper} {r : Nat → PV} {h : Heap} {cnt : Nat → Nat} {ops : Array Oper} {i : Nat} {G : Nat → Bool} {dd : Bool}
end
end Go.Pv
namespace Go.Pv
open Go Go.Proofs Go.RowKit Go.Maps Go.Sort

section
variable {P : Program}
end
end Go.Pv
namespace Go.Pv
open Go
section
variable {P : Program} {ρ : Operand → PV} {h : Heap} {key : Key} {x y : Operand} {t : TypeId}
/-- A part of an own slice from its beginning, and from a place on. -/
theorem e_cutR {k : Key} {sz len n : Nat} (hx : ρ x = .ref k sz 0 len) (hy : ρ y = .int (n : Int)) (hn : n ≤ len) (ht : sliceOk P t = true) (hz : tySize P (elemTy P t) = sz) :
   eff P ρ h key (.slice t x none (some y) none) = ⟨True, .ref k sz 0 n, [], [], false⟩ := by
 simp only [eff, Option.map_none, Option.map_some, hx, hy, sliceEff, bound, ht, hz]; simp; omega
end
end Go.Pv
namespace Go.Pv
open Go Go.RowKit
section
variable {P : Program} {K : PS → Prop} {d : Nat} {op : Op} {ty : TypeId} {pos : String} {aft : Array Edge} {gd : Option (Nat × Bool)} {rest : List Oper} {r : Nat → PV} {h : Heap} {cnt : Nat → Nat} {ops : Array Oper} {i : Nat} {G : Nat → Bool} {dd : Bool}
end

/-- What a function hands back that goes through its code, as new memory. -/
theorem PNew.of_calls {P : Program} {f : FuncId} {args : List PV} {sz d : Nat} {rows : Rows} (hsz : 1 ≤ sz) (hw : ∀ row ∈ rows, row.length = sz) (hpl : ∀ row ∈ rows, ∀ p ∈ row, ∃ x, p = .sc x ∧ isScalar x = true)
   (hc : HCallsR P f args (fun _ => none) (fun _ => 0) fun v h _ => ∃ g, v = .ref (d, g) sz 0 rows.length ∧ h (d, g) = some (.rows sz rows)) : PNew P f args sz rows := by
 refine ⟨hc.1, hsz, hw, fun w M vs hM hgw hvs hrep => ?_⟩
 refine (hc.2 (pureEnv w M true) vs (pureEnv_good hM hgw true) rfl rfl rfl hvs hrep).mono ?_
 rintro e w' ⟨u, v, E', rfl, ⟨g, rfl, hg⟩, rfl, gE, hle, hbl, hu⟩
 obtain ⟨c, T, h5, h6, h7, h8, h9, h10, h11⟩ := gE.obj _ _ hg
 have hown : w.heap.size ≤ E'.blk (d, g) := by
   rcases hle.own (E'.blk (d, g)) ⟨_, _, hg, rfl⟩ with ⟨k, o, h1, _⟩ | h1
   · exact absurd h1 (by simp [pureEnv])
   · exact h1
 refine ⟨u, E'.blk (d, g), (E'.cap (d, g)).1, (E'.cap (d, g)).2, c, T, rfl, hbl, hown, h5, h6, h7, fun i j row p h1 h2 => ?_, ?_⟩
 · obtain ⟨x, rfl, hx⟩ := hpl row (List.mem_of_getElem? h1) p (List.mem_of_getElem? h2)
   obtain ⟨v, h3, h4⟩ := h11 i j row _ h1 h2
   exact ⟨x, rfl, hx, by rw [h3, h4.sc_inv]⟩
 · generalize hn : rows.length = n at hu h7
   cases hu with
   | ref hk hlen hl =>
     obtain ⟨⟨hb, ha⟩, hcap, _⟩ := hl _ hg
     subst hb; subst ha
     refine .inl ⟨_, ?_, hlen, by simpa using hcap⟩
     rw [Nat.zero_mul, Nat.add_zero]
   | refE hk hl => exact .inr ⟨_, rfl, rfl⟩
end Go.Pv
