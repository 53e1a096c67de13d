/- Iteration over a map of typed entries; arrays; rows of texts. -/
import Derived.Test.YtjmjiegplnfiiaaPvZ5
namespace Go.Pv
open Go
section
variable {α β : Type} [DecidableEq α] {f : α → PV} {g : β → PV}

variable {P : Program} {ρ : Operand → PV} {h : Heap} {key : Key} {x y : Operand} {t : TypeId}
end

/-! ### Arrays -/
section
variable {P : Program} {ρ : Operand → PV} {h : Heap} {key : Key} {x y : Operand} {t : TypeId}
end

/-! ### An own slice in another place of the text -/
/-! ### Rows of texts -/
def cb (s : ByteArray) : List PV := [.str s]
theorem cb_pure (s : ByteArray) : ∀ p ∈ cb s, Pure p := fun p hp => by simp [cb] at hp; subst hp; exact .sc _
end Go.Pv

namespace Go.Pv
open Go Go.RowKit
/-! ### Appends in drawn regions; parts of own slices as what is appended -/
section
variable {P : Program} {K : PS → Prop} {d : Nat} {op : Op} {ty : TypeId} {pos : String} {aft : Array Edge} {rest : List Oper} {r : Nat → PV} {h : Heap} {cnt : Nat → Nat} {ops : Array Oper} {i : Nat} {G : Nat → Bool} {dd : Bool} {x y : Operand} {t : TypeId}

theorem s_any {gd : Option (Nat × Bool)} {e : Eff} {ts : List Ft} (rs ws : List Nat) (hg : gobB ops r G gd = true) (hgv : gval ops ⟨⟨r, h, cnt⟩, G⟩ gd = true) (hrd : ∀ k ∈ e.rd, k.1 ∈ rs) (hwr : ∀ k ∈ e.wr.map (·.1), k.1 ∈ ws) (hc : callOf r op = none) (hv : validB r G op = true) (he : eff P (ev r) h (d, cnt d) op = e) (hob : e.ob)
   (hk : sRun P ops dd K rest (i + 1) ⟨setT r d e.v, applyWr h e.wr, bumpC cnt d e.bump⟩ (setB G d true) (ts ++ [⟨i, rs, ws⟩])) : sRun P ops dd K (⟨some d, op, ty, pos, aft, gd⟩ :: rest) i ⟨r, h, cnt⟩ G ts := by
 intro tr ht
 unfold gOps
 refine ⟨gobB_ok hg, ?_⟩
 show match callOf r op with | none => _ | some (f, args) => _
 rw [hc]
 simp only [siteOf, Option.getD_some]
 rw [he, hgv]
 refine ⟨fun _ => ⟨validB_ok hv, hob⟩, (fun _ => rfl), ?_⟩
 have := hk (tr ++ [⟨i, e.rd, e.wr.map (·.1)⟩]) (ht.snoc rfl hrd hwr)
 simp only [stepG, stepS, putR_setT, setG_setB, effG, if_true]
 exact this

def SrcAt (h : Heap) (ds : List Nat) (sz : Nat) (u : PV) (rows : Rows) : Prop := (srcRows h sz u).1 ∧ (srcRows h sz u).2.1 = rows ∧ ∀ k ∈ (srcRows h sz u).2.2, k.1 ∈ ds
theorem SrcAt.ref {d1 g n sz : Nat} {rows : Rows} (hk : h (d1, g) = some (.rows sz rows)) (hn : rows.length = n) : SrcAt h [d1] sz (.ref (d1, g) sz 0 n) rows := by
 have h1 := src_ref (n2 := n) hk hn
 refine ⟨h1.1, h1.2, ?_⟩
 unfold srcRows; simp only [hk]; simp
end
end Go.Pv
