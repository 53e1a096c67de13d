/- 'slices.Grow' of nothing: a new own slice without elements. -/
import Derived.Test.YtdbpfhbppcpbbaaPvZ6
namespace Go.Pv
open Go Go.RowKit
theorem arr2' {a : Array Value} (h : a.size = 2) : ∃ x y, a = #[x, y] := by
  obtain ⟨l⟩ := a
  match l, h with
  | [x, y], _ => exact ⟨x, y, rfl⟩
theorem grow_core {P : Program} {fG : FuncId} {sz site n : Nat} (hb : hasBody P fG = true) (hs : 1 ≤ sz)
    (hG : ∀ (base : Option Addr) (w : World), Calls P fG #[.slice base 0 0, .int .i64 n] w fun e w' => ∃ (c : Nat) (cells : Array Value) (T : TypeId), e = .returned (.slice (some ⟨w.heap.size, 0, none⟩) 0 c) ∧ w' = w.drew.alloc (.cells cells T) ∧ cells.size = c * sz)
    {h : Heap} {c : Nat → Nat} {R : PV → Heap → (Nat → Nat) → Prop} (hR : R (.ref (site, c site) sz 0 0) (hset h (site, c site) (some (.rows sz []))) (cset c site)) : HCallsR P fG [.nil, .int n] h c R := by
  refine ⟨hb, fun E vs gE hh hcn htt hvs hrep => ?_⟩
  subst hh
  subst hcn
  obtain ⟨v0, v1, rfl⟩ := arr2' hvs
  have h0 := hrep 0 v0 _ rfl rfl
  have h1 := hrep 1 v1 _ rfl rfl
  cases h0 with
  | nil =>
  have hv1 : v1 = .int .i64 n := h1.sc_inv
  subst hv1
  refine (hG _ E.w).mono ?_
  rintro e w' ⟨cp, cells, T, rfl, rfl, hsz⟩
  have hpush : (E.w.drew.alloc (.cells cells T)).heap = E.w.heap.push (.cells cells T (0, 0)) := rfl
  have ho : ObjOK (newEnv E site (.rows sz []) (E.w.drew.alloc (.cells cells T)) cp) (site, E.cnt site) (.rows sz []) :=
    ⟨cells, T, by simp [newEnv, hpush], by simp [newEnv, hsz], by simp, hs, by simp, by simp, by simp⟩
  refine ⟨_, .ref (site, E.cnt site) sz 0 0, newEnv E site (.rows sz []) (E.w.drew.alloc (.cells cells T)) cp, rfl, hR, rfl, newEnv_good gE hpush ho, newEnv_le gE hpush, (Below.refl _ _).drew.alloc gE.size _, ?_⟩
  have hr := Rep.ref (E := newEnv E site (.rows sz []) (E.w.drew.alloc (.cells cells T)) cp) (b := E.w.heap.size) (k := (site, E.cnt site)) (sz := sz) (off := 0) (len := 0) (c := cp) (by simp [newEnv, Env.known]) (Nat.zero_le _)
    (fun o ho => by
      simp only [newEnv, if_true, Option.some.injEq] at ho
      subst ho
      exact ⟨by simp [newEnv], by simp [newEnv], _, rfl⟩)
  rw [Nat.zero_mul] at hr
  exact hr
section
variable {P : Program} {K : PS → Prop} {d : Nat} {op : Op} {ty : TypeId} {pos : String} {aft : Array Edge} {gd : Option (Nat × Bool)} {rest : List Oper} {r : Nat → PV} {h : Heap} {cnt : Nat → Nat} {ops : Array Oper} {i : Nat} {G : Nat → Bool} {dd : Bool}
theorem s_nocall {f : FuncId} {args : List PV} {ts : List Ft} (rs : List Nat) (hrd : ∀ k ∈ args.flatMap keysOf, k.1 ∈ rs) (hg : gobB ops r G gd = true) (hgv : gval ops ⟨⟨r, h, cnt⟩, G⟩ gd = false) (hc : callOf r op = some (f, args))
    (hk : sRun P ops dd K rest (i + 1) ⟨setT r d .dead, h, cnt⟩ (setB G d false) (ts ++ [⟨i, rs, []⟩])) : sRun P ops dd K (⟨some d, op, ty, pos, aft, gd⟩ :: rest) i ⟨r, h, cnt⟩ G ts := by
  intro tr ht
  unfold gOps
  refine ⟨gobB_ok hg, ?_⟩
  show match callOf r op with | none => _ | some (f, args) => _
  rw [hc]
  refine .inl ⟨.dead, (fun h => by rw [hgv] at h; cases h), ?_⟩
  rw [hgv]
  have := hk (tr ++ [⟨i, args.flatMap keysOf, []⟩]) (ht.snoc rfl hrd (by simp))
  simp only [stepG, stepS, putR_setT, setG_setB]
  exact this
end
end Go.Pv
