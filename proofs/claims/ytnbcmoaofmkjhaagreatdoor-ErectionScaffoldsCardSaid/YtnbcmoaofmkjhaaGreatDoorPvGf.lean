import Derived.Test.YtnbcmoaofmkjhaaGreatDoorPvGy
import Derived.IntWalk
set_option linter.unusedSimpArgs false
set_option linter.unusedVariables false
namespace Go.Pv
open Go Go.RowKit
def setT (r : Nat → PV) (d : Nat) (v : PV) : Nat → PV := fun i => bif Nat.beq i d then v else r i
def hset (h : Heap) (k : Key) (o : Option PObj) : Heap := fun k' => if k' = k then o else h k'
def cset (c : Nat → Nat) (s : Nat) : Nat → Nat := fun i => if i = s then c i + 1 else c i
def deadT (r : Nat → PV) (ds : List Nat) : Nat → PV := fun i => bif ds.any (Nat.beq i) then .dead else r i
theorem zBg (r : Nat → PV) (d : Nat) (v : PV) : putR r (some d) v = setT r d v := by
 funext i;simp only [putR, setT];cases h : Nat.beq i d with
 | true => rw [if_pos (Nat.eq_of_beq_eq_true h)]; rfl
 | false => rw [if_neg (zBU.1 h)]; rfl
theorem zBk (h : Heap) (k : Key) (o : Option PObj) : hset h k o k = o := if_pos rfl
theorem zAp {h : Heap} {k k' : Key} {o : Option PObj} (hn : k' ≠ k) : hset h k o k' = h k' := if_neg hn
theorem setT_id {r : Nat → PV} {d : Nat} {v : PV} (h : r d = v) : r = setT r d v := by
 funext i;simp only [setT];cases hb : Nat.beq i d with
 | true => rw [Nat.eq_of_beq_eq_true hb]; exact h
 | false => rfl
section
variable {P : Program} {K : PS → Prop} {d : Nat} {op : Op} {ty : TypeId} {pos : String} {aft : Array Edge} {gd : Option (Nat × Bool)} {rest : List Oper} {r : Nat → PV} {h : Heap} {cnt : Nat → Nat}
theorem p_end (hk : K ⟨r, h, cnt⟩) : pOps P K [] ⟨r, h, cnt⟩ := hk
theorem zEl {ob : Prop} {v : PV} {rd : List Key} (hc : zAX r op = none) (he : eff P (ev r) h (d, cnt d) op = ⟨ob, v, [], rd, false⟩) (hob : ob) (hk : pOps P K rest ⟨setT r d v, h, cnt⟩) : pOps P K (⟨some d, op, ty, pos, aft, gd⟩ :: rest) ⟨r, h, cnt⟩ := by
 unfold pOps;show match zAX r op with | none => _ | some (f, args) => _
 rw [hc];refine .inl ?_;show (eff P (ev r) h (d, cnt d) op).ob ∧ pOps P K rest (stepS ⟨r, h, cnt⟩ _ (eff P (ev r) h (d, cnt d) op));rw [he];refine ⟨hob, ?_⟩;simp only [stepS, zBg];exact hk
theorem p_new {ob : Prop} {v : PV} {rd : List Key} {k : Key} {o : Option PObj} (hc : zAX r op = none) (he : eff P (ev r) h (d, cnt d) op = ⟨ob, v, [(k, o)], rd, true⟩) (hob : ob) (hk : pOps P K rest ⟨setT r d v, hset h k o, cset cnt d⟩) : pOps P K (⟨some d, op, ty, pos, aft, gd⟩ :: rest) ⟨r, h, cnt⟩ := by
 unfold pOps;show match zAX r op with | none => _ | some (f, args) => _
 rw [hc];refine .inl ?_;show (eff P (ev r) h (d, cnt d) op).ob ∧ pOps P K rest (stepS ⟨r, h, cnt⟩ _ (eff P (ev r) h (d, cnt d) op));rw [he];refine ⟨hob, ?_⟩;simp only [stepS, zBg];exact hk
theorem zJA {ob : Prop} {v : PV} {rd : List Key} {k k' : Key} {o : Option PObj} (hc : zAX r op = none) (he : eff P (ev r) h (d, cnt d) op = ⟨ob, v, [(k', none), (k, o)], rd, true⟩) (hob : ob) (hk : pOps P K rest ⟨setT r d v, hset (hset h k' none) k o, cset cnt d⟩) : pOps P K (⟨some d, op, ty, pos, aft, gd⟩ :: rest) ⟨r, h, cnt⟩ := by
 unfold pOps;show match zAX r op with | none => _ | some (f, args) => _
 rw [hc];refine .inl ?_;show (eff P (ev r) h (d, cnt d) op).ob ∧ pOps P K rest (stepS ⟨r, h, cnt⟩ _ (eff P (ev r) h (d, cnt d) op));rw [he];refine ⟨hob, ?_⟩;simp only [stepS, zBg];exact hk
theorem zAQ {ob : Prop} {v : PV} {rd : List Key} {k : Key} {o : Option PObj} (hc : zAX r op = none) (he : eff P (ev r) h (999983, cnt 999983) op = ⟨ob, v, [(k, o)], rd, false⟩) (hob : ob) (hk : pOps P K rest ⟨r, hset h k o, cnt⟩) : pOps P K (⟨none, op, ty, pos, aft, gd⟩ :: rest) ⟨r, h, cnt⟩ := by
 unfold pOps;show match zAX r op with | none => _ | some (f, args) => _
 rw [hc];refine .inl ?_;show (eff P (ev r) h (999983, cnt 999983) op).ob ∧ pOps P K rest (stepS ⟨r, h, cnt⟩ _ (eff P (ev r) h (999983, cnt 999983) op));rw [he];exact ⟨hob, hk⟩
theorem zBs {f : FuncId} {args as' : List PV} {v : PV} (hc : zAX r op = some (f, args)) (hi : Inns h args as') (hp : PCalls P f as' v) (hk : pOps P K rest ⟨setT r d v, h, cnt⟩) : pOps P K (⟨some d, op, ty, pos, aft, gd⟩ :: rest) ⟨r, h, cnt⟩ := by
 unfold pOps;show match zAX r op with | none => _ | some (f, args) => _
 rw [hc];refine zAy.of_pure hp hi ?_;rw [zBg];exact hk
theorem p_nilq {x y : Operand} {t t' : TypeId} {tt : Bool} {sz : Nat} (hy : zHW y = true) (ht : zCv P t = true) (hx : ev r x = .lit tt sz []) (hk : ∀ b : Bool, pOps P K rest ⟨setT r d (.bool b), h, cnt⟩) :
   pOps P K (⟨some d, .binOp .eql t x y t', ty, pos, aft, gd⟩ :: rest) ⟨r, h, cnt⟩ := by
 unfold pOps;show (_ ∧ _) ∨ (_ ∨ (_ ∨ _))
 refine .inr (.inr (.inr (.inl ⟨x, y, t, t', d, tt, sz, rfl, rfl, hy, ht, hx, fun b => ?_⟩)));rw [zBg];exact hk b
theorem p_frz {ob : Prop} {v : PV} {rd : List Key} {u : Nat} {k : Key} {sz : Nat} {rs : Rows} {i j : Nat} (hc : zAX r op = none) (he : eff P (ev r) h (999983, cnt 999983) op = ⟨ob, v, [(k, some (.rows sz rs))], rd, false⟩) (hob : ob) (hu : r u = .ptr k sz i j) (hp : ∀ row ∈ rs, ∀ p ∈ row, Pure p)
   (hk : pOps P K rest ⟨setT r u (.lptr false sz rs i j), hset (hset h k (some (.rows sz rs))) k none, cnt⟩) : pOps P K (⟨none, op, ty, pos, aft, gd⟩ :: rest) ⟨r, h, cnt⟩ := by
 unfold pOps;show match zAX r op with | none => _ | some (f, args) => _
 rw [hc];have e : stepS ⟨r, h, cnt⟩ (⟨none, op, ty, pos, aft, gd⟩ : Oper) (eff P (ev r) h (999983, cnt 999983) op) = ⟨r, hset h k (some (.rows sz rs)), cnt⟩ := by rw [he]; rfl
 refine .inr (.inr (.inr (.inr ⟨u, k, sz, rs, i, j, ?_, hc, ?_, ?_, hp, ?_⟩)))
 · show (eff P (ev r) h (999983, cnt 999983) op).ob;rw [he]; exact hob
 · show (stepS ⟨r, h, cnt⟩ (⟨none, op, ty, pos, aft, gd⟩ : Oper) (eff P (ev r) h (999983, cnt 999983) op)).r u = _;rw [e]; exact hu
 · show (stepS ⟨r, h, cnt⟩ (⟨none, op, ty, pos, aft, gd⟩ : Oper) (eff P (ev r) h (999983, cnt 999983) op)).h k = _;rw [e]; exact zBk _ _ _
 · show pOps P K rest (frzS (stepS ⟨r, h, cnt⟩ (⟨none, op, ty, pos, aft, gd⟩ : Oper) (eff P (ev r) h (999983, cnt 999983) op)) u k sz rs i j);rw [e];unfold frzS;rw [zBg];exact hk
theorem zBc {f : FuncId} {args : List PV} {R : PV → Heap → (Nat → Nat) → Prop} (hc : zAX r op = some (f, args)) (hp : zAy P f args h cnt R) (hk : ∀ v h' cnt', R v h' cnt' → pOps P K rest ⟨setT r d v, h', cnt'⟩) : pOps P K (⟨some d, op, ty, pos, aft, gd⟩ :: rest) ⟨r, h, cnt⟩ := by
 unfold pOps;show match zAX r op with | none => _ | some (f, args) => _
 rw [hc];refine zAy.mono hp fun v h' cnt' hR => ?_;rw [zBg];exact hk v h' cnt' hR
def gRun (P : Program) (ops : Array Oper) (dr : Bool) (K : PS → Prop) (l : List Oper) (i : Nat) (s : PS) (G : Nat → Bool) : Prop :=
 i + l.length = ops.size → ∀ tr : List Foot, (dr = true → tr.map (·.i) = List.range i ∧ ∀ y ∈ tr, y.wr = []) → gOps P ops dr K l i ⟨s, G⟩ tr
def setB (G : Nat → Bool) (d : Nat) (c : Bool) : Nat → Bool := fun i => bif Nat.beq i d then c else G i
theorem zCb (G : Nat → Bool) (d : Nat) (c : Bool) : setG G (some d) c = setB G d c := by
 funext i;simp only [setG, setB];cases h : Nat.beq i d with
 | true => rw [if_pos (Nat.eq_of_beq_eq_true h)]; rfl
 | false => rw [if_neg (zBU.1 h)]; rfl
variable {ops : Array Oper} {dr : Bool} {i : Nat} {G : Nat → Bool}
theorem zAM (hr : gRun P ops dr K ops.toList 0 ⟨r, h, cnt⟩ fun _ => true) : gOps P ops dr K ops.toList 0 ⟨⟨r, h, cnt⟩, fun _ => true⟩ [] :=
 hr (by simp) [] fun _ => ⟨rfl, by simp⟩
def zCJ : List Oper → List Nat
 | [] => []
 | o :: l => match o.guard, o.dst with
   | some _, some d => d :: zCJ l
   | _, _ => zCJ l
theorem zGT : ∀ (l : List Oper) (r : Nat → PV), l.foldl (fun r o => if o.guard.isSome then putR r o.dst .dead else r) r = deadT r (zCJ l)
 | [], r => by funext i; rfl
 | o :: l, r => by
   simp only [List.foldl_cons];rw [zGT l];obtain ⟨dst, op, ty, pos, aft, gd⟩ := o;funext i;cases gd with
   | none => rfl
   | some g =>
     cases dst with
     | none => rfl
     | some d =>
       simp only [Option.isSome_some, if_true, zCJ, deadT, List.any_cons];cases h1 : Nat.beq i d with
       | true =>
         simp only [Bool.true_or, cond_true, putR];rw [if_pos (Nat.eq_of_beq_eq_true h1)];cases (zCJ l).any (Nat.beq i) <;> rfl
       | false =>
         simp only [Bool.false_or, putR];rw [if_neg (zBU.1 h1)]
theorem g_end {ds : List Nat} (hs : (!dr || zIe ops) = true) (hd : zCJ ops.toList = ds) (hk : K ⟨deadT r ds, h, cnt⟩) : gRun P ops dr K [] i ⟨r, h, cnt⟩ G := by
 intro hl tr ht;refine ⟨fun hdr => ?_, ?_⟩
 · obtain ⟨h1, h2⟩ := ht hdr;rw [hdr] at hs;refine zDY (by simpa using hs) ?_ (fun y hy => ?_) h2
   · rw [← List.pairwise_map (f := fun x : Foot => x.i) (R := fun a b => a < b), h1];exact List.pairwise_lt_range
   · have : y.i ∈ List.range i := by rw [← h1]; exact List.mem_map.2 ⟨y, hy, rfl⟩
     have := List.mem_range.1 this;simp at hl; omega
 · show K (fin ops.toList ⟨r, h, cnt⟩);unfold fin;rw [zGT, hd];exact hk
theorem g_tr {tr : List Foot} {rd : List Key} (ht : dr = true → tr.map (·.i) = List.range i ∧ ∀ y ∈ tr, y.wr = []) : dr = true → (tr ++ [(⟨i, rd, []⟩ : Foot)]).map (·.i) = List.range (i + 1) ∧ ∀ y ∈ tr ++ [(⟨i, rd, []⟩ : Foot)], y.wr = [] := fun hd => by
 obtain ⟨h1, h2⟩ := ht hd;refine ⟨by rw [List.map_append, h1, List.range_succ]; rfl, fun y hy => ?_⟩;rcases List.mem_append.1 hy with hy | hy
 · exact h2 y hy
 · simp at hy; subst hy; rfl
theorem g_step {ob : Prop} {v : PV} {rd : List Key} (hg : gobB ops r G gd = true) (hgv : gval ops ⟨⟨r, h, cnt⟩, G⟩ gd = true) (hc : zAX r op = none) (hv : zCL r G op = true) (he : eff P (ev r) h (d, cnt d) op = ⟨ob, v, [], rd, false⟩) (hob : ob)
   (hk : gRun P ops dr K rest (i + 1) ⟨setT r d v, h, cnt⟩ (setB G d true)) : gRun P ops dr K (⟨some d, op, ty, pos, aft, gd⟩ :: rest) i ⟨r, h, cnt⟩ G := by
 intro hl tr ht;unfold gOps;refine ⟨zDl hg, ?_⟩;show match zAX r op with | none => _ | some (f, args) => _
 rw [hc];simp only [zAH, Option.getD_some];rw [he, hgv];refine ⟨fun _ => ⟨zB1 hv, hob⟩, (fun h => by cases h), ?_⟩;have := hk (by simp at hl ⊢; omega) (tr ++ [⟨i, rd, []⟩]) (g_tr ht);simp only [stepG, stepS, zBg, zCb, effG, if_true];exact this
theorem zCO (hg : gobB ops r G gd = true) (hgv : gval ops ⟨⟨r, h, cnt⟩, G⟩ gd = false) (hc : zAX r op = none) (hk : gRun P ops dr K rest (i + 1) ⟨setT r d .dead, h, cnt⟩ (setB G d false)) :
   gRun P ops dr K (⟨some d, op, ty, pos, aft, gd⟩ :: rest) i ⟨r, h, cnt⟩ G := by
 intro hl tr ht;unfold gOps;refine ⟨zDl hg, ?_⟩;show match zAX r op with | none => _ | some (f, args) => _
 rw [hc];simp only [zAH, Option.getD_some];rw [hgv];refine ⟨(fun h => by cases h), (fun h => by cases h), ?_⟩;have := hk (by simp at hl ⊢; omega) (tr ++ [⟨i, [], []⟩]) (g_tr ht);simp only [stepG, stepS, zBg, zCb];exact this
theorem zBd {f : FuncId} {args as' : List PV} {v : PV} (hg : gobB ops r G gd = true) (hgv : gval ops ⟨⟨r, h, cnt⟩, G⟩ gd = true) (hc : zAX r op = some (f, args)) (hv : zCL r G op = true) (hi : Inns h args as') (hp : PCalls P f as' v)
   (hk : gRun P ops dr K rest (i + 1) ⟨setT r d v, h, cnt⟩ (setB G d true)) : gRun P ops dr K (⟨some d, op, ty, pos, aft, gd⟩ :: rest) i ⟨r, h, cnt⟩ G := by
 intro hl tr ht;unfold gOps;refine ⟨zDl hg, ?_⟩;show match zAX r op with | none => _ | some (f, args) => _
 rw [hc];refine .inl ⟨v, fun _ => ⟨zB1 hv, as', hi, hp⟩, ?_⟩;rw [hgv];have := hk (by simp at hl ⊢; omega) (tr ++ [⟨i, args.flatMap zBF, []⟩]) (g_tr ht);simp only [stepG, stepS, zBg, zCb];exact this
theorem zAF {f : FuncId} {args : List PV} (hg : gobB ops r G gd = true) (hgv : gval ops ⟨⟨r, h, cnt⟩, G⟩ gd = false) (hc : zAX r op = some (f, args)) (hk : gRun P ops dr K rest (i + 1) ⟨setT r d .dead, h, cnt⟩ (setB G d false)) :
   gRun P ops dr K (⟨some d, op, ty, pos, aft, gd⟩ :: rest) i ⟨r, h, cnt⟩ G := by
 intro hl tr ht;unfold gOps;refine ⟨zDl hg, ?_⟩;show match zAX r op with | none => _ | some (f, args) => _
 rw [hc];refine .inl ⟨.dead, (fun h => by rw [hgv] at h; cases h), ?_⟩;rw [hgv];have := hk (by simp at hl ⊢; omega) (tr ++ [⟨i, args.flatMap zBF, []⟩]) (g_tr ht);simp only [stepG, stepS, zBg, zCb];exact this
theorem zAw {b : Bool} (ht : b = true → gRun P ops dr K rest i ⟨setT r d (.bool true), h, cnt⟩ G) (hf : b = false → gRun P ops dr K rest i ⟨setT r d (.bool false), h, cnt⟩ G) : gRun P ops dr K rest i ⟨setT r d (.bool b), h, cnt⟩ G := by
 cases b with
 | true => exact ht rfl
 | false => exact hf rfl
end
end Go.Pv
namespace Go.Pv
open Go
section
variable {P : Program} {ρ : Operand → PV} {h : Heap} {key : Key} {x y z : Operand} {t t' : TypeId} {v : PV}
theorem zFV {n : Int} (h1 : -9223372036854775808 ≤ n) (h2 : n ≤ 9223372036854775807) : IntKind.i64.wrap n = n := IntWalk.i64_in n ⟨h1, h2⟩
theorem zAi (hx : ρ x = v) : eff P ρ h key (.move x) = ⟨True, v, [], [], false⟩ := by rw [← hx]; rfl
theorem zAs (hx : ρ x = v) : eff P ρ h key (.assign x) = ⟨True, v, [], [], false⟩ := by rw [← hx]; rfl
theorem e_add {a b : Int} (hx : ρ x = .int a) (hy : ρ y = .int b) (h1 : -9223372036854775808 ≤ a + b ∧ a + b ≤ 9223372036854775807) : eff P ρ h key (.binOp .add t x y t') = ⟨True, .int (a + b), [], [], false⟩ := by
 simp only [eff, hx, hy, zBl, zBQ, zCg, zFV h1.1 h1.2]; simp
theorem e_sub {a b : Int} (hx : ρ x = .int a) (hy : ρ y = .int b) (h1 : -9223372036854775808 ≤ a - b ∧ a - b ≤ 9223372036854775807) : eff P ρ h key (.binOp .sub t x y t') = ⟨True, .int (a - b), [], [], false⟩ := by
 simp only [eff, hx, hy, zBl, zBQ, zCg, zFV h1.1 h1.2]; simp
theorem e_mul {a b : Int} (hx : ρ x = .int a) (hy : ρ y = .int b) (h1 : -9223372036854775808 ≤ a * b ∧ a * b ≤ 9223372036854775807) : eff P ρ h key (.binOp .mul t x y t') = ⟨True, .int (a * b), [], [], false⟩ := by
 simp only [eff, hx, hy, zBl, zBQ, zCg, zFV h1.1 h1.2]; simp
theorem e_quo {a b : Int} (hx : ρ x = .int a) (hy : ρ y = .int b) (ha : 0 ≤ a) (hb : 0 < b) (h1 : a ≤ 9223372036854775807) : eff P ρ h key (.binOp .quo t x y t') = ⟨True, .int (a / b), [], [], false⟩ := by
 have h2 : a.tdiv b = a / b := Int.tdiv_eq_ediv_of_nonneg ha;have h3 : 0 ≤ a / b := Int.ediv_nonneg ha (by omega);have h4 : a / b ≤ a := Int.ediv_le_self _ ha;simp only [eff, hx, hy, zBl, zBQ, zCg, h2, zFV (n := a / b) (by omega) (by omega)]; simp; omega
theorem e_eq {k : IntKind} {a b : Int} (hx : ρ x = .sc (.int k a)) (hy : ρ y = .sc (.int k b)) : eff P ρ h key (.binOp .eql t x y t') = ⟨True, .bool (decide (a = b)), [], [], false⟩ := by
 simp only [eff, hx, hy, zBl, zBQ, zCg]; simp [Bool.beq_eq_decide_eq]
theorem e_ne {k : IntKind} {a b : Int} (hx : ρ x = .sc (.int k a)) (hy : ρ y = .sc (.int k b)) : eff P ρ h key (.binOp .neq t x y t') = ⟨True, .bool (decide (a ≠ b)), [], [], false⟩ := by
 simp only [eff, hx, hy, zBl, zBQ, zCg, bne]; simp [Bool.beq_eq_decide_eq]
theorem e_lt {k : IntKind} {a b : Int} (hx : ρ x = .sc (.int k a)) (hy : ρ y = .sc (.int k b)) : eff P ρ h key (.binOp .lss t x y t') = ⟨True, .bool (decide (a < b)), [], [], false⟩ := by
 simp only [eff, hx, hy, zBl, zBQ, zCg]; simp
theorem e_le {k : IntKind} {a b : Int} (hx : ρ x = .sc (.int k a)) (hy : ρ y = .sc (.int k b)) : eff P ρ h key (.binOp .leq t x y t') = ⟨True, .bool (decide (a ≤ b)), [], [], false⟩ := by
 simp only [eff, hx, hy, zBl, zBQ, zCg]; simp
theorem e_gt {k : IntKind} {a b : Int} (hx : ρ x = .sc (.int k a)) (hy : ρ y = .sc (.int k b)) : eff P ρ h key (.binOp .gtr t x y t') = ⟨True, .bool (decide (b < a)), [], [], false⟩ := by
 simp only [eff, hx, hy, zBl, zBQ, zCg]; simp
theorem e_ge {k : IntKind} {a b : Int} (hx : ρ x = .sc (.int k a)) (hy : ρ y = .sc (.int k b)) : eff P ρ h key (.binOp .geq t x y t') = ⟨True, .bool (decide (b ≤ a)), [], [], false⟩ := by
 simp only [eff, hx, hy, zBl, zBQ, zCg]; simp
theorem e_sne {a b : ByteArray} (hx : ρ x = .str a) (hy : ρ y = .str b) : eff P ρ h key (.binOp .neq t x y t') = ⟨True, .bool (decide (a ≠ b)), [], [], false⟩ := by
 simp only [eff, hx, hy, zBl, zBQ, zG8]; simp
theorem e_not {b : Bool} (hx : ρ x = .bool b) : eff P ρ h key (.unOp .not t x) = ⟨True, .bool (!b), [], [], false⟩ := by
 simp only [eff, hx, unEff]
theorem zCX (hx : ρ x = .bool true) (hy : ρ y = v) : eff P ρ h key (.pick x y z) = ⟨True, v, [], [], false⟩ := by
 simp only [eff, hx, zE2, if_true, hy]
theorem zGi (hx : ρ x = .bool false) (hz : ρ z = v) : eff P ρ h key (.pick x y z) = ⟨True, v, [], [], false⟩ := by
 simp only [eff, hx, zE2, hz]; simp
theorem zKD {k k' : IntKind} {a : Int} (hx : ρ x = .sc (.int k' a)) (hk : zBm P t' = some k) (hs : (P.underlying t).isSome = true) (hw : k.wrap a = a) : eff P ρ h key (.convert t t' x) = ⟨True, .sc (.int k a), [], [], false⟩ := by
 simp only [eff, hx, zDE, zEw, hk, hs, hw]
theorem e_ext {vs : List PV} {i : Nat} (hx : ρ x = .tup vs) (hi : i < vs.length) (hv : vs.getD i .dead = v) : eff P ρ h key (.extract x i) = ⟨True, v, [], [], false⟩ := by
 simp only [eff, hx, zCB, hv, hi]
theorem e_max {as : Array TypeId} {a b : Int} (hx : ρ x = .int a) (hy : ρ y = .int b) : eff P ρ h key (.call { callee := .builtin .max, args := #[x, y], argTypes := as }) = ⟨True, .int (max a b), [], [], false⟩ := by
 show zA9 P h key .max as.toList [ρ x, ρ y] = _;rw [hx, hy];unfold zA9;cases as.toList <;> simp [maxs]
theorem e_min {as : Array TypeId} {a b : Int} (hx : ρ x = .int a) (hy : ρ y = .int b) : eff P ρ h key (.call { callee := .builtin .min, args := #[x, y], argTypes := as }) = ⟨True, .int (min a b), [], [], false⟩ := by
 show zA9 P h key .min as.toList [ρ x, ρ y] = _;rw [hx, hy];unfold zA9;cases as.toList <;> simp [mins]
theorem e_len {tt : Bool} {sz : Nat} {rows : Rows} {t2 : TypeId} (hx : ρ x = .lit tt sz rows) (ht : zAN P t2 = true) : eff P ρ h key (.call { callee := .builtin .len, args := #[x], argTypes := #[t2] }) = ⟨True, .int rows.length, [], [], false⟩ := by
 show zEN P h t2 (ρ x) = _;rw [hx]; simp only [zEN, ht]
theorem zJ8 {k : Key} {sz off len : Nat} {t2 : TypeId} (hx : ρ x = .ref k sz off len) (ht : zAN P t2 = true) : eff P ρ h key (.call { callee := .builtin .len, args := #[x], argTypes := #[t2] }) = ⟨True, .int len, [], [], false⟩ := by
 show zEN P h t2 (ρ x) = _;rw [hx]; simp only [zEN, ht]
theorem zLQ {t2 : TypeId} (hx : ρ x = .nil) (ht : zAN P t2 = true) : eff P ρ h key (.call { callee := .builtin .len, args := #[x], argTypes := #[t2] }) = ⟨True, .int 0, [], [], false⟩ := by
 show zEN P h t2 (ρ x) = _;rw [hx]; simp only [zEN, ht]
theorem e_ixa {tt : Bool} {sz : Nat} {rows : Rows} {k : IntKind} {i : Int} (hx : ρ x = .lit tt sz rows) (hy : ρ y = .sc (.int k i)) (ht : zAN P t = true) (hs : zAr P (zAu P t) = sz) (hi : 0 ≤ i ∧ i < rows.length) :
   eff P ρ h key (.indexAddr t x y) = ⟨True, .lptr tt sz rows i.toNat 0, [], [], false⟩ := by
 simp only [eff, hx, hy, zBu, ht, hs]; simp [hi]
theorem zBD {tt : Bool} {sz : Nat} {rows : Rows} {i j : Nat} (hx : ρ x = .lptr tt sz rows i j) (hg : tyAgg P t = false) (hs : zAr P t = 1) (ht : tyOk P t = true) (hi : i < rows.length) (hj : j < sz) (hv : zCZ rows i j = v) :
   eff P ρ h key (.load t x) = ⟨True, v, [], [], false⟩ := by
 simp only [eff, hx, zBK, hg, hs, ht, hv]; simp [hi]; omega
theorem e_loadA {tt : Bool} {sz : Nat} {rows : Rows} {i j n : Nat} {cs : List PV} (hx : ρ x = .lptr tt sz rows i j) (hg : tyAgg P t = true) (hs : zAr P t = n) (ht : tyOk P t = true) (hi : i < rows.length) (hj : j + n ≤ sz) (hv : aggAt rows i j n = cs) :
   eff P ρ h key (.load t x) = ⟨True, .agg cs, [], [], false⟩ := by
 simp only [eff, hx, zBK, hg, hs, ht, hv]; simp [hi, hj]
theorem e_fa {tt : Bool} {sz : Nat} {rows : Rows} {i j f : Nat} {pl : List (Nat × Nat × Bool)} {o : Nat} (hx : ρ x = .lptr tt sz rows i j) (ht : zBG P t = true) (hp : zBp P t = pl) (hf : f < pl.length) (ho : (pl.getD f (0, 0, false)).1 = o) :
   eff P ρ h key (.fieldAddr t x f) = ⟨True, .lptr tt sz rows i (j + o), [], [], false⟩ := by
 simp only [eff, hx, zBO, ht, hp, ho, hf]; simp
theorem zLm {cs : List PV} {f : Nat} {pl : List (Nat × Nat × Bool)} (hx : ρ x = .agg cs) (ht : zBG P t = true) (hp : zBp P t = pl) (hf : f < pl.length) (hl : (pl.getD f (0, 0, false)).1 + (pl.getD f (0, 0, false)).2.1 ≤ cs.length) (hv : zFt cs (pl.getD f (0, 0, false)) = v) :
   eff P ρ h key (.field t x f) = ⟨True, v, [], [], false⟩ := by
 simp only [eff, hx, zEd, ht, hp, hv, hf, hl]; simp
end
end Go.Pv
namespace Go.Pv
open Go
section
variable {P : Program} {R : PV → Heap → (Nat → Nat) → Prop} {r : Nat → PV} {h : Heap} {cnt : Nat → Nat}
theorem end1 {t : Nat} {v : PV} (hv : r t = v) (hR : R v h cnt) : endQ P [.tmp t] R .ret ⟨r, h, cnt⟩ := by
 subst hv; exact ⟨trivial, hR⟩
theorem end2 {t u : Nat} {v w : PV} (hv : r t = v) (hw : r u = w) (hR : R (.tup [v, w]) h cnt) : endQ P [.tmp t, .tmp u] R .ret ⟨r, h, cnt⟩ := by
 subst hv; subst hw;exact ⟨fun x hx => by simp at hx; rcases hx with rfl | rfl <;> trivial, hR⟩
theorem end3 {t u s : Nat} {v w x : PV} (hv : r t = v) (hw : r u = w) (hx : r s = x) (hR : R (.tup [v, w, x]) h cnt) : endQ P [.tmp t, .tmp u, .tmp s] R .ret ⟨r, h, cnt⟩ := by
 subst hv; subst hw; subst hx;exact ⟨fun x hx => by simp at hx; rcases hx with rfl | rfl | rfl <;> trivial, hR⟩
theorem end0n (hR : R (.tup []) h cnt) : endQ P [] R .normal ⟨r, h, cnt⟩ := ⟨fun x hx => by simp at hx, hR⟩
theorem zAk {K : PS → Prop} {Q : Exit → PS → Prop} {s : PS} (h : Q .ret s) : seqQ K Q .ret s := h
theorem zAc {id : Nat} {Q : Exit → PS → Prop} {s : PS} (h : Q .ret s) : zJb id Q .ret s := h
theorem zAP {I : Nat → PS → Prop} {n : Nat} {Q : Exit → PS → Prop} {s : PS} (h : Q .ret s) : loopQ I n Q .ret s := h
theorem zAb {K : PS → Prop} {Q : Exit → PS → Prop} {s : PS} (h : K s) : seqQ K Q .normal s := h
theorem zAj {id : Nat} {Q : Exit → PS → Prop} {s : PS} (h : Q .normal s) : zJb id Q .normal s := h
theorem zAK {K : PS → Prop} {Q : Exit → PS → Prop} {i : Nat} {s : PS} (h : Q (.exit i) s) : seqQ K Q (.exit i) s := h
theorem zAC {I : Nat → PS → Prop} {n : Nat} {Q : Exit → PS → Prop} {i : Nat} {s : PS} (h : Q (.exit i) s) : loopQ I n Q (.exit i) s := h
theorem zAA {i : Nat} {Q : Exit → PS → Prop} {s : PS} (h : Q .normal s) : zJb i Q (.exit i) s := by show (if i = i then _ else _); rw [if_pos rfl]; exact h
theorem zFM {i id : Nat} {Q : Exit → PS → Prop} {s : PS} (hn : i ≠ id) (h : Q (.exit i) s) : zJb id Q (.exit i) s := by show (if i = id then _ else _); rw [if_neg hn]; exact h
theorem out_b {a b : Bool} (hab : a = b) : Out h (.bool a) (.bool b) := by subst hab; exact .clean (.sc _)
theorem out_i {k : IntKind} {a b : Int} (hab : a = b) : Out h (.sc (.int k a)) (.sc (.int k b)) := by subst hab; exact .clean (.sc _)
theorem out_2 {a b a' b' : PV} (h1 : Out h a a') (h2 : Out h b b') : Out h (.tup [a, b]) (.tup [a', b']) := by
 refine .tup rfl fun i p q hp hq => ?_
 match i with
 | 0 => simp at hp hq; subst hp; subst hq; exact h1
 | 1 => simp at hp hq; subst hp; subst hq; exact h2
 | i + 2 => simp at hp
theorem out_3 {a b c a' b' c' : PV} (h1 : Out h a a') (h2 : Out h b b') (h3 : Out h c c') : Out h (.tup [a, b, c]) (.tup [a', b', c']) := by
 refine .tup rfl fun i p q hp hq => ?_
 match i with
 | 0 => simp at hp hq; subst hp; subst hq; exact h1
 | 1 => simp at hp hq; subst hp; subst hq; exact h2
 | 2 => simp at hp hq; subst hp; subst hq; exact h3
 | i + 3 => simp at hp
theorem zAY {x : Value} : Inn h (.sc x) (.sc x) := .base (.pure (.sc x))
theorem zBV {t : Bool} {sz : Nat} {rows : Rows} : Inn h (.lit t sz rows) (.lit true sz rows) := .base (.lit fun _ => rfl)
theorem zKs {a b : PV} (h1 : Pure a) (h2 : Pure b) : Pure (.tup [a, b]) := .tup _ fun p hp => by
 simp at hp; rcases hp with rfl | rfl <;> assumption
theorem pure_3 {a b c : PV} (h1 : Pure a) (h2 : Pure b) (h3 : Pure c) : Pure (.tup [a, b, c]) := .tup _ fun p hp => by
 simp at hp; rcases hp with rfl | rfl | rfl <;> assumption
end
end Go.Pv
