/- slices.Repeat of one number. No conditions. -/
import Derived.Test.YtigdmkhdmbbfiaaFd
import Derived.Laws.BitsAllLaws
set_option linter.unusedSimpArgs false
set_option linter.unusedVariables false
set_option maxRecDepth 100000
namespace Go.Proofs.Ytigdmkhdmbbfiaa
open Go Go.Pv
/-! ### Words of 64 bits -/
section
variable {P : Program} {ρ : Operand → PV} {h : Heap} {key : Key} {x y : Operand} {t t' : TypeId}
theorem e_uand {a b r : Nat} (hx : ρ x = .sc (.int .u64 (a : Int))) (hy : ρ y = .sc (.int .u64 (b : Int))) (ha : a < 4611686018427387904) (hb : b < 4611686018427387904) (hr : a &&& b = r) : eff P ρ h key (.binOp .and t x y t') = ⟨True, .sc (.int .u64 (r : Int)), [], [], false⟩ := by
 subst hr; simp only [eff, hx, hy, binEffN, binEff, intBin, u64_and_nat a b (by omega) (by omega)]; simp
theorem e_umul {a b r : Nat} (hx : ρ x = .sc (.int .u64 (a : Int))) (hy : ρ y = .sc (.int .u64 (b : Int))) (hr : a * b = r) (hl : r < 4611686018427387904) : eff P ρ h key (.binOp .mul t x y t') = ⟨True, .sc (.int .u64 (r : Int)), [], [], false⟩ := by
 have h1 : IntKind.u64.wrap ((a : Int) * (b : Int)) = (r : Int) := by
   rw [IntKind.wrap_u64, ← hr, Int.natCast_mul]
   have : ((a : Int) * (b : Int)) = (r : Int) := by rw [← hr, Int.natCast_mul]
   omega
 simp only [eff, hx, hy, binEffN, binEff, intBin, h1]; simp
theorem e_uadd {a b r : Nat} (hx : ρ x = .sc (.int .u64 (a : Int))) (hy : ρ y = .sc (.int .u64 (b : Int))) (hr : a + b = r) (hl : r < 4611686018427387904) : eff P ρ h key (.binOp .add t x y t') = ⟨True, .sc (.int .u64 (r : Int)), [], [], false⟩ := by
 have h1 : IntKind.u64.wrap ((a : Int) + (b : Int)) = (r : Int) := by rw [IntKind.wrap_u64]; omega
 simp only [eff, hx, hy, binEffN, binEff, intBin, h1]; simp
theorem e_ushr {a r : Nat} (hx : ρ x = .sc (.int .u64 (a : Int))) (hy : ρ y = .sc (.int .u64 32)) (hr : a / 4294967296 = r) : eff P ρ h key (.binOp .shr t x y t') = ⟨True, .sc (.int .u64 (r : Int)), [], [], false⟩ := by
 subst hr
 simp only [eff, hx, hy, binEffN, binEff, intBin]
 have h1 : min (32 : Int).toNat 64 = 32 := by decide
 rw [show IntKind.u64.bits = 64 from rfl, h1, Int.fdiv_eq_ediv_of_nonneg _ (by decide)]
 simp
theorem and_m (n : Nat) (h : n < 4294967296) : n &&& 4294967295 = n := by
 have := Nat.and_two_pow_sub_one_eq_mod n 32
 rw [show (2 : Nat) ^ 32 - 1 = 4294967295 by decide, show (2 : Nat) ^ 32 = 4294967296 by decide] at this
 rw [this]; exact Nat.mod_eq_of_lt h
theorem i64_xor_nat (a b : Nat) (ha : a < 4611686018427387904) (hb : b < 4611686018427387904) : bits .xor .i64 (a : Int) (b : Int) = ((a ^^^ b : Nat) : Int) := by
 have hx : a ^^^ b < 2 ^ 62 := Nat.xor_lt_two_pow (by omega) (by omega)
 show IntKind.i64.wrap ((BitVec.ofInt 64 (a : Int) ^^^ BitVec.ofInt 64 (b : Int)).toNat : Int) = _
 rw [BitVec.toNat_xor, ofInt_u64 a (by omega), ofInt_u64 b (by omega)]
 exact wrap64 (by omega) (by omega)
theorem xor_1 (k : Nat) : k ^^^ 1 = opP k := by
 rw [opP]
 apply Nat.eq_of_testBit_eq
 intro i
 rw [Nat.testBit_xor]
 rcases Nat.mod_two_eq_zero_or_one k with e | e
 · rw [if_pos e]
   cases i with
   | zero => simp [Nat.testBit_zero, e]; omega
   | succ i => simp only [Nat.testBit_succ]; rw [show (k + 1) / 2 = k / 2 by omega]; simp
 · rw [if_neg (by omega)]
   cases i with
   | zero => simp [Nat.testBit_zero, e]; omega
   | succ i => simp only [Nat.testBit_succ]; rw [show (k - 1) / 2 = k / 2 by omega]; simp
theorem e_xor1 {k : Nat} (hx : ρ x = .int (k : Int)) (hy : ρ y = .int 1) (hk : k < 1000000) : eff P ρ h key (.binOp .xor t x y t') = ⟨True, .int ((opP k : Nat) : Int), [], [], false⟩ := by
 have h1 := i64_xor_nat k 1 (by omega) (by omega)
 rw [xor_1] at h1
 simp only [eff, hx, hy, binEffN, binEff, intBin]
 rw [show (1 : Int) = ((1 : Nat) : Int) from rfl, h1]; simp
/-- A part of an own slice is copied to the part behind it. -/
theorem e_cpy {ts : Array TypeId} {k : Key} {n N : Nat} {zs : List Int} (hts : ts.toList.head? = some t) (hx : ρ x = .ref k 1 n (N - n)) (hy : ρ y = .ref k 1 0 n) (hk : h k = some (.rows 1 (zs.map ci))) (hl : zs.length = N) (hn : n ≤ N) (hs : sliceOk P t = true) (hz : tySize P (elemTy P t) = 1) :
   eff P ρ h key (.call { callee := .builtin .copy, args := #[x, y], argTypes := ts }) = ⟨True, .int ((Nat.min n (N - n) : Nat) : Int), [(k, some (.rows 1 ((zs.take n ++ (zs.take n).take (N - n) ++ zs.drop (n + Nat.min n (N - n))).map ci)))], [k, k], false⟩ := by
 show builtinEff P h key .copy ts.toList [ρ x, ρ y] = _
 have h1 : ∃ r, ts.toList = t :: r := by
   cases hc : ts.toList with
   | nil => rw [hc] at hts; cases hts
   | cons a r => rw [hc] at hts; simp at hts; subst hts; exact ⟨r, rfl⟩
 obtain ⟨r, h1⟩ := h1
 rw [h1, hx, hy]
 simp only [builtinEff]
 unfold copyEff
 simp only [srcRows, hk, hs, hz, isSl, List.length_map, List.drop_zero, List.length_take, hl, Nat.min_eq_left hn, Nat.zero_add]
 have e1 : (List.map ci zs).take n ++ ((List.map ci zs).take n).take (N - n) ++ (List.map ci zs).drop (n + Nat.min n (N - n)) = (zs.take n ++ (zs.take n).take (N - n) ++ zs.drop (n + Nat.min n (N - n))).map ci := by
   simp only [List.map_append, List.map_take, List.map_drop]
 have e2 : Nat.min (min n N) (N - n) = Nat.min n (N - n) := by rw [Nat.min_eq_left hn]
 first | rw [e1] | skip
 simp [hn]
 try omega
/-- A whole slice that does not change is copied to an own one. -/
theorem e_cpy1 {ts : Array TypeId} {k : Key} {N : Nat} {tt : Bool} {zs : List Int} {a : Int} (hts : ts.toList.head? = some t) (hx : ρ x = .ref k 1 0 N) (hy : ρ y = .lit tt 1 ([a].map ci)) (hk : h k = some (.rows 1 (zs.map ci))) (hl : zs.length = N) (hn : 1 ≤ N) (hs : sliceOk P t = true) (hz : tySize P (elemTy P t) = 1) :
   eff P ρ h key (.call { callee := .builtin .copy, args := #[x, y], argTypes := ts }) = ⟨True, .int 1, [(k, some (.rows 1 ((a :: zs.drop 1).map ci)))], [k], false⟩ := by
 show builtinEff P h key .copy ts.toList [ρ x, ρ y] = _
 have h1 : ∃ r, ts.toList = t :: r := by
   cases hc : ts.toList with
   | nil => rw [hc] at hts; cases hts
   | cons a r => rw [hc] at hts; simp at hts; subst hts; exact ⟨r, rfl⟩
 obtain ⟨r, h1⟩ := h1
 rw [h1, hx, hy]
 simp only [builtinEff]
 unfold copyEff
 have e3 : Nat.min 1 N = 1 := Nat.min_eq_left hn
 simp only [srcRows, hk, hs, hz, isSl, List.length_map, List.map_cons, List.map_nil, List.length_cons, List.length_nil, hl, Nat.zero_add, e3]
 obtain ⟨m, rfl⟩ : ∃ m, N = m + 1 := ⟨N - 1, by omega⟩
 simp
end
/-- What is copied has the same numbers. -/
theorem cpy_s {zs : List Int} {n N : Nat} (hl : zs.length = N) (hn : n ≤ N) (hz : ∀ i, i < n → zs[i]? = some (-1)) : (zs.take n ++ (zs.take n).take (N - n) ++ zs.drop (n + Nat.min n (N - n))).length = N ∧ ∀ i, i < n + Nat.min n (N - n) → (zs.take n ++ (zs.take n).take (N - n) ++ zs.drop (n + Nat.min n (N - n)))[i]? = some (-1) := by
 have h1 : (zs.take n).length = n := by rw [List.length_take]; omega
 have hm : Nat.min n (N - n) = min n (N - n) := rfl
 have h2 : ((zs.take n).take (N - n)).length = Nat.min n (N - n) := by rw [List.length_take, h1, hm, Nat.min_comm]
 refine ⟨by rw [List.length_append, List.length_append, h1, h2, List.length_drop, hl, hm]; omega, fun i hi => ?_⟩
 rw [List.getElem?_append_left (by rw [List.length_append, h1, h2]; omega)]
 by_cases e : i < n
 · rw [List.getElem?_append_left (by omega), List.getElem?_take_of_lt e]; exact hz i e
 · rw [List.getElem?_append_right (by omega), h1, List.getElem?_take_of_lt (by rw [hm] at hi; omega), List.getElem?_take_of_lt (by rw [hm] at hi; omega)]
   exact hz _ (by rw [hm] at hi; omega)
theorem rep_e {zs : List Int} {N : Nat} (hl : zs.length = N) (hz : ∀ i, i < N → zs[i]? = some (-1)) : zs = List.replicate N (-1) := by
 apply List.ext_getElem?
 intro i
 rw [List.getElem?_replicate]
 by_cases e : i < N
 · rw [if_pos e]; exact hz i e
 · rw [if_neg e, List.getElem?_eq_none (by omega)]

theorem e_gtF {P : Program} {ρ : Operand → PV} {h : Heap} {key : Key} {x y : Operand} {t t' : TypeId} {k : IntKind} {a b : Int} (hx : ρ x = .sc (.int k a)) (hy : ρ y = .sc (.int k b)) (hb : ¬ b < a) : eff P ρ h key (.binOp .gtr t x y t') = ⟨True, .bool false, [], [], false⟩ := by
 rw [e_gt hx hy, decide_eq_false hb]
theorem p_wr {P : Program} {K : PS → Prop} {d : Nat} {op : Op} {ty : TypeId} {pos : String} {aft : Array Edge} {gd : Option (Nat × Bool)} {rest : List Oper} {r : Nat → PV} {h : Heap} {cnt : Nat → Nat} {ob : Prop} {v : PV} {k : Key} {o : Option PObj} {rd : List Key} (hc : callOf r op = none) (he : eff P (ev r) h (d, cnt d) op = ⟨ob, v, [(k, o)], rd, false⟩) (hob : ob) (hk : pOps P K rest ⟨setT r d v, hset h k o, cnt⟩) : pOps P K (⟨some d, op, ty, pos, aft, gd⟩ :: rest) ⟨r, h, cnt⟩ := by
 unfold pOps
 show match callOf r op with | none => _ | some (f, args) => _
 rw [hc]
 refine .inl ⟨?_, ?_⟩
 · show (eff P (ev r) h (d, cnt d) op).ob
   rw [he]; exact hob
 · show pOps P K rest (stepS _ _ (eff P (ev r) h (d, cnt d) op))
   rw [he]
   simp only [stepS, putR_setT]
   exact hk
theorem s_wr {P : Program} {K : PS → Prop} {d : Nat} {op : Op} {ty : TypeId} {pos : String} {aft : Array Edge} {gd : Option (Nat × Bool)} {rest : List Oper} {r : Nat → PV} {h : Heap} {cnt : Nat → Nat} {ops : Array Oper} {i : Nat} {G : Nat → Bool} {dd : Bool} {ts : List Ft} {ob : Prop} {v : PV} {k : Key} {o : Option PObj} {rd : List Key} (rs ws : List Nat) (hg : gobB ops r G gd = true) (hgv : gval ops ⟨⟨r, h, cnt⟩, G⟩ gd = true) (hrd : ∀ k ∈ rd, k.1 ∈ rs) (hwr : k.1 ∈ ws) (hc : callOf r op = none) (hv : validB r G op = true) (he : eff P (ev r) h (d, cnt d) op = ⟨ob, v, [(k, o)], rd, false⟩) (hob : ob)
   (hk : sRun P ops dd K rest (i + 1) ⟨setT r d v, hset h k o, cnt⟩ (setB G d true) (ts ++ [⟨i, rs, ws⟩])) : sRun P ops dd K (⟨some d, op, ty, pos, aft, gd⟩ :: rest) i ⟨r, h, cnt⟩ G ts :=
 s_any (e := ⟨ob, v, [(k, o)], rd, false⟩) rs ws hg hgv hrd (by simpa using hwr) hc hv he hob hk
theorem fr126 : (inFrame Try.f126.ntmps (Try.f126.body.getD .skip) && Try.f126.results.toList.all (resScope Try.f126.ntmps)) = true := by kernel_rfl
theorem mul64C (n : Nat) (hn : n < 4294967296) : PCalls Try.prog 126 [.sc (.int .u64 1), .sc (.int .u64 (n : Int))] (.tup [.sc (.int .u64 0), .sc (.int .u64 (n : Int))]) := by
 refine PCalls.of_code Try.func126 rfl rfl (by kernel_rfl) mixed fr126 (by show _ ≤ 51; simp) (pure_2 (.sc _) (.sc _)) ?_
 refine pwp_seq_plain rfl fun K1 hK1 => ?_
 refine p_aS rfl ?_
 refine p_aS rfl ?_
 refine p_end (hK1 _ ?_); clear hK1 K1
 refine pwp_seq_plain rfl fun K2 hK2 => ?_
 refine p_mS rfl ?_
 refine p_e rfl (e_uand (a := 1) (b := 4294967295) (r := 1) rfl rfl (by decide) (by decide) (by decide)) ?_
 refine p_aS rfl ?_
 refine p_end (hK2 _ ?_); clear hK2 K2
 refine pwp_seq_plain rfl fun K3 hK3 => ?_
 refine p_mS rfl ?_
 refine p_e rfl (e_ushr (a := 1) (r := 0) rfl rfl (by decide)) ?_
 refine p_aS rfl ?_
 refine p_end (hK3 _ ?_); clear hK3 K3
 refine pwp_seq_plain rfl fun K4 hK4 => ?_
 refine p_mS rfl ?_
 refine p_e rfl (e_uand (a := n) (b := 4294967295) (r := n) rfl rfl (by omega) (by decide) (and_m n (by omega))) ?_
 refine p_aS rfl ?_
 refine p_end (hK4 _ ?_); clear hK4 K4
 refine pwp_seq_plain rfl fun K5 hK5 => ?_
 refine p_mS rfl ?_
 refine p_e rfl (e_ushr (a := n) (r := 0) rfl rfl (by omega)) ?_
 refine p_aS rfl ?_
 refine p_end (hK5 _ ?_); clear hK5 K5
 refine pwp_seq_plain rfl fun K6 hK6 => ?_
 refine p_mS rfl ?_
 refine p_mS rfl ?_
 refine p_e rfl (e_umul (a := 1) (b := n) (r := n) rfl rfl (by omega) (by omega)) ?_
 refine p_aS rfl ?_
 refine p_end (hK6 _ ?_); clear hK6 K6
 refine pwp_seq_plain rfl fun K7 hK7 => ?_
 refine p_mS rfl ?_
 refine p_mS rfl ?_
 refine p_e rfl (e_umul (a := 0) (b := n) (r := 0) rfl rfl (by omega) (by decide)) ?_
 refine p_mS rfl ?_
 refine p_e rfl (e_ushr (a := n) (r := 0) rfl rfl (by omega)) ?_
 refine p_e rfl (e_uadd (a := 0) (b := 0) (r := 0) rfl rfl rfl (by decide)) ?_
 refine p_aS rfl ?_
 refine p_end (hK7 _ ?_); clear hK7 K7
 refine pwp_seq_plain rfl fun K8 hK8 => ?_
 refine p_mS rfl ?_
 refine p_e rfl (e_uand (a := 0) (b := 4294967295) (r := 0) rfl rfl (by decide) (by decide) (by decide)) ?_
 refine p_aS rfl ?_
 refine p_end (hK8 _ ?_); clear hK8 K8
 refine pwp_seq_plain rfl fun K9 hK9 => ?_
 refine p_mS rfl ?_
 refine p_e rfl (e_ushr (a := 0) (r := 0) rfl rfl (by decide)) ?_
 refine p_aS rfl ?_
 refine p_end (hK9 _ ?_); clear hK9 K9
 refine pwp_seq_plain rfl fun K10 hK10 => ?_
 refine p_mS rfl ?_
 refine p_mS rfl ?_
 refine p_mS rfl ?_
 refine p_e rfl (e_umul (a := 1) (b := 0) (r := 0) rfl rfl rfl (by decide)) ?_
 refine p_e rfl (e_uadd (a := 0) (b := 0) (r := 0) rfl rfl rfl (by decide)) ?_
 refine p_aS rfl ?_
 refine p_end (hK10 _ ?_); clear hK10 K10
 refine pwp_seq_plain rfl fun K11 hK11 => ?_
 refine p_mS rfl ?_
 refine p_mS rfl ?_
 refine p_e rfl (e_umul (a := 0) (b := 0) (r := 0) rfl rfl rfl (by decide)) ?_
 refine p_mS rfl ?_
 refine p_e rfl (e_uadd (a := 0) (b := 0) (r := 0) rfl rfl rfl (by decide)) ?_
 refine p_mS rfl ?_
 refine p_e rfl (e_ushr (a := 0) (r := 0) rfl rfl (by decide)) ?_
 refine p_e rfl (e_uadd (a := 0) (b := 0) (r := 0) rfl rfl rfl (by decide)) ?_
 refine p_aS rfl ?_
 refine p_end (hK11 _ ?_); clear hK11 K11
 refine pwp_seq_plain rfl fun K12 hK12 => ?_
 refine p_mS rfl ?_
 refine p_mS rfl ?_
 refine p_e rfl (e_umul (a := 1) (b := n) (r := n) rfl rfl (by omega) (by omega)) ?_
 refine p_aS rfl ?_
 refine p_end (hK12 _ ?_); clear hK12 K12
 refine pwp_ret ?_
 refine end2 (v := .sc _) (w := .sc _) rfl rfl ?_
 exact out_2 (out_i rfl) (out_i rfl)

theorem fr108 : (inFrame Try.f108.ntmps (Try.f108.body.getD .skip) && Try.f108.results.toList.all (resScope Try.f108.ntmps)) = true := by kernel_rfl
theorem mulC (n : Nat) (hn : n < 4294967296) : PCalls Try.prog 108 [.sc (.int .u64 1), .sc (.int .u64 (n : Int))] (.tup [.sc (.int .u64 0), .sc (.int .u64 (n : Int))]) := by
 refine PCalls.of_code Try.func108 rfl rfl (by kernel_rfl) mixed fr108 (by show _ ≤ 30; simp) (pure_2 (.sc _) (.sc _)) ?_
 refine pwp_seq_plain rfl fun K1 hK1 => ?_
 refine p_aS rfl ?_
 refine p_aS rfl ?_
 refine p_end (hK1 _ ?_); clear hK1 K1
 refine pwp_seq_cond (t := false) rfl fun K2 hK2 => ⟨nofun, fun _ => ?_⟩
 refine pwp_skip ?_
 refine seq_norm (hK2 _ ?_); clear hK2 K2
 refine pwp_seq_plain rfl fun K3 hK3 => ?_
 refine p_mS rfl ?_
 refine p_mS rfl ?_
 refine p_call rfl (.cons inn_sc (.cons inn_sc .nil)) (mul64C n hn) ?_
 refine p_e rfl (e_move (v := .tup _) rfl) ?_
 refine p_e rfl (e_ext (v := .sc _) rfl (by simp) rfl) ?_
 refine p_e rfl (e_ext (v := .sc _) rfl (by simp) rfl) ?_
 refine p_aS rfl ?_
 refine p_aS rfl ?_
 refine p_end (hK3 _ ?_); clear hK3 K3
 refine pwp_seq_plain rfl fun K4 hK4 => ?_
 refine p_mS rfl ?_
 refine p_mS rfl ?_
 refine p_aS rfl ?_
 refine p_aS rfl ?_
 refine p_end (hK4 _ ?_); clear hK4 K4
 refine pwp_ret ?_
 refine end2 (v := .sc _) (w := .sc _) rfl rfl ?_
 exact out_2 (out_i rfl) (out_i rfl)

theorem frH93 : (inFrame Try.f93.ntmps (Try.f93.body.getD .skip) && Try.f93.results.toList.all (resScope Try.f93.ntmps)) = true := by kernel_rfl
theorem repeatH (n : Nat) (hn : 1 ≤ n ∧ n ≤ 100000) : HCallsR Try.prog 93 [.lit true 1 ([(-1 : Int)].map ci), .int (n : Int)] (fun _ => none) (fun _ => 0) (fun v h c => ∃ g, v = .ref (30, g) 1 0 n ∧ h (30, g) = some (.rows 1 ((List.replicate n (-1 : Int)).map ci))) := by
 refine HCallsR.of_code Try.func93 rfl rfl (by kernel_rfl) mixed frH93 (by show _ ≤ 48; simp) ?_
 refine pwp_seq_plain rfl fun K1 hK1 => ?_
 refine p_e rfl (e_assign (v := .nil) rfl) ?_
 refine p_end (hK1 _ ?_); clear hK1 K1
 refine pwp_seq_seq ?_
 refine pwp_seq_plain rfl fun K2 hK2 => ?_
 refine p_mS rfl ?_
 refine p_e rfl (e_lt rfl rfl) ?_
 refine p_end (hK2 _ ?_); clear hK2 K2
 refine pwp_seq_cond rfl fun K3 hK3 => ⟨fun hb4 => ?_, fun hb4 => ?_⟩
 ·have hb4R := hb4; try simp only [zz] at hb4
  exfalso; omega
 ·have hb4R := hb4; try simp only [zz] at hb4
  refine pwp_skip ?_
  refine seq_norm (hK3 _ ?_); clear hK3 K3
  refine pwp_seq_plain rfl fun K5 hK5 => ?_
  refine p_e rfl (e_move (v := .lit _ _ _) rfl) ?_
  refine p_e rfl (e_len rfl (by kernel_rfl)) ?_
  refine p_e rfl (e_conv (a := 1) (k := .u64) rfl (by kernel_rfl) (by kernel_rfl) (by decide)) ?_
  refine p_mS rfl ?_
  refine p_e rfl (e_conv (k := .u64) rfl (by kernel_rfl) (by kernel_rfl) (by rw [IntKind.wrap_u64]; omega)) ?_
  refine p_call rfl (.cons inn_sc (.cons inn_sc .nil)) (mulC n (by omega)) ?_
  refine p_e rfl (e_move (v := .tup _) rfl) ?_
  refine p_e rfl (e_ext (v := .sc _) rfl (by simp) rfl) ?_
  refine p_e rfl (e_ext (v := .sc _) rfl (by simp) rfl) ?_
  refine p_aS rfl ?_
  refine p_aS rfl ?_
  refine p_end (hK5 _ ?_); clear hK5 K5
  refine pwp_seq_seq ?_
  refine pwp_seq_gops rfl fun K6 hK6 => ?_
  refine g_begin ?_
  refine g_mS rfl rfl ?_
  refine g_e rfl (e_gtF rfl rfl (by decide)) ?_
  refine g_mS rfl rfl ?_
  refine g_mS rfl rfl ?_
  refine g_e rfl (e_gtF rfl rfl (by omega)) ?_
  refine g_pF rfl rfl rfl ?_
  refine g_end (ds := [24, 25]) rfl rfl (hK6 _ ?_); clear hK6 K6
  refine pwp_seq_cond (t := false) rfl fun K7 hK7 => ⟨nofun, fun _ => ?_⟩
  refine pwp_skip ?_
  refine seq_norm (hK7 _ ?_); clear hK7 K7
  refine pwp_seq_plain rfl fun K8 hK8 => ?_
  refine p_mS rfl ?_
  refine p_e rfl (e_conv (k := .i64) rfl (by kernel_rfl) (by kernel_rfl) (by exact wrap64 (by omega) (by omega))) ?_
  refine p_new rfl (e_mkI (n := n) rfl rfl rfl (by kernel_rfl) (by kernel_rfl) (by kernel_rfl) (by decide +kernel) (by omega)) trivial ?_
  refine p_e rfl (e_assign (v := .ref _ _ _ _) rfl) ?_
  refine p_end (hK8 _ ?_); clear hK8 K8
  refine pwp_seq_plain rfl fun K9 hK9 => ?_
  refine p_e rfl (e_move (v := .ref _ _ _ _) rfl) ?_
  refine p_e rfl (e_move (v := .lit _ _ _) rfl) ?_
  refine p_wr rfl (e_cpy1 (t := 116) (N := n) (zs := List.replicate n 0) (a := -1) rfl rfl rfl (hset_self _ _ _) (by simp) (by omega) (by kernel_rfl) (by kernel_rfl)) trivial ?_
  refine p_e rfl (e_assign (v := .sc _) rfl) ?_
  refine p_end (hK9 _ ?_); clear hK9 K9
  refine pwp_seq_block fun K10 hK10 => ?_
  refine pwp_loopR (α := Nat × (List Int)) [7] (fun (a11 : Nat × (List Int)) => [(8, .int (a11.1))]) (fun (a11 : Nat × (List Int)) (h : Heap) (_ : Nat → Nat) => (1 ≤ (a11.1) ∧ (a11.1) ≤ n) ∧ ((a11.2).length = n) ∧ (∀ i, i < (a11.1) → (a11.2)[i]? = some (-1)) ∧ (h (30, 0) = some (.rows 1 ((a11.2).map ci)))) (fun (a11 : Nat × (List Int)) => n - (a11.1)) (1, ((-1) :: (List.replicate n (0 : Int)).drop 1)) (by exact ⟨rfl, trivial⟩) (by exact ⟨by exact ⟨Nat.le_refl _, by omega⟩, by rw [List.length_cons, List.length_drop, List.length_replicate]; omega, by exact fun i hi => (by rw [show i = 0 by omega]; rfl), (hset_self _ _ _)⟩) fun a11 r12 h13 c14 hj15 => ?_
  obtain ⟨k, zs⟩ := a11
  obtain ⟨hk, hzl, hz, hihj15_0⟩ := hj15
  try dsimp only at hk
  try dsimp only at hzl
  try dsimp only at hz
  try dsimp only at hihj15_0
  show pwp _ _ (loopQ _ _ _) ⟨sets (mix _ _ _) [(8, .int k)], _, _⟩
  refine pwp_seq_seq ?_
  refine pwp_seq_plain rfl fun K16 hK16 => ?_
  refine p_mS rfl ?_
  refine p_e rfl (e_move (v := .ref _ _ _ _) rfl) ?_
  refine p_e rfl (e_lenR rfl (by kernel_rfl)) ?_
  refine p_e rfl (e_lt rfl rfl) ?_
  refine p_end (hK16 _ ?_); clear hK16 K16
  refine pwp_seq_cond rfl fun K17 hK17 => ⟨fun hb18 => ?_, fun hb18 => ?_⟩
  ·have hb18R := hb18; try simp only [zz] at hb18
   refine pwp_skip ?_
   refine seq_norm (hK17 _ ?_); clear hK17 K17
   refine pwp_block ?_
   refine pwp_gops rfl fun K19 hK19 => ?_
   refine s_begin ?_
   refine s_e rfl (e_move (v := .sc _) rfl) ?_
   refine s_e rfl (e_move (v := .ref _ _ _ _) rfl) ?_
   refine s_e rfl (e_move (v := .sc _) rfl) ?_
   refine s_e rfl (e_cutL (n := k) rfl rfl (by omega) (by kernel_rfl) (by kernel_rfl)) ?_
   refine s_e rfl (e_move (v := .ref _ _ _ _) rfl) ?_
   refine s_e rfl (e_move (v := .sc _) rfl) ?_
   refine s_e rfl (e_cutR (n := k) rfl rfl (by omega) (by kernel_rfl) (by kernel_rfl)) ?_
   refine s_wr [30] [30] rfl rfl (by simp) (by simp) rfl rfl (e_cpy (t := 116) (N := n) (n := k) (zs := zs) rfl rfl rfl hihj15_0 hzl (by omega) (by kernel_rfl) (by kernel_rfl)) trivial ?_
   have hmn : Nat.min k (n - k) = min k (n - k) := rfl
   refine s_e rfl (e_adL rfl rfl (by omega)) ?_
   refine s_e rfl (e_assign (v := .sc _) rfl) ?_
   refine s_end (ds := []) (by kernel_rfl) (by kernel_rfl) (hK19 _ ?_); clear hK19 K19
   refine block_norm ?_
   exact loop_again ((k + Nat.min k (n - k), (zs.take k ++ (zs.take k).take (n - k) ++ zs.drop (k + Nat.min k (n - k))))) (by show _ < _; rw [hmn]; omega) ⟨rfl, trivial⟩ ⟨rfl, trivial⟩ (by exact ⟨by show 1 ≤ _ ∧ _ ≤ n; rw [hmn]; omega, by exact (cpy_s hzl (by omega) hz).1, by exact (cpy_s hzl (by omega) hz).2, (hset_self _ _ _)⟩)
  ·have hb18R := hb18; try simp only [zz] at hb18
   have hkn2 : k = n := by omega
   subst hkn2
   have hze := rep_e hzl hz
   refine pwp_exit ?_
   refine exit_seq ?_
   clear hK17 K17
   refine exit_loop ?_
   refine exit_here ?_
   refine seq_norm (hK10 _ ?_); clear hK10 K10
   refine pwp_seq_plain rfl fun K20 hK20 => ?_
   refine p_e rfl (e_move (v := .ref _ _ _ _) rfl) ?_
   refine p_e rfl (e_assign (v := .ref _ _ _ _) rfl) ?_
   refine p_end (hK20 _ ?_); clear hK20 K20
   refine pwp_ret ?_
   refine end1 (v := .ref _ _ _ _) rfl ?_
   exact ⟨_, rfl, by rw [← hze]; exact hihj15_0⟩

theorem repeatN (n : Nat) (hn : 1 ≤ n ∧ n ≤ 100000) : PNew Try.prog 93 [.lit true 1 ([(-1 : Int)].map ci), .int (n : Int)] 1 ((List.replicate n (-1 : Int)).map ci) := by
 refine PNew.of_calls (d := 30) (Nat.le_refl _) (fun row hr => by obtain ⟨_, _, rfl⟩ := List.mem_map.1 hr; rfl) (fun row hr p hp => by obtain ⟨_, _, rfl⟩ := List.mem_map.1 hr; simp [ci] at hp; subst hp; exact ⟨_, rfl, rfl⟩) ?_
 refine HCallsR.mono (repeatH n hn) fun v h c q => ?_
 obtain ⟨g, h1, h2⟩ := q
 exact ⟨g, by rw [h1, List.length_map, List.length_replicate], h2⟩
end Go.Proofs.Ytigdmkhdmbbfiaa
