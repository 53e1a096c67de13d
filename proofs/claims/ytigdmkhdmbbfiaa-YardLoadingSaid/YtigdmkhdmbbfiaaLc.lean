/- The least cut, by trying. No conditions. -/
import Derived.Test.YtigdmkhdmbbfiaaCu4
set_option linter.unusedSimpArgs false
set_option linter.unusedVariables false
set_option maxRecDepth 100000
namespace Go.Proofs.Ytigdmkhdmbbfiaa
open Go Go.Pv
/-! ### Least cuts by trying -/
section
variable {t : Traffic} {fr : List Int} {p d : Nat}
end
section
variable {t : Traffic} {fr : List Int} {m d k : Nat} {b : Int}
end
theorem keysOf_lit {t : Bool} {sz : Nat} {rows : Go.Pv.Rows} : Go.Pv.keysOf (.lit t sz rows) = [] := rfl
theorem sl_keys {h : Heap} {d sz : Nat} {v : PV} {rows : Go.Pv.Rows} (hs : SliceAt h d v sz rows) : ∀ k ∈ Go.Pv.keysOf v, k.1 = d := by
 rcases hs with ⟨_, rfl⟩ | ⟨g, rfl, _⟩
 · intro k hk; cases hk
 · intro k hk
   have : k = (d, g) := by simpa [Go.Pv.keysOf, Go.Pv.keyOf] using hk
   rw [this]
theorem p_appR {P : Program} {K : PS → Prop} {d : Nat} {ty t : TypeId} {pos : String} {aft : Array Edge} {gd : Option (Nat × Bool)} {rest : List Oper} {r : Nat → PV} {h : Heap} {cnt : Nat → Nat} {x y : Operand} {ts : Array TypeId} {t2 : TypeId} {u2 : PV} {sz d1 g : Nat} {rows rows2 : Pv.Rows} (hts : ts.toList = [t, t2]) (hx : ev r x = .ref (d1, g) sz 0 rows.length) (hy : ev r y = u2) (hg : h (d1, g) = some (.rows sz rows)) (hsr : (srcRows h sz u2).1 ∧ (srcRows h sz u2).2.1 = rows2)
   (hok : (sliceOk P t && (decide (P.bytesOf (elemTy P t) < 2 ^ 15) && (decide (intKind P t2 = none) && (zeroOk P (elemTy P t) && ((P.underlying t2).isSome && decide (tySize P (elemTy P t) = sz)))))) = true) (hlen : rows.length + rows2.length < 2 ^ 32)
   (hk : ∀ v' h' c', (∃ g', v' = .ref (d, g') sz 0 (rows ++ rows2).length ∧ h' (d, g') = some (.rows sz (rows ++ rows2))) → pOps P K rest ⟨setT r d v', h', c'⟩) :
   pOps P K (⟨some d, .call { callee := .builtin .append, args := #[x, y], argTypes := ts }, ty, pos, aft, gd⟩ :: rest) ⟨r, h, cnt⟩ := by
 simp only [Bool.and_eq_true, decide_eq_true_eq] at hok
 obtain ⟨o1, o2, o3, o4, o5, o6⟩ := hok
 subst o6
 have hq : eff P (ev r) h (d, cnt d) (.call { callee := .builtin .append, args := #[x, y], argTypes := ts }) = appendEff P h (d, cnt d) t t2 (.ref (d1, g) (tySize P (elemTy P t)) 0 rows.length) u2 := by
   show builtinEff P h (d, cnt d) .append ts.toList [ev r x, ev r y] = _
   rw [hts, hx, hy]; rfl
 unfold appendEff at hq
 simp only [hg, hsr.2] at hq
 refine p_renew rfl hq (by refine ⟨⟨o1, o2, o3, o4, o5⟩, hsr.1, ?_⟩; simp; omega) (hk _ _ _ ⟨cnt d, by rw [List.length_append], ?_⟩)
 rw [hset_self, List.drop_zero, List.take_length]
theorem frH63 : (inFrame Try.f63.ntmps (Try.f63.body.getD .skip) && Try.f63.results.toList.all (resScope Try.f63.ntmps)) = true := by kernel_rfl
theorem copyH (l : List Int) (hl : l.length ≤ 1000000) : HCallsR Try.prog 63 [.lit true 1 (l.map ci)] (fun _ => none) (fun _ => 0) fun v h _ => ∃ g, v = .ref (5, g) 1 0 (l.map ci).length ∧ h (5, g) = some (.rows 1 (l.map ci)) := by
 refine HCallsR.of_code Try.func63 rfl rfl (by kernel_rfl) mixed frH63 (by show _ ≤ 6; simp) (pwp_seq_plain rfl fun K1 hK1 => p_e rfl (e_assign (v := .nil) rfl) (p_end (hK1 _ ?_))); clear hK1 K1
 refine pwp_seq_plain rfl fun K2 hK2 => p_new rfl (e_bslice (rows := []) (zs := [.int 0]) (sz := 1) (by kernel_rfl) (by kernel_rfl) rfl (by kernel_rfl) (by decide) rfl rfl (by exact trivial) rfl) trivial (p_e rfl (e_move (v := .lit _ _ _) rfl) (p_appR (rows := []) rfl rfl rfl (hset_self _ _ _) src_lit (by kernel_rfl) (by simp only [List.length_append, List.length_map, List.length_nil, List.length_cons]; omega) fun v3 h4 c5 hs6 => p_e rfl (e_assign (v := _) rfl) (p_end (hK2 _ ?_)))); clear hK2 K2
 refine pwp_ret (end1 (v := _) rfl ?_)
 exact hs6
theorem copyN (l : List Int) (hl : l.length ≤ 1000000) : PNew Try.prog 63 [.lit true 1 (l.map ci)] 1 (l.map ci) := by
 refine PNew.of_calls (d := 5) (by omega) (fun row hr => ?_) (fun row hr p hp => ?_) (copyH l hl)
 · obtain ⟨e, _, rfl⟩ := List.mem_map.1 hr; rfl
 · obtain ⟨e, _, rfl⟩ := List.mem_map.1 hr
   simp only [ci, List.mem_cons, List.not_mem_nil, or_false] at hp
   subst hp; exact ⟨_, rfl, rfl⟩
end Go.Proofs.Ytigdmkhdmbbfiaa
