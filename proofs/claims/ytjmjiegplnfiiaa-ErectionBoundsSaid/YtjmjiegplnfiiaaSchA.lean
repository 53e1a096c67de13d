import Derived.Test.YtjmjiegplnfiiaaCrwA
/- Times that meet, and closed places. No conditions. -/
set_option linter.unusedSimpArgs false
set_option linter.unusedVariables false
set_option maxRecDepth 100000
namespace Go.Proofs.Ytjmjiegplnfiiaa
open Go Go.Pv
section
variable {P : Program} {Q : Exit → PS → Prop} {s : PS}
theorem pwp_gopsK {id : Nat} {ops : Array Oper} {d : Bool} (hg : (noGuards ops && !d) = false) (h : Known s → ∀ K : PS → Prop, (∀ s', Q .normal s' → K s') → gOps P ops d K ops.toList 0 ⟨s, fun _ => true⟩ []) : pwp P (.region id ops d) Q s := by
 show pRegion P ops d (Q .normal) s
 unfold pRegion
 intro hk
 rw [hg]
 exact .inl (h hk _ fun _ h => h)
end
section
variable {P : Program} {K : PS → Prop} {d : Nat} {op : Op} {ty t : TypeId} {pos : String} {aft : Array Edge} {rest : List Oper} {r : Nat → PV} {h : Heap} {cnt : Nat → Nat} {ops : Array Oper} {i : Nat} {G : Nat → Bool} {dd : Bool} {x y : Operand}
theorem e_mkfB {ρ : Operand → PV} {key : Key} {fn : Fn} {first cap : Array Operand} {a : PV} (hf : first.toList.map ρ = [a]) (hc : cap.toList.map ρ = []) : eff P ρ h key (.makeFunc fn first cap) = ⟨True, .func fn [a] [], [], [], false⟩ := by
 rw [← hf]; exact e_mkf hc
/-- A drawn append whose result is told in full. -/
theorem s_appK {ts : Array TypeId} {t2 : TypeId} {u u2 : PV} {sz d1 : Nat} {rows rows2 : Pv.Rows} {tl : List Ft} {ds : List Nat} (rs ws : List Nat) (hr1 : d1 ∈ rs) (hr2 : ∀ z ∈ ds, z ∈ rs) (hw1 : d1 ∈ ws ∧ d ∈ ws) (hts : ts.toList = [t, t2]) (hx : ev r x = u) (hy : ev r y = u2) (hs : SliceAt h d1 u sz rows) (hsr : SrcAt h ds sz u2 rows2)
   (hv : validB r G (.call { callee := .builtin .append, args := #[x, y], argTypes := ts }) = true)
   (hok : (sliceOk P t && (decide (P.bytesOf (elemTy P t) < 2 ^ 15) && (decide (intKind P t2 = none) && (zeroOk P (elemTy P t) && ((P.underlying t2).isSome && decide (tySize P (elemTy P t) = sz)))))) = true) (hlen : rows.length + rows2.length < 2 ^ 32) (hne : rows2 ≠ [])
   (hk : ∀ h', h' (d, cnt d) = some (.rows sz (rows ++ rows2)) → (∀ k' : Key, k' ≠ (d, cnt d) → (∀ g, u = .ref (d1, g) sz 0 rows.length → k' ≠ (d1, g)) → h' k' = h k') → sRun P ops dd K rest (i + 1) ⟨setT r d (.ref (d, cnt d) sz 0 (rows.length + rows2.length)), h', cset cnt d⟩ (setB G d true) (tl ++ [⟨i, rs, ws⟩])) :
   sRun P ops dd K (⟨some d, .call { callee := .builtin .append, args := #[x, y], argTypes := ts }, ty, pos, aft, none⟩ :: rest) i ⟨r, h, cnt⟩ G tl := by
 simp only [Bool.and_eq_true, decide_eq_true_eq] at hok
 obtain ⟨o1, o2, o3, o4, o5, o6⟩ := hok
 subst o6
 obtain ⟨hs1, hs2, hs3⟩ := hsr
 have he : ∀ u, ev r x = u → eff P (ev r) h (d, cnt d) (.call { callee := .builtin .append, args := #[x, y], argTypes := ts }) = appendEff P h (d, cnt d) t t2 u u2 := fun u hu => by
   show builtinEff P h (d, cnt d) .append ts.toList [ev r x, ev r y] = _
   rw [hts, hu, hy]; rfl
 have hrs : ∀ k ∈ (srcRows h (tySize P (elemTy P t)) u2).2.2, k.1 ∈ rs := fun k hk' => hr2 _ (hs3 k hk')
 have hie : rows2.isEmpty = false := by cases rows2 <;> first | exact absurd rfl hne | rfl
 rcases hs with ⟨rfl, rfl⟩ | ⟨g, rfl, hg⟩
 · have hq := he _ hx
   unfold appendEff at hq
   simp only [hs2] at hq
   rw [hie] at hq
   simp only [cond_false] at hq
   have hk2 := hk (hset h (d, cnt d) (some (.rows (tySize P (elemTy P t)) rows2))) (by rw [List.nil_append]; exact hset_self _ _ _) (fun k' h1 _ => hset_ne h1)
   rw [List.length_nil, Nat.zero_add] at hk2
   exact s_any rs ws rfl rfl hrs (by simp [hw1.2]) rfl hv hq ⟨⟨o1, o2, o3, o4, o5⟩, hs1, hne, by simp at hlen; omega⟩ hk2
 · have hq := he _ hx
   unfold appendEff at hq
   simp only [hg, hs2] at hq
   refine s_any rs ws rfl rfl (by intro k hk'; rcases List.mem_cons.1 hk' with rfl | hk'; exact hr1; exact hrs k hk') (by simp [hw1.1, hw1.2]) rfl hv hq (by refine ⟨⟨o1, o2, o3, o4, o5⟩, hs1, ?_⟩; simp; omega) (hk (hset (hset h (d1, g) none) (d, cnt d) (some (.rows (tySize P (elemTy P t)) (rows.take rows.length ++ rows2)))) ?_ fun k' h1 h2 => ?_)
   · rw [hset_self]; first | rw [List.drop_zero, List.take_length] | rw [List.take_length]
   · rw [hset_ne h1, hset_ne (h2 g rfl)]
end

/-! ### Times of gangs and of places -/
def bsG (xs : List Task) (d : List Slot) (g : Int) : List Sp := (d.filter fun y => decide (y.gang = g)).map (spY xs)
def bsT (xs : List Task) (d : List Slot) (m : Nat) : List (List Sp) := (List.range m).map fun g : Nat => bsG xs d (g : Int)
def clL (cs : List Span) (p : Int) : List Sp := (cs.filter fun z => decide (z.place = p)).map fun z => ⟨z.fro, z.til⟩
section
variable {xs : List Task} {c : Crew} {d : List Slot} {x : Slot} {m z : Nat}
theorem bsT_0 : bsT xs [] m = List.replicate m [] := by
 rw [bsT, List.map_congr_left (g := fun _ => ([] : List Sp)) (fun x _ => by simp [bsG]), List.map_const', List.length_range]
theorem bsT_len : (bsT xs d m).length = m := by simp [bsT]
theorem bsT_get (h : z < m) : (bsT xs d m)[z]? = some (bsG xs d (z : Int)) := by simp [bsT, List.getElem?_range, h]
theorem bsG_len {g : Int} : (bsG xs d g).length ≤ d.length := by
 simp only [bsG, List.length_map]; exact List.length_filter_le _ _
theorem bsG_app {g : Int} : bsG xs (d ++ [x]) g = bsG xs d g ++ if x.gang = g then [spY xs x] else [] := by
 by_cases h : x.gang = g <;> simp [bsG, List.filter_append, List.filter_cons, h]
theorem bsT_step (hx : x.gang = (z : Int)) (h : z < m) : (bsT xs d m).set z (bsG xs d (z : Int) ++ [spY xs x]) = bsT xs (d ++ [x]) m := by
 refine List.ext_getElem? fun i => ?_
 rw [List.getElem?_set]
 by_cases hi : z = i
 · subst hi
   rw [if_pos rfl, if_pos (by rw [bsT_len]; exact h), bsT_get h, bsG_app, if_pos hx]
 · rw [if_neg hi]
   rcases Nat.lt_or_ge i m with h2 | h2
   · rw [bsT_get h2, bsT_get h2, bsG_app, if_neg (by omega), List.append_nil]
   · rw [List.getElem?_eq_none (by rw [bsT_len]; exact h2), List.getElem?_eq_none (by rw [bsT_len]; exact h2)]
theorem cl_eq : clB xs c d x = ((bsG xs d x.gang).any (mtB (spY xs x)) || (clL c.closed (tsk xs x).place).any (mtB (spY xs x))) := by
 simp only [clB, bsG, clL, List.any_map, List.any_filter]
 rfl
theorem clL_t {cs : List Span} {k : Nat} {z : Span} {p : Int} (ht : cs.take (k + 1) = cs.take k ++ [z]) (h : z.place = p) : (clL (cs.take k) p).map Sp.enc ++ [Sp.enc ⟨z.fro, z.til⟩] = (clL (cs.take (k + 1)) p).map Sp.enc := by
 rw [ht]; simp [clL, List.filter_append, List.filter_cons, h]
theorem clL_f {cs : List Span} {k : Nat} {z : Span} {p : Int} (ht : cs.take (k + 1) = cs.take k ++ [z]) (h : z.place ≠ p) : (clL (cs.take k) p).map Sp.enc = (clL (cs.take (k + 1)) p).map Sp.enc := by
 rw [ht]; simp [clL, List.filter_append, List.filter_cons, h]
theorem clL_len {cs : List Span} {p : Int} : (clL cs p).length ≤ cs.length := by
 simp only [clL, List.length_map]; exact List.length_filter_le _ _
end

theorem fr85 : (inFrame Try.f85.ntmps (Try.f85.body.getD .skip) && Try.f85.results.toList.all (resScope Try.f85.ntmps)) = true := by kernel_rfl
theorem meetsC (x y : Sp) : PCalls Try.prog 85 [.agg x.enc, .agg y.enc] (.bool (mtB x y)) := by
 refine PCalls.of_code Try.func85 rfl rfl (by kernel_rfl) mixed fr85 (by show _ ≤ 16; simp) (.sc _) (pwp_seq_plain rfl fun K1 hK1 => p_new rfl (e_box (n := 2) rfl rfl) ⟨rfl, by decide⟩ (p_new rfl (e_box (n := 2) rfl rfl) ⟨rfl, by decide⟩ (p_aS rfl (p_end (hK1 _ ?_))))); clear hK1 K1
 refine pwp_seq_plain rfl fun K2 hK2 => p_e rfl (e_faQ pl2 rfl) (p_e rfl (e_lH (v := .sc _) rfl ((hset_ne (key_ne rfl)).trans (hset_self _ _ _)) rfl) (p_e rfl (e_faQ pl2 rfl) (p_e rfl (e_lH (v := .sc _) rfl (hset_self _ _ _) rfl) (p_e rfl (e_max rfl rfl) (p_e rfl (e_faQ pl2 rfl) (p_e rfl (e_lH (v := .sc _) rfl ((hset_ne (key_ne rfl)).trans (hset_self _ _ _)) rfl) ?_))))))
 refine p_e rfl (e_faQ pl2 rfl) (p_e rfl (e_lH (v := .sc _) rfl (hset_self _ _ _) rfl) (p_e rfl (e_min rfl rfl) (p_e rfl (e_lt rfl rfl) (p_aS rfl (p_end (hK2 _ ?_)))))); clear hK2 K2
 refine pwp_ret (end1 (v := .sc _) rfl ?_)
 exact out_b rfl

theorem fr117 : (inFrame Try.f117.ntmps (Try.f117.body.getD .skip) && Try.f117.results.toList.all (resScope Try.f117.ntmps)) = true := by kernel_rfl
theorem IndexSp (l : List Sp) (x : Sp) (hlen : l.length ≤ 1000000) : PCalls Try.prog 117 [.lit true 2 (l.map Sp.enc), .func (.func 85) [.agg x.enc] []] (.int (ixA (mtB x) l)) := by
 refine PCalls.of_code Try.func117 rfl rfl (by kernel_rfl) mixed fr117 (by show _ ≤ 19; simp) (.sc _) (pwp_seq_plain rfl fun K1 hK1 => p_aS rfl (p_end (hK1 _ ?_))); clear hK1 K1
 refine pwp_seq_seq (pwp_seq_plain rfl fun K2 hK2 => p_e rfl (e_move (v := .lit _ _ _) rfl) (p_e rfl (e_len rfl (by kernel_rfl)) (p_mS rfl (p_end (hK2 _ ?_))))); clear hK2 K2
 refine pwp_seq_block fun K3 hK3 => pwp_loopR (α := Nat) [0, 1, 7] (fun (k : Nat) => [(8, .int (k))]) (fun (k : Nat) (h : Heap) (_ : Nat → Nat) => ((k) ≤ l.length) ∧ (∀ i, i < (k) → ∀ y, l[i]? = some y → mtB x y = false)) (fun (k : Nat) => l.length - (k)) (0) (by exact ⟨rfl, trivial⟩) (by exact ⟨by exact Nat.zero_le _, by exact nx_0⟩) fun k r4 h5 c6 hj7 => ?_
 obtain ⟨hk, hin⟩ := hj7
 try dsimp only at hk
 try dsimp only at hin
 show pwp _ _ (loopQ _ _ _) ⟨sets (mix _ _ _) [(8, .int k)], _, _⟩
 refine pwp_seq_plain rfl fun K8 hK8 => p_e rfl (e_lt rfl rfl) (p_end (hK8 _ ?_)); clear hK8 K8
 refine pwp_seq_cond rfl fun K9 hK9 => ⟨fun hb10 => ?_, fun hb10 => ?_⟩
 ·have hb10R := hb10; try simp only [zz] at hb10
  obtain ⟨y, hy, hdy, hty⟩ := get_lt (xs := l) (i := k) (by omega)
  refine pwp_skip (seq_norm (hK9 _ ?_)); clear hK9 K9
  refine pwp_seq_block fun K11 hK11 => pwp_seq_plain rfl fun K12 hK12 => p_mS rfl (p_aS rfl (p_end (hK12 _ ?_))); clear hK12 K12
  refine pwp_seq_plain rfl fun K13 hK13 => p_e rfl (e_move (v := .func _ _ _) rfl) (p_e rfl (e_move (v := .lit _ _ _) rfl) (p_mS rfl (p_e rfl (e_ixL rfl rfl) (p_e rfl (e_loadA (n := 2) rfl (by kernel_rfl) (by kernel_rfl) (by kernel_rfl) (by first | omega | (simp only [List.length_map]; omega)) (by decide) (by first | exact agg_map hy rfl)) (p_call rfl (.cons (inn_agg (Sp.pure _)) (.cons (inn_agg (Sp.pure _)) .nil)) (meetsC _ _) (p_end (hK13 _ ?_))))))); clear hK13 K13
  refine pwp_cond rfl (fun hb14 => ?_) (fun hb14 => ?_)
  ·have hb14R := hb14; try simp only [zz] at hb14
   refine pwp_seq_plain rfl fun K15 hK15 => p_mS rfl (p_aS rfl (p_end (hK15 _ ?_))); clear hK15 K15
   refine pwp_ret (ret_block (ret_seq (ret_loop (ret_block (ret_seq (end1 (v := .sc _) rfl ?_))))))
   first
     | exact out_i (ixA_hit (K := mtB x) hy hin (by assumption))
     | exact out_i (ixA_no (K := mtB x) hin (by simp only [List.length_map] at *; omega))
  ·have hb14R := hb14; try simp only [zz] at hb14
   refine pwp_skip (block_norm (seq_norm (hK11 _ ?_))); clear hK11 K11
   refine pwp_plain rfl fun K16 hK16 => p_e rfl (e_adL rfl rfl) (p_mS rfl (p_end (hK16 _ ?_))); clear hK16 K16
   exact loop_again (k + 1) (by show _ < _; omega) ⟨rfl, rfl, rfl, trivial⟩ ⟨rfl, trivial⟩ (by exact ⟨by show _ + 1 ≤ _; simp only [List.length_map] at *; omega, by exact nx_step (K := mtB x) hin hy (by first | assumption | simpa using (by assumption))⟩)
 ·have hb10R := hb10; try simp only [zz] at hb10
  refine pwp_exit (exit_seq ?_)
  clear hK9 K9
  refine exit_loop (exit_here (seq_norm (hK3 _ ?_))); clear hK3 K3
  refine pwp_seq_plain rfl fun K17 hK17 => p_aS rfl (p_end (hK17 _ ?_)); clear hK17 K17
  refine pwp_ret (end1 (v := .sc _) rfl ?_)
  first
    | exact out_i (ixA_hit (K := mtB x) hy hin (by assumption))
    | exact out_i (ixA_no (K := mtB x) hin (by simp only [List.length_map] at *; omega))

theorem fr84 : (inFrame Try.f84.ntmps (Try.f84.body.getD .skip) && Try.f84.results.toList.all (resScope Try.f84.ntmps)) = true := by kernel_rfl
theorem ContainsSp (l : List Sp) (x : Sp) (hlen : l.length ≤ 1000000) : PCalls Try.prog 84 [.lit true 2 (l.map Sp.enc), .func (.func 85) [.agg x.enc] []] (.bool (l.any (mtB x))) := by
 refine PCalls.of_code Try.func84 rfl rfl (by kernel_rfl) mixed fr84 (by show _ ≤ 9; simp) (.sc _) (pwp_seq_plain rfl fun K1 hK1 => p_aS rfl (p_end (hK1 _ ?_))); clear hK1 K1
 refine pwp_seq_plain rfl fun K2 hK2 => p_e rfl (e_move (v := .lit _ _ _) rfl) (p_e rfl (e_move (v := .func _ _ _) rfl) (p_call rfl (.cons inn_lit (.cons inn_bndF .nil)) (IndexSp l x hlen) (p_e rfl (e_ge rfl rfl) (p_aS rfl (p_end (hK2 _ ?_)))))); clear hK2 K2
 refine pwp_ret (end1 (v := .sc _) rfl ?_)
 exact out_b ixA_any

theorem closed_outS {h : Heap} {d : Nat} {v : PV} {c : Crew} {p : Int} {k : Nat} (hv : SliceAt h d v 2 ((clL (c.closed.take k) p).map Sp.enc)) (hk : k = c.closed.length) : Out h v (.lit false 2 ((clL c.closed p).map Sp.enc)) := by
 subst hk
 refine out_slice hv (by rw [List.take_length]) (fun _ => rfl) fun a p hp => ?_
 simp only [Sp.enc, List.mem_cons, List.not_mem_nil, or_false] at hp
 rcases hp with rfl | rfl
 · exact ⟨.sc _, rfl⟩
 · exact ⟨.sc _, rfl⟩

theorem fr86 : (inFrame Try.f86.ntmps (Try.f86.body.getD .skip) && Try.f86.results.toList.all (resScope Try.f86.ntmps)) = true := by kernel_rfl
theorem closedSp (c : Crew) (p : Int) (hcl : c.closed.length ≤ 1000000) : PCalls Try.prog 86 [.agg c.enc, .int p] (.lit false 2 ((clL c.closed p).map Sp.enc)) := by
 refine PCalls.of_code Try.func86 rfl rfl (by kernel_rfl) mixed fr86 (by show _ ≤ 29; simp) (.lit _ _ _ fun row hr => pure_map Sp.pure row hr) (pwp_seq_plain rfl fun K1 hK1 => p_new rfl (e_box (n := 2) rfl rfl) ⟨rfl, by decide⟩ (p_e rfl (e_assign (v := .nil) rfl) (p_end (hK1 _ ?_)))); clear hK1 K1
 refine pwp_seq_plain rfl fun K2 hK2 => p_e rfl (e_assign (v := .nil) rfl) (p_end (hK2 _ ?_)); clear hK2 K2
 refine pwp_seq_seq (pwp_seq_plain rfl fun K3 hK3 => p_e rfl (e_faQ pl2 rfl) (p_e rfl (e_lH (v := .lit _ _ _) rfl (hset_self _ _ _) rfl) (p_e rfl (e_len rfl (by kernel_rfl)) (p_mS rfl (p_end (hK3 _ ?_)))))); clear hK3 K3
 refine pwp_seq_block fun K4 hK4 => pwp_loopR (α := Nat × PV) [1, 9, 10] (fun (a5 : Nat × PV) => [(5, (a5.2)), (11, .int (a5.1))]) (fun (a5 : Nat × PV) (h : Heap) (_ : Nat → Nat) => ((a5.1) ≤ c.closed.length) ∧ (SliceAt h 26 (a5.2) 2 ((clL (c.closed.take (a5.1)) p).map Sp.enc))) (fun (a5 : Nat × PV) => c.closed.length - (a5.1)) (0, .nil) (by exact ⟨rfl, rfl, trivial⟩) (by exact ⟨by exact Nat.zero_le _, .nil⟩) fun a5 r6 h7 c8 hj9 => ?_
 obtain ⟨k, v⟩ := a5
 obtain ⟨hk, hihj9_0⟩ := hj9
 try dsimp only at hk
 try dsimp only at hihj9_0
 show pwp _ _ (loopQ _ _ _) ⟨sets (mix _ _ _) [(5, v), (11, .int k)], _, _⟩
 refine pwp_seq_plain rfl fun K10 hK10 => p_e rfl (e_lt rfl rfl) (p_end (hK10 _ ?_)); clear hK10 K10
 refine pwp_seq_cond rfl fun K11 hK11 => ⟨fun hb12 => ?_, fun hb12 => ?_⟩
 ·have hb12R := hb12; try simp only [zz] at hb12
  obtain ⟨z, hz, hdz, htz⟩ := get_lt (xs := c.closed) (i := k) (by omega)
  have hll := clL_len (cs := c.closed.take k) (p := p)
  rw [List.length_take] at hll
  refine pwp_skip (seq_norm (hK11 _ ?_)); clear hK11 K11
  refine pwp_seq_block fun K13 hK13 => pwp_seq_plain rfl fun K14 hK14 => p_e rfl (e_ixL rfl rfl) (p_e rfl (e_loadA (n := 3) rfl (by kernel_rfl) (by kernel_rfl) (by kernel_rfl) (by first | omega | (simp only [List.length_map]; omega)) (by decide) (by first | exact agg_map hz rfl)) (p_new rfl (e_alloc (cs := [.int 0, .int 0, .int 0]) (n := 3) (by kernel_rfl) rfl (by decide)) (ob_alloc (by decide)) (p_store rfl (e_storeA rfl (hset_self _ _ _) rfl rfl rfl (by kernel_rfl) rfl (by kernel_rfl)) trivial (p_end (hK14 _ ?_))))); clear hK14 K14
  refine pwp_seq_plain rfl fun K15 hK15 => p_e rfl (e_faQ pl3 rfl) (p_e rfl (e_lH (v := .sc _) rfl (hset_self _ _ _) rfl) (p_mS rfl (p_e rfl (e_eq rfl rfl) (p_end (hK15 _ ?_))))); clear hK15 K15
  refine pwp_cond rfl (fun hb16 => ?_) (fun hb16 => ?_)
  ·have hb16R := hb16; try simp only [zz] at hb16
   refine pwp_plain rfl fun K17 hK17 => p_e rfl (e_move (v := _) rfl) (p_e rfl (e_faQ pl3 rfl) (p_e rfl (e_lH (v := .sc _) rfl (hset_self _ _ _) rfl) (p_e rfl (e_faQ pl3 rfl) (p_e rfl (e_lH (v := .sc _) rfl (hset_self _ _ _) rfl) (p_e rfl (e_build (cs := Sp.enc (⟨z.fro, z.til⟩ : Sp)) (zs := [.int 0, .int 0]) (pl := [(0, 1, false), (1, 1, false)]) (by kernel_rfl) (by kernel_rfl) (by kernel_rfl) rfl rfl (by exact ⟨by decide, rfl, Nat.le_of_ble_eq_true rfl, rfl, ⟨by decide, rfl, Nat.le_of_ble_eq_true rfl, rfl, trivial⟩⟩) rfl) (p_new rfl (e_bslice (rows := [Sp.enc ⟨z.fro, z.til⟩]) (zs := [.int 0, .int 0]) (sz := 2) (by kernel_rfl) (by kernel_rfl) rfl (by kernel_rfl) (by decide) rfl rfl (by exact ⟨by decide, rfl, rfl, trivial⟩) rfl) trivial ?_))))))
   refine p_app rfl rfl rfl (hihj9_0.keep fun _ => (hset_ne (key_ne rfl)).trans ((hset_ne (key_ne rfl)).trans ((hset_ne (key_ne rfl)).trans (rfl)))) (src_ref (hset_self _ _ _) rfl) (by kernel_rfl) (by simp only [List.length_append, List.length_map, List.length_nil, List.length_cons]; omega) fun v18 h19 c20 hs21 hf22 => ?_
   have ho23 := (hf22 (7, _) (key_ne rfl) (fun _ _ => key_ne rfl)).trans ((hset_ne (key_ne rfl)).trans (hset_self _ _ _))
   have ho24 := (hf22 (25, _) (key_ne rfl) (fun _ _ => key_ne rfl)).trans (hset_self _ _ _)
   refine p_e rfl (e_assign (v := _) rfl) (p_end (hK17 _ ?_)); clear hK17 K17
   refine block_norm (seq_norm (hK13 _ ?_)); clear hK13 K13
   refine pwp_plain rfl fun K25 hK25 => p_e rfl (e_adL rfl rfl) (p_mS rfl (p_end (hK25 _ ?_))); clear hK25 K25
   exact loop_again ((k + 1, v18)) (by show _ < _; simp only; omega) ⟨rfl, rfl, rfl, trivial⟩ ⟨rfl, rfl, trivial⟩ (by exact ⟨by show _ + 1 ≤ _; simp only [List.length_map] at *; omega, (SliceAt.to hs21 (by (first | exact clL_t htz (by assumption) | exact clL_f htz (by assumption))))⟩)
  ·have hb16R := hb16; try simp only [zz] at hb16
   refine pwp_skip (block_norm (seq_norm (hK13 _ ?_))); clear hK13 K13
   refine pwp_plain rfl fun K26 hK26 => p_e rfl (e_adL rfl rfl) (p_mS rfl (p_end (hK26 _ ?_))); clear hK26 K26
   exact loop_again ((k + 1, v)) (by show _ < _; simp only; omega) ⟨rfl, rfl, rfl, trivial⟩ ⟨rfl, rfl, trivial⟩ (by exact ⟨by show _ + 1 ≤ _; simp only [List.length_map] at *; omega, (SliceAt.to (hihj9_0.keep fun _ => (hset_ne (key_ne rfl)).trans ((hset_ne (key_ne rfl)).trans (rfl))) (by (first | exact clL_t htz (by assumption) | exact clL_f htz (by assumption))))⟩)
 ·have hb12R := hb12; try simp only [zz] at hb12
  have hkx : k = c.closed.length := by simp only [List.length_map] at *; omega
  refine pwp_exit (exit_seq ?_)
  clear hK11 K11
  refine exit_loop (exit_here (seq_norm (hK4 _ ?_))); clear hK4 K4
  refine pwp_seq_plain rfl fun K27 hK27 => p_e rfl (e_move (v := _) rfl) (p_e rfl (e_assign (v := _) rfl) (p_end (hK27 _ ?_))); clear hK27 K27
  refine pwp_ret (end1 (v := _) rfl ?_)
  exact closed_outS hihj9_0 hkx

end Go.Proofs.Ytjmjiegplnfiiaa

/- The error of a schedule, as the program tells it. No conditions. -/
set_option linter.unusedSimpArgs false
set_option linter.unusedVariables false
set_option maxRecDepth 100000
namespace Go.Proofs.Ytjmjiegplnfiiaa
open Go Go.Pv
theorem sp_p {xs : List Task} {c : Crew} {s : List Slot} (h : planE xs ≠ 0) : planE xs = schE xs c s := (if_pos h).symm
theorem sp_0 {xs : List Task} {c : Crew} {s : List Slot} {e : Int} (h : planE xs = 0) (h2 : e = schR xs c s) : e = schE xs c s := by rw [schE, if_neg (fun q => q h), h2]
section
variable {xs : List Task} {c : Crew} {d : List Slot} {x : Slot} {t : Task} {m : Nat}
theorem cl_1 (ht : tsk xs x = t) (h : (bsG xs d x.gang).any (mtB ⟨x.start, x.start + t.minutes⟩) = true) : clB xs c d x = true := by
 rw [cl_eq, spY, ht, h, Bool.true_or]
theorem cl_2 (ht : tsk xs x = t) (h : (clL c.closed t.place).any (mtB ⟨x.start, x.start + t.minutes⟩) = true) : clB xs c d x = true := by
 rw [cl_eq, spY, ht, h, Bool.or_true]
theorem cl_3 (ht : tsk xs x = t) (h : (bsG xs d x.gang).any (mtB ⟨x.start, x.start + t.minutes⟩) = false) (h2 : (clL c.closed t.place).any (mtB ⟨x.start, x.start + t.minutes⟩) = false) : clB xs c d x = false := by
 rw [cl_eq, spY, ht, h, h2, Bool.or_false]
theorem bsT_getI {g : Int} (h : 0 ≤ g ∧ g ≤ (m : Int) - 1) : (bsT xs d m)[g.toNat]? = some (bsG xs d g) := by
 have h1 := bsT_get (xs := xs) (d := d) (m := m) (z := g.toNat) (by omega)
 rw [Int.toNat_of_nonneg h.1] at h1; exact h1
theorem bsT_stepI (h : 0 ≤ x.gang ∧ x.gang ≤ (m : Int) - 1) : (bsT xs d m).set x.gang.toNat (bsG xs d x.gang ++ [spY xs x]) = bsT xs (d ++ [x]) m := by
 have h1 := bsT_step (xs := xs) (d := d) (m := m) (z := x.gang.toNat) (x := x) (by omega) (by omega)
 rw [Int.toNat_of_nonneg h.1] at h1; exact h1
end

theorem fr43 : (inFrame Try.f43.ntmps (Try.f43.body.getD .skip) && Try.f43.results.toList.all (resScope Try.f43.ntmps)) = true := by kernel_rfl
theorem SchC (xs : List Task) (c : Crew) (s : List Slot) (hf : Fair xs) (hxl : xs.length ≤ 15) (hg1 : c.gangs.length ≤ 15) (hg2 : c.closed.length ≤ 50) (hcf : GFair c.gangs) (hsl : s.length ≤ 30) (hso : ∀ y ∈ s, y.ok) : PCalls Try.prog 43 [.lit true 6 (xs.map Task.enc), .agg c.enc, .lit true 3 (s.map Slot.enc)] (.int (schE xs c s)) := by
 refine PCalls.of_code Try.func43 rfl rfl (by kernel_rfl) mixed fr43 (by show _ ≤ 175; simp) (.sc _) ?_
 have hct : ∀ g ∈ c.gangs, g.trades.length ≤ 6 := fun g hg => (hcf g hg).1
 refine pwp_seq_plain rfl fun K1 hK1 => p_new rfl (e_box (n := 2) rfl rfl) ⟨rfl, by decide⟩ (p_aS rfl (p_end (hK1 _ ?_))); clear hK1 K1
 refine pwp_seq_seq (pwp_seq_plain rfl fun K2 hK2 => p_e rfl (e_move (v := .lit _ _ _) rfl) (p_call rfl (.cons inn_lit .nil) (CheckC _ (by omega) hf) (p_aS rfl (p_end (hK2 _ ?_))))); clear hK2 K2
 refine pwp_seq_seq (pwp_seq_plain rfl fun K3 hK3 => p_mS rfl (p_e rfl (e_ne rfl rfl) (p_end (hK3 _ ?_)))); clear hK3 K3
 refine pwp_seq_cond rfl fun K4 hK4 => ⟨fun hb5 => ?_, fun hb5 => ?_⟩
 ·have hb5R := hb5; try simp only [zz] at hb5
  refine pwp_seq_plain rfl fun K6 hK6 => p_mS rfl (p_aS rfl (p_end (hK6 _ ?_))); clear hK6 K6
  refine pwp_ret (ret_seq (end1 (v := .sc _) rfl ?_))
  exact out_i (sp_p (by assumption))
 have hb5R := hb5; try simp only [zz] at hb5
 refine pwp_skip (seq_norm (hK4 _ ?_)); clear hK4 K4
 refine pwp_seq_seq ?_
 have hp : planE xs = 0 := (by assumption)
 refine pwp_seq_plain rfl fun K7 hK7 => p_e rfl (e_loadHA (cs := Crew.enc (c)) (n := 2) rfl (hset_self _ _ _) (by kernel_rfl) (by kernel_rfl) (by kernel_rfl) (by exact Nat.zero_lt_one) (by decide) rfl) (p_call rfl (.cons (inn_agg (Crew.pure _)) .nil) (CheckCrewC c (by omega) (by omega) hcf) (p_aS rfl (p_end (hK7 _ ?_)))); clear hK7 K7
 refine pwp_seq_seq (pwp_seq_plain rfl fun K8 hK8 => p_mS rfl (p_e rfl (e_ne rfl rfl) (p_end (hK8 _ ?_)))); clear hK8 K8
 refine pwp_seq_cond rfl fun K9 hK9 => ⟨fun hb10 => ?_, fun hb10 => ?_⟩
 ·have hb10R := hb10; try simp only [zz] at hb10
  refine pwp_seq_plain rfl fun K11 hK11 => p_mS rfl (p_aS rfl (p_end (hK11 _ ?_))); clear hK11 K11
  refine pwp_ret (ret_seq (end1 (v := .sc _) rfl ?_))
  exact out_i (sp_0 hp (sch_c (by assumption)))
 have hb10R := hb10; try simp only [zz] at hb10
 refine pwp_skip (seq_norm (hK9 _ ?_)); clear hK9 K9
 refine pwp_seq_seq ?_
 have hc0 : crewE c = 0 := (by assumption)
 have hco := crew_ok hc0
 refine pwp_seq_plain rfl fun K12 hK12 => p_e rfl (e_move (v := .lit _ _ _) rfl) (p_e rfl (e_len rfl (by kernel_rfl)) (p_e rfl (e_move (v := .lit _ _ _) rfl) (p_e rfl (e_len rfl (by kernel_rfl)) (p_e rfl (e_ne rfl rfl) (p_end (hK12 _ ?_)))))); clear hK12 K12
 refine pwp_seq_cond rfl fun K13 hK13 => ⟨fun hb14 => ?_, fun hb14 => ?_⟩
 ·have hb14R := hb14; try simp only [zz] at hb14
  refine pwp_seq_plain rfl fun K15 hK15 => p_aS rfl (p_end (hK15 _ ?_)); clear hK15 K15
  refine pwp_ret (ret_seq (end1 (v := .sc _) rfl ?_))
  exact out_i (sp_0 hp (sch_11 hc0 (by simp only [List.length_map] at *; omega)))
 have hb14R := hb14; try simp only [zz] at hb14
 refine pwp_skip (seq_norm (hK13 _ ?_)); clear hK13 K13
 have hll : s.length = xs.length := by simp only [List.length_map] at *; omega
 refine pwp_seq_plain rfl fun K16 hK16 => p_e rfl (e_faQ pl2 rfl) (p_e rfl (e_lH (v := .lit _ _ _) rfl (hset_self _ _ _) rfl) (p_e rfl (e_len rfl (by kernel_rfl)) (p_new rfl (e_mkV (n := c.gangs.length) rfl rfl (by rw [List.length_map]) (by kernel_rfl) (by kernel_rfl) (by kernel_rfl) (by decide +kernel) (by omega)) trivial (p_e rfl (e_assign (v := .ref _ _ _ _) rfl) (p_end (hK16 _ ?_)))))); clear hK16 K16
 refine pwp_seq_seq (pwp_seq_plain rfl fun K17 hK17 => p_e rfl (e_move (v := .lit _ _ _) rfl) (p_e rfl (e_len rfl (by kernel_rfl)) (p_mS rfl (p_end (hK17 _ ?_))))); clear hK17 K17
 refine pwp_seq_block fun K18 hK18 => pwp_loopR (α := Nat × (List PV)) [0, 2, 4, 9, 37, 38] (fun (a19 : Nat × (List PV)) => [(39, .int (a19.1))]) (fun (a19 : Nat × (List PV)) (h : Heap) (_ : Nat → Nat) => ((a19.1) ≤ s.length) ∧ (slF xs c s 0 s = slF xs c s (a19.1) (s.drop (a19.1))) ∧ (DOK xs (s.take (a19.1))) ∧ (NP h 139 2 Sp.enc (a19.2) (bsT xs (s.take (a19.1)) c.gangs.length)) ∧ (h (4, 0) = some (.rows 2 [Crew.enc c])) ∧ (h (36, 0) = some (.rows 1 ((a19.2).map cv)))) (fun (a19 : Nat × (List PV)) => s.length - (a19.1)) (0, List.replicate c.gangs.length .nil) (by exact ⟨rfl, trivial⟩) (by exact ⟨by exact Nat.zero_le _, by exact rfl, by exact dok_0, by rw [List.take_zero, bsT_0]; exact NP.nils _, ((hset_ne (key_ne rfl)).trans (hset_self _ _ _)), (hset_self _ _ _)⟩) fun a19 r20 h21 c22 hj23 => ?_
 obtain ⟨k, vs⟩ := a19
 obtain ⟨hk, hinv, hdk, hnp, hihj23_0, hihj23_1⟩ := hj23
 try dsimp only at hk
 try dsimp only at hinv
 try dsimp only at hdk
 try dsimp only at hnp
 try dsimp only at hihj23_0
 try dsimp only at hihj23_1
 show pwp _ _ (loopQ _ _ _) ⟨sets (mix _ _ _) [(39, .int k)], _, _⟩
 refine pwp_seq_plain rfl fun K24 hK24 => p_e rfl (e_lt rfl rfl) (p_end (hK24 _ ?_)); clear hK24 K24
 refine pwp_seq_cond rfl fun K25 hK25 => ⟨fun hb26 => ?_, fun hb26 => ?_⟩
 ·have hb26R := hb26; try simp only [zz] at hb26
  obtain ⟨x, hx, hd, htk⟩ := get_lt (xs := s) (i := k) (by omega)
  obtain ⟨t, ht, _, _⟩ := get_lt (xs := xs) (i := k) (by omega)
  have htr := (task_ok hp ht).1.2.2
  refine pwp_skip (seq_norm (hK25 _ ?_)); clear hK25 K25
  refine pwp_seq_block fun K27 hK27 => pwp_seq_plain rfl fun K28 hK28 => p_mS rfl (p_e rfl (e_ixL rfl rfl) (p_e rfl (e_loadA (n := 3) rfl (by kernel_rfl) (by kernel_rfl) (by kernel_rfl) (by first | omega | (simp only [List.length_map]; omega)) (by decide) (by first | exact agg_map hx rfl)) (p_new rfl (e_alloc (cs := [.int 0, .int 0, .int 0]) (n := 3) (by kernel_rfl) rfl (by decide)) (ob_alloc (by decide)) (p_aS rfl (p_store rfl (e_storeA rfl (hset_self _ _ _) rfl rfl rfl (by kernel_rfl) rfl (by kernel_rfl)) trivial ?_)))))
  refine p_end (hK28 _ ?_); clear hK28 K28
  refine pwp_seq_block fun K29 hK29 => pwp_seq_plain rfl fun K30 hK30 => p_e rfl (e_faQ pl3 rfl) (p_e rfl (e_lH (v := .sc _) rfl (hset_self _ _ _) rfl) (p_mS rfl (p_e rfl (e_ne rfl rfl) (p_aS rfl (p_end (hK30 _ ?_)))))); clear hK30 K30
  refine pwp_cond rfl (fun hb31 => ?_) (fun hb31 => ?_)
  ·have hb31R := hb31; try simp only [zz] at hb31
   refine pwp_seq_plain rfl fun K32 hK32 => p_aS rfl (p_end (hK32 _ ?_)); clear hK32 K32
   refine pwp_ret (ret_block (ret_seq (ret_block (ret_seq (ret_loop (ret_block (ret_seq ?_)))))))
   refine end1 (v := .sc _) rfl ?_
   exact out_i (sp_0 hp (sch_s hc0 hll hinv hd (slE_10 (by assumption)) (by decide)))
  have hb31R := hb31; try simp only [zz] at hb31
  have htk2 : x.task = (k : Int) := (by assumption)
  refine pwp_seq_plain rfl fun K33 hK33 => p_e rfl (e_faQ pl3 rfl) (p_e rfl (e_lH (v := .sc _) rfl (hset_self _ _ _) rfl) (p_e rfl (e_faQ pl2 rfl) (p_e rfl (e_lH (v := .lit _ _ _) rfl ((hset_ne (key_ne rfl)).trans ((hset_ne (key_ne rfl)).trans hihj23_0)) rfl) (p_e rfl (e_len rfl (by kernel_rfl)) (p_e rfl (e_sub rfl rfl (by first | omega | (simp only [List.length_map] at *; omega))) (p_call rfl (.cons inn_sc (.cons inn_sc (.cons inn_sc .nil))) (within _ _ _) ?_))))))
  refine p_e rfl (e_not rfl) (p_aS rfl (p_end (hK33 _ ?_))); clear hK33 K33
  refine pwp_cond rfl (fun hb34 => ?_) (fun hb34 => ?_)
  ·have hb34R := hb34; try simp only [zz] at hb34
   refine pwp_seq_plain rfl fun K35 hK35 => p_aS rfl (p_end (hK35 _ ?_)); clear hK35 K35
   refine pwp_ret (ret_block (ret_seq (ret_block (ret_seq (ret_loop (ret_block (ret_seq ?_)))))))
   refine end1 (v := .sc _) rfl ?_
   exact out_i (sp_0 hp (sch_s hc0 hll hinv hd (slE_6 (by assumption) (by simp only [List.length_map] at *; omega)) (by decide)))
  have hb34R := hb34; try simp only [zz] at hb34
  refine pwp_skip (block_norm (seq_norm (hK29 _ ?_))); clear hK29 K29
  have hrg : 0 ≤ x.gang ∧ x.gang ≤ (c.gangs.length : Int) - 1 := by simp only [List.length_map] at *; omega
  obtain ⟨g, hg, hgx⟩ := gng_of hrg; have hgr := hco.2.1 g (List.mem_of_getElem? hg); unfold grng at hgr; have htx := tsk_k htk2 ht
  refine pwp_seq_plain rfl fun K36 hK36 => p_e rfl (e_faQ pl2 rfl) (p_e rfl (e_lH (v := .lit _ _ _) rfl ((hset_ne (key_ne rfl)).trans ((hset_ne (key_ne rfl)).trans hihj23_0)) rfl) (p_e rfl (e_faQ pl3 rfl) (p_e rfl (e_lH (v := .sc _) rfl (hset_self _ _ _) rfl) (p_e rfl (e_ixL rfl rfl) (p_e rfl (e_loadA (n := 4) rfl (by kernel_rfl) (by kernel_rfl) (by kernel_rfl) (by first | omega | (simp only [List.length_map]; omega)) (by decide) (by first | exact agg_map hg rfl)) (p_new rfl (e_alloc (cs := [.str ByteArray.empty, .nil, .int 0, .int 0]) (n := 4) (by kernel_rfl) rfl (by decide)) (ob_alloc (by decide)) ?_))))))
  refine p_store rfl (e_storeA rfl (hset_self _ _ _) rfl rfl rfl (by kernel_rfl) rfl (by kernel_rfl)) trivial (p_end (hK36 _ ?_)); clear hK36 K36
  refine pwp_seq_block fun K37 hK37 => pwp_seq_gops rfl fun K38 hK38 => g_begin (g_e rfl (e_faQ pl4 rfl) (g_e rfl (e_lH (v := .lit _ _ _) rfl (hset_self _ _ _) rfl) (g_e rfl (e_move (v := .lit _ _ _) rfl) (g_mS rfl rfl (g_e rfl (e_ixL rfl rfl) ?_)))))
  refine g_e rfl (e_fb pl6 rfl) (g_e rfl (e_load (v := .sc _) rfl (by kernel_rfl) (by kernel_rfl) (by kernel_rfl) (by first | omega | (simp only [List.length_map]; omega)) (by decide) ((cell_map ht _).trans rfl)) (g_call rfl rfl rfl rfl (.cons inn_lit (.cons inn_sc .nil)) (ContainsT _ _ (by have := hct _ (List.mem_of_getElem? hg); omega)) (g_e rfl (e_not rfl) (g_aS rfl rfl (g_end (ds := []) (by kernel_rfl) rfl (hK38 _ ?_)))))); clear hK38 K38
  refine pwp_cond rfl (fun hb39 => ?_) (fun hb39 => ?_)
  ·have hb39R := hb39; try simp only [zz] at hb39
   refine pwp_seq_plain rfl fun K40 hK40 => p_aS rfl (p_end (hK40 _ ?_)); clear hK40 K40
   refine pwp_ret (ret_block (ret_seq (ret_block (ret_seq (ret_loop (ret_block (ret_seq ?_)))))))
   refine end1 (v := .sc _) rfl ?_
   exact out_i (sp_0 hp (sch_s hc0 hll hinv hd (slE_21 htk2 hrg htx hgx (by assumption)) (by decide)))
  have hb39R := hb39; try simp only [zz] at hb39
  refine pwp_seq_gops rfl fun K41 hK41 => g_begin (g_e rfl (e_faQ pl3 rfl) (g_e rfl (e_lH (v := .sc _) rfl ((hset_ne (key_ne rfl)).trans ((hset_ne (key_ne rfl)).trans (hset_self _ _ _))) rfl) (g_e rfl (e_gt rfl rfl) (g_mS rfl rfl ?_))))
  refine g_cases (fun hb42 => ?_) (fun hb42 => ?_)
  ·have hb42R := hb42; try simp only [zz] at hb42
   iterate 5 refine g_skip rfl rfl rfl ?_
   refine g_pT rfl rfl rfl (g_mS rfl rfl ?_)
   iterate 11 refine g_skip rfl rfl rfl ?_
   refine g_pT rfl rfl rfl (g_aS rfl rfl ?_)
   refine g_endR (ds := [79, 80, 81, 82, 83, 86, 87, 88, 89, 90, 91, 92, 93, 94, 95, 96]) [0, 1, 3, 7, 15, 31, 15, 79, 255, 511, 1023, 2047, 4095, 2047, 2047, 26623, 59391, 124927, 262143, 2047, 526335, 2097151, 4194303, 8388607] (by kernel_rfl) rfl (hK41 _ ?_); clear hK41 K41
   refine pwp_cond (t := true) rfl (fun _ => ?_) nofun
   refine pwp_seq_plain rfl fun K43 hK43 => p_aS rfl (p_end (hK43 _ ?_)); clear hK43 K43
   refine pwp_ret (ret_block (ret_seq (ret_block (ret_seq (ret_loop (ret_block (ret_seq ?_)))))))
   refine end1 (v := .sc _) rfl ?_
   exact out_i (sp_0 hp (sch_s hc0 hll hinv hd (slE_2 htk2 hrg htx hgx (by assumption) (by omega)) (by decide)))
  have hb42R := hb42; try simp only [zz] at hb42
  refine g_e rfl (e_faQ pl3 rfl) (g_e rfl (e_lH (v := .sc _) rfl ((hset_ne (key_ne rfl)).trans ((hset_ne (key_ne rfl)).trans (hset_self _ _ _))) rfl) (g_e rfl (e_faQ pl4 rfl) (g_e rfl (e_lH (v := .sc _) rfl (hset_self _ _ _) rfl) (g_e rfl (e_lt rfl rfl) (g_pF rfl rfl rfl (g_mS rfl rfl ?_))))))
  refine g_cases (fun hb44 => ?_) (fun hb44 => ?_)
  ·have hb44R := hb44; try simp only [zz] at hb44
   iterate 11 refine g_skip rfl rfl rfl ?_
   refine g_pT rfl rfl rfl (g_aS rfl rfl ?_)
   refine g_endR (ds := [79, 80, 81, 82, 83, 86, 87, 88, 89, 90, 91, 92, 93, 94, 95, 96]) [0, 1, 3, 7, 15, 31, 15, 79, 255, 511, 1023, 2047, 4095, 2047, 2047, 26623, 59391, 124927, 262143, 2047, 526335, 2097151, 4194303, 8388607] (by kernel_rfl) rfl (hK41 _ ?_); clear hK41 K41
   refine pwp_cond (t := true) rfl (fun _ => ?_) nofun
   refine pwp_seq_plain rfl fun K45 hK45 => p_aS rfl (p_end (hK45 _ ?_)); clear hK45 K45
   refine pwp_ret (ret_block (ret_seq (ret_block (ret_seq (ret_loop (ret_block (ret_seq ?_)))))))
   refine end1 (v := .sc _) rfl ?_
   exact out_i (sp_0 hp (sch_s hc0 hll hinv hd (slE_2 htk2 hrg htx hgx (by assumption) (by omega)) (by decide)))
  have hb44R := hb44; try simp only [zz] at hb44
  refine g_e rfl (e_faQ pl3 rfl) (g_e rfl (e_lH (v := .sc _) rfl ((hset_ne (key_ne rfl)).trans ((hset_ne (key_ne rfl)).trans (hset_self _ _ _))) rfl) (g_e rfl (e_move (v := .lit _ _ _) rfl) (g_mS rfl rfl (g_e rfl (e_ixL rfl rfl) (g_e rfl (e_fb pl6 rfl) (g_e rfl (e_load (v := .sc _) rfl (by kernel_rfl) (by kernel_rfl) (by kernel_rfl) (by first | omega | (simp only [List.length_map]; omega)) (by decide) ((cell_map ht _).trans rfl)) (g_e rfl (e_adL rfl rfl) ?_)))))))
  refine g_e rfl (e_faQ pl4 rfl) (g_e rfl (e_lH (v := .sc _) rfl (hset_self _ _ _) rfl) (g_e rfl (e_gt rfl rfl) (g_pF rfl rfl rfl (g_aS rfl rfl ?_))))
  refine g_endR (ds := [79, 80, 81, 82, 83, 86, 87, 88, 89, 90, 91, 92, 93, 94, 95, 96]) [0, 1, 3, 7, 15, 31, 15, 79, 255, 511, 1023, 2047, 4095, 2047, 2047, 26623, 59391, 124927, 262143, 2047, 526335, 2097151, 4194303, 8388607] (by kernel_rfl) rfl (hK41 _ ?_); clear hK41 K41
  refine pwp_cond rfl (fun hb46 => ?_) (fun hb46 => ?_)
  ·have hb46R := hb46; try simp only [zz] at hb46
   refine pwp_seq_plain rfl fun K47 hK47 => p_aS rfl (p_end (hK47 _ ?_)); clear hK47 K47
   refine pwp_ret (ret_block (ret_seq (ret_block (ret_seq (ret_loop (ret_block (ret_seq ?_)))))))
   refine end1 (v := .sc _) rfl ?_
   exact out_i (sp_0 hp (sch_s hc0 hll hinv hd (slE_2 htk2 hrg htx hgx (by assumption) (by omega)) (by decide)))
  have hb46R := hb46; try simp only [zz] at hb46
  refine pwp_skip (block_norm (seq_norm (hK37 _ ?_))); clear hK37 K37
  refine pwp_seq_gops rfl fun K48 hK48 => s_begin (s_e rfl (e_faQ pl3 rfl) (s_step [11] (by simp) rfl rfl rfl rfl (e_lH (v := .sc _) rfl ((hset_ne (key_ne rfl)).trans ((hset_ne (key_ne rfl)).trans (hset_self _ _ _))) rfl) trivial (s_e rfl (e_faQ pl3 rfl) (s_step [11] (by simp) rfl rfl rfl rfl (e_lH (v := .sc _) rfl ((hset_ne (key_ne rfl)).trans ((hset_ne (key_ne rfl)).trans (hset_self _ _ _))) rfl) trivial (s_e rfl (e_move (v := .lit _ _ _) rfl) (s_e rfl (e_move (v := .sc _) rfl) ?_))))))
  refine s_e rfl (e_ixL rfl rfl) (s_e rfl (e_fb pl6 rfl) (s_e rfl (e_load (v := .sc _) rfl (by kernel_rfl) (by kernel_rfl) (by kernel_rfl) (by first | omega | (simp only [List.length_map]; omega)) (by decide) ((cell_map ht _).trans rfl)) (s_e rfl (e_adL rfl rfl) (s_e rfl (e_build (cs := Sp.enc (⟨x.start, (x.start + t.minutes)⟩ : Sp)) (zs := [.int 0, .int 0]) (pl := [(0, 1, false), (1, 1, false)]) (by kernel_rfl) (by kernel_rfl) (by kernel_rfl) rfl rfl (by exact ⟨by decide, rfl, Nat.le_of_ble_eq_true rfl, rfl, ⟨by decide, rfl, Nat.le_of_ble_eq_true rfl, rfl, trivial⟩⟩) rfl) (s_new [] (by simp) rfl rfl rfl rfl (e_alloc (cs := [.int 0, .int 0]) (n := 2) (by kernel_rfl) rfl (by decide)) (ob_alloc (by decide)) (s_store [13] (by simp) rfl rfl (e_storeA rfl (hset_self _ _ _) rfl rfl rfl (by kernel_rfl) rfl (by kernel_rfl)) trivial (s_end (ds := []) (by kernel_rfl) (by kernel_rfl) (hK48 _ ?_)))))))); clear hK48 K48
  refine pwp_seq_seq ?_
  obtain ⟨u, hu⟩ : ∃ u, vs[x.gang.toNat]? = some u := ⟨_, List.getElem?_eq_getElem (by rw [hnp.len, bsT_len]; omega)⟩
  have hul := hnp.get hu (bsT_getI hrg)
  have hgl := bsG_len (xs := xs) (d := s.take k) (g := x.gang); rw [List.length_take] at hgl
  refine pwp_seq_gops rfl fun K49 hK49 => g_begin (g_e rfl (e_move (v := .ref _ _ _ _) rfl) (g_e rfl (e_faQ pl3 rfl) (g_e rfl (e_lH (v := .sc _) rfl ((hset_ne (key_ne rfl)).trans ((hset_ne (key_ne rfl)).trans ((hset_ne (key_ne rfl)).trans ((hset_ne (key_ne rfl)).trans (hset_self _ _ _))))) rfl) (g_e rfl (e_ixaR0 rfl rfl (by kernel_rfl) (by kernel_rfl) (by omega)) (g_e rfl (e_loadV (v := u) rfl ((hset_ne (key_ne rfl)).trans ((hset_ne (key_ne rfl)).trans ((hset_ne (key_ne rfl)).trans ((hset_ne (key_ne rfl)).trans ((hset_ne (key_ne rfl)).trans ((hset_ne (key_ne rfl)).trans hihj23_1)))))) (by kernel_rfl) (by kernel_rfl) (by kernel_rfl) hu) (g_e rfl (e_loadHA (cs := Sp.enc ((⟨x.start, (x.start + t.minutes)⟩ : Sp))) (n := 2) rfl (hset_self _ _ _) (by kernel_rfl) (by kernel_rfl) (by kernel_rfl) (by exact Nat.zero_lt_one) (by decide) rfl) ?_))))))
  refine g_e rfl (e_mkfB (a := .agg (Sp.enc (⟨x.start, (x.start + t.minutes)⟩ : Sp))) rfl rfl) (g_call rfl rfl rfl rfl (.cons (SliceAt.inn (rows' := ((bsG xs (s.take k) x.gang)).map Sp.enc) (hul.keep fun _ => (hset_ne (key_ne rfl)).trans ((hset_ne (key_ne rfl)).trans ((hset_ne (key_ne rfl)).trans ((hset_ne (key_ne rfl)).trans ((hset_ne (key_ne rfl)).trans ((hset_ne (key_ne rfl)).trans (rfl))))))) (by simp) (by first | exact pure_map Sp.pure | (simp only [← List.map_append, List.nil_append]; exact pure_map Sp.pure))) (.cons inn_bndF .nil)) (ContainsSp _ _ (by first | omega | (have := clL_len (cs := c.closed) (p := t.place); omega))) (g_mS rfl rfl ?_))
  refine g_cases (fun hb50 => ?_) (fun hb50 => ?_)
  ·have hb50R := hb50; try simp only [zz] at hb50
   iterate 6 refine g_skip rfl rfl rfl ?_
   refine g_nocall rfl rfl rfl ?_
   iterate 2 refine g_skip rfl rfl rfl ?_
   refine g_nocall rfl rfl rfl (g_pT rfl rfl rfl (g_end (ds := [118, 119, 120, 121, 122, 123, 124, 125, 126, 127]) (by kernel_rfl) rfl (hK49 _ ?_))); clear hK49 K49
   refine pwp_seq_cond (t := true) rfl fun K51 hK51 => ⟨fun _ => ?_, nofun⟩
   refine pwp_seq_plain rfl fun K52 hK52 => p_aS rfl (p_end (hK52 _ ?_)); clear hK52 K52
   refine pwp_ret (ret_seq (ret_block (ret_seq (ret_loop (ret_block (ret_seq (end1 (v := .sc _) rfl ?_)))))))
   exact out_i (sp_0 hp (sch_s hc0 hll hinv hd (slE_12 htk2 hrg htx hgx (by assumption) (by omega) (cl_1 htx (by assumption))) (by decide)))
  have hb50R := hb50; try simp only [zz] at hb50
  refine g_e rfl (e_loadHA (cs := Crew.enc (c)) (n := 2) rfl ((hset_ne (key_ne rfl)).trans ((hset_ne (key_ne rfl)).trans ((hset_ne (key_ne rfl)).trans ((hset_ne (key_ne rfl)).trans ((hset_ne (key_ne rfl)).trans ((hset_ne (key_ne rfl)).trans hihj23_0)))))) (by kernel_rfl) (by kernel_rfl) (by kernel_rfl) (by exact Nat.zero_lt_one) (by decide) rfl) (g_e rfl (e_move (v := .lit _ _ _) rfl) (g_mS rfl rfl (g_e rfl (e_ixL rfl rfl) (g_e rfl (e_fb pl6 rfl) (g_e rfl (e_load (v := .sc _) rfl (by kernel_rfl) (by kernel_rfl) (by kernel_rfl) (by first | omega | (simp only [List.length_map]; omega)) (by decide) ((cell_map ht _).trans rfl)) (g_call rfl rfl rfl rfl (.cons (inn_agg (Crew.pure _)) (.cons inn_sc .nil)) (closedSp c _ (by omega)) (g_e rfl (e_loadHA (cs := Sp.enc ((⟨x.start, (x.start + t.minutes)⟩ : Sp))) (n := 2) rfl (hset_self _ _ _) (by kernel_rfl) (by kernel_rfl) (by kernel_rfl) (by exact Nat.zero_lt_one) (by decide) rfl) ?_)))))))
  refine g_e rfl (e_mkfB (a := .agg (Sp.enc (⟨x.start, (x.start + t.minutes)⟩ : Sp))) rfl rfl) (g_call rfl rfl rfl rfl (.cons inn_lit (.cons inn_bndF .nil)) (ContainsSp _ _ (by first | omega | (have := clL_len (cs := c.closed) (p := t.place); omega))) (g_pF rfl rfl rfl (g_end (ds := [118, 119, 120, 121, 122, 123, 124, 125, 126, 127]) (by kernel_rfl) rfl (hK49 _ ?_)))); clear hK49 K49
  refine pwp_seq_cond rfl fun K53 hK53 => ⟨fun hb54 => ?_, fun hb54 => ?_⟩
  ·have hb54R := hb54; try simp only [zz] at hb54
   refine pwp_seq_plain rfl fun K55 hK55 => p_aS rfl (p_end (hK55 _ ?_)); clear hK55 K55
   refine pwp_ret (ret_seq (ret_block (ret_seq (ret_loop (ret_block (ret_seq (end1 (v := .sc _) rfl ?_)))))))
   exact out_i (sp_0 hp (sch_s hc0 hll hinv hd (slE_12 htk2 hrg htx hgx (by assumption) (by omega) (cl_2 htx (by assumption))) (by decide)))
  have hb54R := hb54; try simp only [zz] at hb54
  refine pwp_skip (seq_norm (hK53 _ ?_)); clear hK53 K53
  refine pwp_gopsK rfl fun hkn K56 hK56 => ?_
  have hfs := hkn.fresh 139
  refine s_begin (s_e rfl (e_move (v := .ref _ _ _ _) rfl) (s_e rfl (e_faQ pl3 rfl) (s_step [11] (by simp) rfl rfl rfl rfl (e_lH (v := .sc _) rfl ((hset_ne (key_ne rfl)).trans ((hset_ne (key_ne rfl)).trans ((hset_ne (key_ne rfl)).trans ((hset_ne (key_ne rfl)).trans (hset_self _ _ _))))) rfl) trivial (s_e rfl (e_move (v := .ref _ _ _ _) rfl) (s_e rfl (e_faQ pl3 rfl) (s_step [11] (by simp) rfl rfl rfl rfl (e_lH (v := .sc _) rfl ((hset_ne (key_ne rfl)).trans ((hset_ne (key_ne rfl)).trans ((hset_ne (key_ne rfl)).trans ((hset_ne (key_ne rfl)).trans (hset_self _ _ _))))) rfl) trivial (s_e rfl (e_ixaR0 rfl rfl (by kernel_rfl) (by kernel_rfl) (by omega)) ?_)))))))
  refine s_step [36] (by simp) rfl rfl rfl rfl (e_loadV (v := u) rfl ((hset_ne (key_ne rfl)).trans ((hset_ne (key_ne rfl)).trans ((hset_ne (key_ne rfl)).trans ((hset_ne (key_ne rfl)).trans ((hset_ne (key_ne rfl)).trans ((hset_ne (key_ne rfl)).trans hihj23_1)))))) (by kernel_rfl) (by kernel_rfl) (by kernel_rfl) hu) trivial (s_step [13] (by simp) rfl rfl rfl rfl (e_loadHA (cs := Sp.enc ((⟨x.start, (x.start + t.minutes)⟩ : Sp))) (n := 2) rfl (hset_self _ _ _) (by kernel_rfl) (by kernel_rfl) (by kernel_rfl) (by exact Nat.zero_lt_one) (by decide) rfl) trivial (s_new [] (by simp) rfl rfl rfl rfl (e_bslice (rows := [Sp.enc ⟨x.start, x.start + t.minutes⟩]) (zs := [.int 0, .int 0]) (sz := 2) (by kernel_rfl) (by kernel_rfl) rfl (by kernel_rfl) (by decide) rfl rfl (by exact ⟨by decide, rfl, rfl, trivial⟩) rfl) trivial (s_appK (u := u) (sz := 2) (d1 := 139) (rows := (bsG xs (s.take k) x.gang).map Sp.enc) (rows2 := [Sp.enc ⟨x.start, x.start + t.minutes⟩]) (ds := [138]) [139, 138] [139] (by simp) (by simp) (by simp) rfl rfl rfl (hul.keep fun _ => (hset_ne (key_ne rfl)).trans ((hset_ne (key_ne rfl)).trans ((hset_ne (key_ne rfl)).trans ((hset_ne (key_ne rfl)).trans ((hset_ne (key_ne rfl)).trans ((hset_ne (key_ne rfl)).trans ((hset_ne (key_ne rfl)).trans (rfl)))))))) (SrcAt.ref (hset_self _ _ _) rfl) rfl (by kernel_rfl) (by simp only [List.length_map, List.length_cons, List.length_nil]; omega) (by simp) fun h1 hr1 hf1 => ?_)))
  have hsp : spY xs x = ⟨x.start, x.start + t.minutes⟩ := by rw [spY, htx]
  have hnp2 := (hnp.keep (fun g => (hset_ne (key_ne rfl)).trans ((hset_ne (key_ne rfl)).trans ((hset_ne (key_ne rfl)).trans ((hset_ne (key_ne rfl)).trans ((hset_ne (key_ne rfl)).trans ((hset_ne (key_ne rfl)).trans ((hset_ne (key_ne rfl)).trans (rfl))))))))).app (Fresh.keep (d := 139) hfs (fun g => hset_ne (key_ne rfl)) rfl) (l' := (bsG xs (s.take k) x.gang) ++ [spY xs x]) (v' := .ref (139, _) 2 0 (((bsG xs (s.take k) x.gang).map Sp.enc).length + [Sp.enc ⟨x.start, x.start + t.minutes⟩].length)) hu (bsT_getI hrg) (congrArg (PV.ref _ 2 0) (by simp only [List.length_map, List.length_append, List.length_cons, List.length_nil])) (hr1.trans (by rw [List.map_append, hsp]; rfl)) (fun k' q1 q2 => hf1 k' q1 (fun g e => q2 g (by rw [e, List.length_map])))
  rw [bsT_stepI hrg, ← htk] at hnp2
  have ho57 := (hf1 (4, _) (key_ne rfl) (fun _ _ => key_ne rfl)).trans ((hset_ne (key_ne rfl)).trans ((hset_ne (key_ne rfl)).trans ((hset_ne (key_ne rfl)).trans ((hset_ne (key_ne rfl)).trans ((hset_ne (key_ne rfl)).trans ((hset_ne (key_ne rfl)).trans ((hset_ne (key_ne rfl)).trans hihj23_0)))))))
  have ho58 := (hf1 (36, _) (key_ne rfl) (fun _ _ => key_ne rfl)).trans ((hset_ne (key_ne rfl)).trans ((hset_ne (key_ne rfl)).trans ((hset_ne (key_ne rfl)).trans ((hset_ne (key_ne rfl)).trans ((hset_ne (key_ne rfl)).trans ((hset_ne (key_ne rfl)).trans ((hset_ne (key_ne rfl)).trans hihj23_1)))))))
  have ho59 := (hf1 (11, _) (key_ne rfl) (fun _ _ => key_ne rfl)).trans ((hset_ne (key_ne rfl)).trans ((hset_ne (key_ne rfl)).trans ((hset_ne (key_ne rfl)).trans ((hset_ne (key_ne rfl)).trans ((hset_ne (key_ne rfl)).trans (hset_self _ _ _))))))
  have ho60 := (hf1 (12, _) (key_ne rfl) (fun _ _ => key_ne rfl)).trans ((hset_ne (key_ne rfl)).trans ((hset_ne (key_ne rfl)).trans ((hset_ne (key_ne rfl)).trans (hset_self _ _ _))))
  have ho61 := (hf1 (13, _) (key_ne rfl) (fun _ _ => key_ne rfl)).trans ((hset_ne (key_ne rfl)).trans (hset_self _ _ _))
  have ho62 := (hf1 (138, _) (key_ne rfl) (fun _ _ => key_ne rfl)).trans (hset_self _ _ _)
  refine s_e rfl (e_ixaR0 rfl rfl (by kernel_rfl) (by kernel_rfl) (by omega)) (s_store [36] (by simp) rfl rfl (e_storeV rfl ho58 rfl rfl rfl (by rw [hnp.len, bsT_len]; omega) (by kernel_rfl) (by kernel_rfl)) trivial (s_end (ds := []) (by kernel_rfl) (by kernel_rfl) (hK56 _ ?_))); clear hK56 K56
  refine block_norm (seq_norm (hK27 _ ?_)); clear hK27 K27
  refine pwp_plain rfl fun K63 hK63 => p_e rfl (e_adL rfl rfl) (p_mS rfl (p_end (hK63 _ ?_))); clear hK63 K63
  exact loop_again ((k + 1, _)) (by show _ < _; simp only; omega) ⟨rfl, rfl, rfl, rfl, rfl, rfl, trivial⟩ ⟨rfl, trivial⟩ (by exact ⟨by show _ + 1 ≤ _; simp only [List.length_map] at *; omega, by exact sl_go hinv hd (slE_0 htk2 hrg htx hgx (by assumption) (by omega) (cl_3 htx (by assumption) (by assumption))), by exact dok_snoc htk hdk (by omega), by (show NP _ 139 2 Sp.enc _ _; refine hnp2.keep ?_; intro g; exact hset_ne (key_ne rfl)), ((hset_ne (key_ne rfl)).trans ho57), (hset_self _ _ _)⟩)
 have hb26R := hb26; try simp only [zz] at hb26
 have hs0 := sl_all hinv (by simp only [List.length_map] at *; omega)
 have hss : DOK xs s := by rw [List.take_of_length_le (by simp only [List.length_map] at *; omega)] at hdk; exact hdk
 refine pwp_exit (exit_seq ?_)
 clear hK25 K25
 refine exit_loop (exit_here (seq_norm (hK18 _ ?_))); clear hK18 K18
 refine pwp_seq_seq (pwp_seq_plain rfl fun K64 hK64 => p_e rfl (e_move (v := .lit _ _ _) rfl) (p_e rfl (e_len rfl (by kernel_rfl)) (p_mS rfl (p_end (hK64 _ ?_))))); clear hK64 K64
 refine pwp_seq_block fun K65 hK65 => pwp_loopR (α := Nat) [0, 2, 142, 143] (fun (k : Nat) => [(144, .int (k))]) (fun (k : Nat) (h : Heap) (_ : Nat → Nat) => ((k) ≤ s.length) ∧ (∀ i, i < (k) → lateI xs s i = false)) (fun (k : Nat) => s.length - (k)) (0) (by exact ⟨rfl, trivial⟩) (by exact ⟨by exact Nat.zero_le _, by exact fun i h => absurd h (Nat.not_lt_zero _)⟩) fun k r66 h67 c68 hj69 => ?_
 obtain ⟨hk, hla⟩ := hj69
 try dsimp only at hk
 try dsimp only at hla
 show pwp _ _ (loopQ _ _ _) ⟨sets (mix _ _ _) [(144, .int k)], _, _⟩
 refine pwp_seq_plain rfl fun K70 hK70 => p_e rfl (e_lt rfl rfl) (p_end (hK70 _ ?_)); clear hK70 K70
 refine pwp_seq_cond rfl fun K71 hK71 => ⟨fun hb72 => ?_, fun hb72 => ?_⟩
 ·have hb72R := hb72; try simp only [zz] at hb72
  obtain ⟨x, hx, hd, htk⟩ := get_lt (xs := s) (i := k) (by omega)
  obtain ⟨t, ht, _, _⟩ := get_lt (xs := xs) (i := k) (by omega)
  have hta := task_ok hp ht
  have htn := (hf t (List.mem_of_getElem? ht)).1
  refine pwp_skip (seq_norm (hK71 _ ?_)); clear hK71 K71
  refine pwp_seq_block fun K73 hK73 => pwp_seq_plain rfl fun K74 hK74 => p_mS rfl (p_e rfl (e_ixL rfl rfl) (p_e rfl (e_loadA (n := 3) rfl (by kernel_rfl) (by kernel_rfl) (by kernel_rfl) (by first | omega | (simp only [List.length_map]; omega)) (by decide) (by first | exact agg_map hx rfl)) (p_new rfl (e_alloc (cs := [.int 0, .int 0, .int 0]) (n := 3) (by kernel_rfl) rfl (by decide)) (ob_alloc (by decide)) (p_aS rfl (p_store rfl (e_storeA rfl (hset_self _ _ _) rfl rfl rfl (by kernel_rfl) rfl (by kernel_rfl)) trivial ?_)))))
  refine p_end (hK74 _ ?_); clear hK74 K74
  refine pwp_seq_plain rfl fun K75 hK75 => p_e rfl (e_move (v := .lit _ _ _) rfl) (p_mS rfl (p_e rfl (e_ixL rfl rfl) (p_e rfl (e_fb pl6 rfl) (p_e rfl (e_load (v := .lit _ _ _) rfl (by kernel_rfl) (by kernel_rfl) (by kernel_rfl) (by first | omega | (simp only [List.length_map]; omega)) (by decide) ((cell_map ht _).trans rfl)) (p_e rfl (e_len rfl (by kernel_rfl)) (p_mS rfl ?_))))))
  refine p_end (hK75 _ ?_); clear hK75 K75
  refine pwp_block (pwp_loopR (α := Nat) [0, 2, 15, 142, 143, 144, 153, 154] (fun (j : Nat) => [(155, .int (j))]) (fun (j : Nat) (h : Heap) (_ : Nat → Nat) => ((j) ≤ t.needs.length) ∧ (∀ i, i < (j) → ∀ y, t.needs[i]? = some y → lt1 xs s k y = false) ∧ (h (15, c68 15) = some (.rows 3 [Slot.enc x]))) (fun (j : Nat) => t.needs.length - (j)) (0) (by exact ⟨rfl, trivial⟩) (by exact ⟨by exact Nat.zero_le _, by exact nx_0, (hset_self _ _ _)⟩) fun j r76 h77 c78 hj79 => ?_)
  obtain ⟨hj, hnl, hihj79_0⟩ := hj79
  try dsimp only at hj
  try dsimp only at hnl
  try dsimp only at hihj79_0
  show pwp _ _ (loopQ _ _ _) ⟨sets (mix _ _ _) [(155, .int j)], _, _⟩
  refine pwp_seq_plain rfl fun K80 hK80 => p_e rfl (e_lt rfl rfl) (p_end (hK80 _ ?_)); clear hK80 K80
  refine pwp_seq_cond rfl fun K81 hK81 => ⟨fun hb82 => ?_, fun hb82 => ?_⟩
  ·have hb82R := hb82; try simp only [zz] at hb82
   obtain ⟨n, hn, hdn, htn2⟩ := get_lt (xs := t.needs) (i := j) (by omega)
   have hnr := hta.2.2.2.1 n (List.mem_of_getElem? hn)
   obtain ⟨y, hy, _, _⟩ := get_lt (xs := s) (i := n.toNat) (by omega)
   obtain ⟨u, hu, _, _⟩ := get_lt (xs := xs) (i := n.toNat) (by omega)
   have hur := (task_ok hp hu).1.2.2
   have hyr := hss y (List.mem_of_getElem? hy)
   have hlt := lt1_at hx hy hu
   refine pwp_skip (seq_norm (hK81 _ ?_)); clear hK81 K81
   refine pwp_seq_block fun K83 hK83 => pwp_seq_plain rfl fun K84 hK84 => p_e rfl (e_ixL rfl rfl) (p_e rfl (e_load (v := .sc _) rfl (by kernel_rfl) (by kernel_rfl) (by kernel_rfl) (by first | omega | (simp only [List.length_map]; omega)) (by decide) ((cell_map hn _).trans rfl)) (p_aS rfl (p_end (hK84 _ ?_)))); clear hK84 K84
   refine pwp_seq_gops rfl fun K85 hK85 => g_begin (g_e rfl (e_faQ pl3 rfl) (g_e rfl (e_lH (v := .sc _) rfl hihj79_0 rfl) (g_e rfl (e_move (v := .lit _ _ _) rfl) (g_mS rfl rfl (g_e rfl (e_ixL rfl rfl) (g_e rfl (e_fb pl3 rfl) ?_))))))
   refine g_e rfl (e_load (v := .sc _) rfl (by kernel_rfl) (by kernel_rfl) (by kernel_rfl) (by first | omega | (simp only [List.length_map]; omega)) (by decide) ((cell_map hy _).trans rfl)) (g_e rfl (e_move (v := .lit _ _ _) rfl) (g_mS rfl rfl (g_e rfl (e_ixL rfl rfl) (g_e rfl (e_fb pl6 rfl) (g_e rfl (e_load (v := .sc _) rfl (by kernel_rfl) (by kernel_rfl) (by kernel_rfl) (by first | omega | (simp only [List.length_map]; omega)) (by decide) ((cell_map hu _).trans rfl)) (g_e rfl (e_adL rfl rfl) (g_e rfl (e_lt rfl rfl) ?_)))))))
   refine g_end (ds := []) (by kernel_rfl) rfl (hK85 _ ?_); clear hK85 K85
   refine pwp_cond rfl (fun hb86 => ?_) (fun hb86 => ?_)
   ·have hb86R := hb86; try simp only [zz] at hb86
    refine pwp_seq_plain rfl fun K87 hK87 => p_aS rfl (p_end (hK87 _ ?_)); clear hK87 K87
    refine pwp_ret (ret_block (ret_seq (ret_loop (ret_block (ret_block (ret_seq (ret_loop ?_)))))))
    refine ret_block (ret_seq (end1 (v := .sc _) rfl ?_))
    exact out_i (sp_0 hp (sch_25 hc0 hll hs0 (by omega) ht hn (hlt.trans (decide_eq_true (by omega)))))
   have hb86R := hb86; try simp only [zz] at hb86
   refine pwp_skip (block_norm (seq_norm (hK83 _ ?_))); clear hK83 K83
   refine pwp_plain rfl fun K88 hK88 => p_e rfl (e_adL rfl rfl) (p_mS rfl (p_end (hK88 _ ?_))); clear hK88 K88
   exact loop_again (j + 1) (by show _ < _; omega) ⟨rfl, rfl, rfl, rfl, rfl, rfl, rfl, rfl, trivial⟩ ⟨rfl, trivial⟩ (by exact ⟨by show _ + 1 ≤ _; simp only [List.length_map] at *; omega, by exact nx_step (K := lt1 xs s k) hnl hn (hlt.trans (decide_eq_false (by omega))), hihj79_0⟩)
  have hb82R := hb82; try simp only [zz] at hb82
  refine pwp_exit (exit_seq ?_)
  clear hK81 K81
  refine exit_loop (exit_here (block_norm (seq_norm (hK73 _ ?_)))); clear hK73 K73
  refine pwp_plain rfl fun K89 hK89 => p_e rfl (e_adL rfl rfl) (p_mS rfl (p_end (hK89 _ ?_))); clear hK89 K89
  exact loop_again (k + 1) (by show _ < _; omega) ⟨rfl, rfl, rfl, rfl, trivial⟩ ⟨rfl, trivial⟩ (by exact ⟨by show _ + 1 ≤ _; simp only [List.length_map] at *; omega, by exact upto_step (p := fun i => lateI xs s i = false) hla (late_n ht hnl (by simp only [List.length_map] at *; omega))⟩)
 have hb72R := hb72; try simp only [zz] at hb72
 refine pwp_exit (exit_seq ?_)
 clear hK71 K71
 refine exit_loop (exit_here (seq_norm (hK65 _ ?_))); clear hK65 K65
 refine pwp_seq_plain rfl fun K90 hK90 => p_aS rfl (p_end (hK90 _ ?_)); clear hK90 K90
 refine pwp_ret (end1 (v := .sc _) rfl ?_)
 exact out_i (sp_0 hp (sch_0 hc0 hll hs0 hla (by simp only [List.length_map] at *; omega)))

end Go.Proofs.Ytjmjiegplnfiiaa

/- ErectionScheduleChecks at P level. No conditions. -/
set_option linter.unusedSimpArgs false
set_option linter.unusedVariables false
set_option maxRecDepth 100000
namespace Go.Proofs.Ytjmjiegplnfiiaa
open Go Go.Pv
end Go.Proofs.Ytjmjiegplnfiiaa
