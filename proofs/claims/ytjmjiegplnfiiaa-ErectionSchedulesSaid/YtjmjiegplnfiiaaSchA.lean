import Derived.Test.YtjmjiegplnfiiaaCrwA
/- Times that meet, and closed places. No conditions. -/
set_option linter.unusedSimpArgs false
set_option linter.unusedVariables false
set_option maxRecDepth 100000
namespace Go.Proofs.Ytjmjiegplnfiiaa
open Go Go.Pv
section
variable {P : Program} {Q : Exit → PS → Prop} {s : PS}
theorem pwp_gopsK {id : Nat} {ops : Array Oper} {d : Bool} (hg : (noGuards ops && !d) = false) (h : Known s → ∀ K : PS → Prop, (∀ s', Q .normal s' → K s') → gOps P ops d K ops.toList 0 ⟨s, fun _ => true⟩ []) : pwp P (.region id ops d) Q s := by
 show pRegion P ops d (Q .normal) s
 unfold pRegion
 intro hk
 rw [hg]
 exact .inl (h hk _ fun _ h => h)
end
section
variable {P : Program} {K : PS → Prop} {d : Nat} {op : Op} {ty t : TypeId} {pos : String} {aft : Array Edge} {rest : List Oper} {r : Nat → PV} {h : Heap} {cnt : Nat → Nat} {ops : Array Oper} {i : Nat} {G : Nat → Bool} {dd : Bool} {x y : Operand}
theorem e_mkfB {ρ : Operand → PV} {key : Key} {fn : Fn} {first cap : Array Operand} {a : PV} (hf : first.toList.map ρ = [a]) (hc : cap.toList.map ρ = []) : eff P ρ h key (.makeFunc fn first cap) = ⟨True, .func fn [a] [], [], [], false⟩ := by
 rw [← hf]; exact e_mkf hc
/-- A drawn append whose result is told in full. -/
theorem s_appK {ts : Array TypeId} {t2 : TypeId} {u u2 : PV} {sz d1 : Nat} {rows rows2 : Pv.Rows} {tl : List Ft} {ds : List Nat} (rs ws : List Nat) (hr1 : d1 ∈ rs) (hr2 : ∀ z ∈ ds, z ∈ rs) (hw1 : d1 ∈ ws ∧ d ∈ ws) (hts : ts.toList = [t, t2]) (hx : ev r x = u) (hy : ev r y = u2) (hs : SliceAt h d1 u sz rows) (hsr : SrcAt h ds sz u2 rows2)
   (hv : validB r G (.call { callee := .builtin .append, args := #[x, y], argTypes := ts }) = true)
   (hok : (sliceOk P t && (decide (P.bytesOf (elemTy P t) < 2 ^ 15) && (decide (intKind P t2 = none) && (zeroOk P (elemTy P t) && ((P.underlying t2).isSome && decide (tySize P (elemTy P t) = sz)))))) = true) (hlen : rows.length + rows2.length < 2 ^ 32) (hne : rows2 ≠ [])
   (hk : ∀ h', h' (d, cnt d) = some (.rows sz (rows ++ rows2)) → (∀ k' : Key, k' ≠ (d, cnt d) → (∀ g, u = .ref (d1, g) sz 0 rows.length → k' ≠ (d1, g)) → h' k' = h k') → sRun P ops dd K rest (i + 1) ⟨setT r d (.ref (d, cnt d) sz 0 (rows.length + rows2.length)), h', cset cnt d⟩ (setB G d true) (tl ++ [⟨i, rs, ws⟩])) :
   sRun P ops dd K (⟨some d, .call { callee := .builtin .append, args := #[x, y], argTypes := ts }, ty, pos, aft, none⟩ :: rest) i ⟨r, h, cnt⟩ G tl := by
 simp only [Bool.and_eq_true, decide_eq_true_eq] at hok
 obtain ⟨o1, o2, o3, o4, o5, o6⟩ := hok
 subst o6
 obtain ⟨hs1, hs2, hs3⟩ := hsr
 have he : ∀ u, ev r x = u → eff P (ev r) h (d, cnt d) (.call { callee := .builtin .append, args := #[x, y], argTypes := ts }) = appendEff P h (d, cnt d) t t2 u u2 := fun u hu => by
   show builtinEff P h (d, cnt d) .append ts.toList [ev r x, ev r y] = _
   rw [hts, hu, hy]; rfl
 have hrs : ∀ k ∈ (srcRows h (tySize P (elemTy P t)) u2).2.2, k.1 ∈ rs := fun k hk' => hr2 _ (hs3 k hk')
 have hie : rows2.isEmpty = false := by cases rows2 <;> first | exact absurd rfl hne | rfl
 rcases hs with ⟨rfl, rfl⟩ | ⟨g, rfl, hg⟩
 · have hq := he _ hx
   unfold appendEff at hq
   simp only [hs2] at hq
   rw [hie] at hq
   simp only [cond_false] at hq
   have hk2 := hk (hset h (d, cnt d) (some (.rows (tySize P (elemTy P t)) rows2))) (by rw [List.nil_append]; exact hset_self _ _ _) (fun k' h1 _ => hset_ne h1)
   rw [List.length_nil, Nat.zero_add] at hk2
   exact s_any rs ws rfl rfl hrs (by simp [hw1.2]) rfl hv hq ⟨⟨o1, o2, o3, o4, o5⟩, hs1, hne, by simp at hlen; omega⟩ hk2
 · have hq := he _ hx
   unfold appendEff at hq
   simp only [hg, hs2] at hq
   refine s_any rs ws rfl rfl (by intro k hk'; rcases List.mem_cons.1 hk' with rfl | hk'; exact hr1; exact hrs k hk') (by simp [hw1.1, hw1.2]) rfl hv hq (by refine ⟨⟨o1, o2, o3, o4, o5⟩, hs1, ?_⟩; simp; omega) (hk (hset (hset h (d1, g) none) (d, cnt d) (some (.rows (tySize P (elemTy P t)) (rows.take rows.length ++ rows2)))) ?_ fun k' h1 h2 => ?_)
   · rw [hset_self]; first | rw [List.drop_zero, List.take_length] | rw [List.take_length]
   · rw [hset_ne h1, hset_ne (h2 g rfl)]
end

/-! ### Times of gangs and of places -/
def bsG (xs : List Task) (d : List Slot) (g : Int) : List Sp := (d.filter fun y => decide (y.gang = g)).map (spY xs)
def bsT (xs : List Task) (d : List Slot) (m : Nat) : List (List Sp) := (List.range m).map fun g : Nat => bsG xs d (g : Int)
def clL (cs : List Span) (p : Int) : List Sp := (cs.filter fun z => decide (z.place = p)).map fun z => ⟨z.fro, z.til⟩
section
variable {xs : List Task} {c : Crew} {d : List Slot} {x : Slot} {m z : Nat}
theorem bsT_0 : bsT xs [] m = List.replicate m [] := by
 rw [bsT, List.map_congr_left (g := fun _ => ([] : List Sp)) (fun x _ => by simp [bsG]), List.map_const', List.length_range]
theorem bsT_len : (bsT xs d m).length = m := by simp [bsT]
theorem bsT_get (h : z < m) : (bsT xs d m)[z]? = some (bsG xs d (z : Int)) := by simp [bsT, List.getElem?_range, h]
theorem bsG_len {g : Int} : (bsG xs d g).length ≤ d.length := by
 simp only [bsG, List.length_map]; exact List.length_filter_le _ _
theorem bsG_app {g : Int} : bsG xs (d ++ [x]) g = bsG xs d g ++ if x.gang = g then [spY xs x] else [] := by
 by_cases h : x.gang = g <;> simp [bsG, List.filter_append, List.filter_cons, h]
theorem bsT_step (hx : x.gang = (z : Int)) (h : z < m) : (bsT xs d m).set z (bsG xs d (z : Int) ++ [spY xs x]) = bsT xs (d ++ [x]) m := by
 refine List.ext_getElem? fun i => ?_
 rw [List.getElem?_set]
 by_cases hi : z = i
 · subst hi
   rw [if_pos rfl, if_pos (by rw [bsT_len]; exact h), bsT_get h, bsG_app, if_pos hx]
 · rw [if_neg hi]
   rcases Nat.lt_or_ge i m with h2 | h2
   · rw [bsT_get h2, bsT_get h2, bsG_app, if_neg (by omega), List.append_nil]
   · rw [List.getElem?_eq_none (by rw [bsT_len]; exact h2), List.getElem?_eq_none (by rw [bsT_len]; exact h2)]
theorem cl_eq : clB xs c d x = ((bsG xs d x.gang).any (mtB (spY xs x)) || (clL c.closed (tsk xs x).place).any (mtB (spY xs x))) := by
 simp only [clB, bsG, clL, List.any_map, List.any_filter]
 rfl
theorem clL_t {cs : List Span} {k : Nat} {z : Span} {p : Int} (ht : cs.take (k + 1) = cs.take k ++ [z]) (h : z.place = p) : (clL (cs.take k) p).map Sp.enc ++ [Sp.enc ⟨z.fro, z.til⟩] = (clL (cs.take (k + 1)) p).map Sp.enc := by
 rw [ht]; simp [clL, List.filter_append, List.filter_cons, h]
theorem clL_f {cs : List Span} {k : Nat} {z : Span} {p : Int} (ht : cs.take (k + 1) = cs.take k ++ [z]) (h : z.place ≠ p) : (clL (cs.take k) p).map Sp.enc = (clL (cs.take (k + 1)) p).map Sp.enc := by
 rw [ht]; simp [clL, List.filter_append, List.filter_cons, h]
theorem clL_len {cs : List Span} {p : Int} : (clL cs p).length ≤ cs.length := by
 simp only [clL, List.length_map]; exact List.length_filter_le _ _
end

theorem fr85 : (inFrame Try.f85.ntmps (Try.f85.body.getD .skip) && Try.f85.results.toList.all (resScope Try.f85.ntmps)) = true := by kernel_rfl
theorem meetsC (x y : Sp) : PCalls Try.prog 85 [.agg x.enc, .agg y.enc] (.bool (mtB x y)) := by
 refine PCalls.of_code Try.func85 rfl rfl (by kernel_rfl) mixed fr85 (by show _ ≤ 16; simp) (.sc _) ?_
 refine pwp_seq_plain rfl fun K1 hK1 => ?_
 refine p_new rfl (e_box (n := 2) rfl rfl) ⟨rfl, by decide⟩ ?_
 refine p_new rfl (e_box (n := 2) rfl rfl) ⟨rfl, by decide⟩ ?_
 refine p_aS rfl ?_
 refine p_end (hK1 _ ?_); clear hK1 K1
 refine pwp_seq_plain rfl fun K2 hK2 => ?_
 refine p_e rfl (e_faQ pl2 rfl) ?_
 refine p_e rfl (e_lH (v := .sc _) rfl ((hset_ne (key_ne rfl)).trans (hset_self _ _ _)) rfl) ?_
 refine p_e rfl (e_faQ pl2 rfl) ?_
 refine p_e rfl (e_lH (v := .sc _) rfl (hset_self _ _ _) rfl) ?_
 refine p_e rfl (e_max rfl rfl) ?_
 refine p_e rfl (e_faQ pl2 rfl) ?_
 refine p_e rfl (e_lH (v := .sc _) rfl ((hset_ne (key_ne rfl)).trans (hset_self _ _ _)) rfl) ?_
 refine p_e rfl (e_faQ pl2 rfl) ?_
 refine p_e rfl (e_lH (v := .sc _) rfl (hset_self _ _ _) rfl) ?_
 refine p_e rfl (e_min rfl rfl) ?_
 refine p_e rfl (e_lt rfl rfl) ?_
 refine p_aS rfl ?_
 refine p_end (hK2 _ ?_); clear hK2 K2
 refine pwp_ret ?_
 refine end1 (v := .sc _) rfl ?_
 exact out_b rfl

theorem fr117 : (inFrame Try.f117.ntmps (Try.f117.body.getD .skip) && Try.f117.results.toList.all (resScope Try.f117.ntmps)) = true := by kernel_rfl
theorem IndexSp (l : List Sp) (x : Sp) (hlen : l.length ≤ 1000000) : PCalls Try.prog 117 [.lit true 2 (l.map Sp.enc), .func (.func 85) [.agg x.enc] []] (.int (ixA (mtB x) l)) := by
 refine PCalls.of_code Try.func117 rfl rfl (by kernel_rfl) mixed fr117 (by show _ ≤ 19; simp) (.sc _) ?_
 refine pwp_seq_plain rfl fun K1 hK1 => ?_
 refine p_aS rfl ?_
 refine p_end (hK1 _ ?_); clear hK1 K1
 refine pwp_seq_seq ?_
 refine pwp_seq_plain rfl fun K2 hK2 => ?_
 refine p_e rfl (e_move (v := .lit _ _ _) rfl) ?_
 refine p_e rfl (e_len rfl (by kernel_rfl)) ?_
 refine p_mS rfl ?_
 refine p_end (hK2 _ ?_); clear hK2 K2
 refine pwp_seq_block fun K3 hK3 => ?_
 refine pwp_loopR (α := Nat) [0, 1, 7] (fun (k : Nat) => [(8, .int (k))]) (fun (k : Nat) (h : Heap) (_ : Nat → Nat) => ((k) ≤ l.length) ∧ (∀ i, i < (k) → ∀ y, l[i]? = some y → mtB x y = false)) (fun (k : Nat) => l.length - (k)) (0) (by exact ⟨rfl, trivial⟩) (by exact ⟨by exact Nat.zero_le _, by exact nx_0⟩) fun k r4 h5 c6 hj7 => ?_
 obtain ⟨hk, hin⟩ := hj7
 try dsimp only at hk
 try dsimp only at hin
 show pwp _ _ (loopQ _ _ _) ⟨sets (mix _ _ _) [(8, .int k)], _, _⟩
 refine pwp_seq_plain rfl fun K8 hK8 => ?_
 refine p_e rfl (e_lt rfl rfl) ?_
 refine p_end (hK8 _ ?_); clear hK8 K8
 refine pwp_seq_cond rfl fun K9 hK9 => ⟨fun hb10 => ?_, fun hb10 => ?_⟩
 ·have hb10R := hb10; try simp only [zz] at hb10
  obtain ⟨y, hy, hdy, hty⟩ := get_lt (xs := l) (i := k) (by omega)
  refine pwp_skip ?_
  refine seq_norm (hK9 _ ?_); clear hK9 K9
  refine pwp_seq_block fun K11 hK11 => ?_
  refine pwp_seq_plain rfl fun K12 hK12 => ?_
  refine p_mS rfl ?_
  refine p_aS rfl ?_
  refine p_end (hK12 _ ?_); clear hK12 K12
  refine pwp_seq_plain rfl fun K13 hK13 => ?_
  refine p_e rfl (e_move (v := .func _ _ _) rfl) ?_
  refine p_e rfl (e_move (v := .lit _ _ _) rfl) ?_
  refine p_mS rfl ?_
  refine p_e rfl (e_ixL rfl rfl) ?_
  refine p_e rfl (e_loadA (n := 2) rfl (by kernel_rfl) (by kernel_rfl) (by kernel_rfl) (by first | omega | (simp only [List.length_map]; omega)) (by decide) (by first | exact agg_map hy rfl)) ?_
  refine p_call rfl (.cons (inn_agg (Sp.pure _)) (.cons (inn_agg (Sp.pure _)) .nil)) (meetsC _ _) ?_
  refine p_end (hK13 _ ?_); clear hK13 K13
  refine pwp_cond rfl (fun hb14 => ?_) (fun hb14 => ?_)
  ·have hb14R := hb14; try simp only [zz] at hb14
   refine pwp_seq_plain rfl fun K15 hK15 => ?_
   refine p_mS rfl ?_
   refine p_aS rfl ?_
   refine p_end (hK15 _ ?_); clear hK15 K15
   refine pwp_ret ?_
   refine ret_block ?_
   refine ret_seq ?_
   refine ret_loop ?_
   refine ret_block ?_
   refine ret_seq ?_
   refine end1 (v := .sc _) rfl ?_
   first
     | exact out_i (ixA_hit (K := mtB x) hy hin (by assumption))
     | exact out_i (ixA_no (K := mtB x) hin (by simp only [List.length_map] at *; omega))
  ·have hb14R := hb14; try simp only [zz] at hb14
   refine pwp_skip ?_
   refine block_norm ?_
   refine seq_norm (hK11 _ ?_); clear hK11 K11
   refine pwp_plain rfl fun K16 hK16 => ?_
   refine p_e rfl (e_adL rfl rfl) ?_
   refine p_mS rfl ?_
   refine p_end (hK16 _ ?_); clear hK16 K16
   exact loop_again (k + 1) (by show _ < _; omega) ⟨rfl, rfl, rfl, trivial⟩ ⟨rfl, trivial⟩ (by exact ⟨by show _ + 1 ≤ _; simp only [List.length_map] at *; omega, by exact nx_step (K := mtB x) hin hy (by first | assumption | simpa using (by assumption))⟩)
 ·have hb10R := hb10; try simp only [zz] at hb10
  refine pwp_exit ?_
  refine exit_seq ?_
  clear hK9 K9
  refine exit_loop ?_
  refine exit_here ?_
  refine seq_norm (hK3 _ ?_); clear hK3 K3
  refine pwp_seq_plain rfl fun K17 hK17 => ?_
  refine p_aS rfl ?_
  refine p_end (hK17 _ ?_); clear hK17 K17
  refine pwp_ret ?_
  refine end1 (v := .sc _) rfl ?_
  first
    | exact out_i (ixA_hit (K := mtB x) hy hin (by assumption))
    | exact out_i (ixA_no (K := mtB x) hin (by simp only [List.length_map] at *; omega))

theorem closed_outS {h : Heap} {d : Nat} {v : PV} {c : Crew} {p : Int} {k : Nat} (hv : SliceAt h d v 2 ((clL (c.closed.take k) p).map Sp.enc)) (hk : k = c.closed.length) : Out h v (.lit false 2 ((clL c.closed p).map Sp.enc)) := by
 subst hk
 refine out_slice hv (by rw [List.take_length]) (fun _ => rfl) fun a p hp => ?_
 simp only [Sp.enc, List.mem_cons, List.not_mem_nil, or_false] at hp
 rcases hp with rfl | rfl
 · exact ⟨.sc _, rfl⟩
 · exact ⟨.sc _, rfl⟩

theorem fr86 : (inFrame Try.f86.ntmps (Try.f86.body.getD .skip) && Try.f86.results.toList.all (resScope Try.f86.ntmps)) = true := by kernel_rfl
theorem closedSp (c : Crew) (p : Int) (hcl : c.closed.length ≤ 1000000) : PCalls Try.prog 86 [.agg c.enc, .int p] (.lit false 2 ((clL c.closed p).map Sp.enc)) := by
 refine PCalls.of_code Try.func86 rfl rfl (by kernel_rfl) mixed fr86 (by show _ ≤ 29; simp) (.lit _ _ _ fun row hr => pure_map Sp.pure row hr) ?_
 refine pwp_seq_plain rfl fun K1 hK1 => ?_
 refine p_new rfl (e_box (n := 2) rfl rfl) ⟨rfl, by decide⟩ ?_
 refine p_e rfl (e_assign (v := .nil) rfl) ?_
 refine p_end (hK1 _ ?_); clear hK1 K1
 refine pwp_seq_plain rfl fun K2 hK2 => ?_
 refine p_e rfl (e_assign (v := .nil) rfl) ?_
 refine p_end (hK2 _ ?_); clear hK2 K2
 refine pwp_seq_seq ?_
 refine pwp_seq_plain rfl fun K3 hK3 => ?_
 refine p_e rfl (e_faQ pl2 rfl) ?_
 refine p_e rfl (e_lH (v := .lit _ _ _) rfl (hset_self _ _ _) rfl) ?_
 refine p_e rfl (e_len rfl (by kernel_rfl)) ?_
 refine p_mS rfl ?_
 refine p_end (hK3 _ ?_); clear hK3 K3
 refine pwp_seq_block fun K4 hK4 => ?_
 refine pwp_loopR (α := Nat × PV) [1, 9, 10] (fun (a5 : Nat × PV) => [(5, (a5.2)), (11, .int (a5.1))]) (fun (a5 : Nat × PV) (h : Heap) (_ : Nat → Nat) => ((a5.1) ≤ c.closed.length) ∧ (SliceAt h 26 (a5.2) 2 ((clL (c.closed.take (a5.1)) p).map Sp.enc))) (fun (a5 : Nat × PV) => c.closed.length - (a5.1)) (0, .nil) (by exact ⟨rfl, rfl, trivial⟩) (by exact ⟨by exact Nat.zero_le _, .nil⟩) fun a5 r6 h7 c8 hj9 => ?_
 obtain ⟨k, v⟩ := a5
 obtain ⟨hk, hihj9_0⟩ := hj9
 try dsimp only at hk
 try dsimp only at hihj9_0
 show pwp _ _ (loopQ _ _ _) ⟨sets (mix _ _ _) [(5, v), (11, .int k)], _, _⟩
 refine pwp_seq_plain rfl fun K10 hK10 => ?_
 refine p_e rfl (e_lt rfl rfl) ?_
 refine p_end (hK10 _ ?_); clear hK10 K10
 refine pwp_seq_cond rfl fun K11 hK11 => ⟨fun hb12 => ?_, fun hb12 => ?_⟩
 ·have hb12R := hb12; try simp only [zz] at hb12
  obtain ⟨z, hz, hdz, htz⟩ := get_lt (xs := c.closed) (i := k) (by omega)
  have hll := clL_len (cs := c.closed.take k) (p := p)
  rw [List.length_take] at hll
  refine pwp_skip ?_
  refine seq_norm (hK11 _ ?_); clear hK11 K11
  refine pwp_seq_block fun K13 hK13 => ?_
  refine pwp_seq_plain rfl fun K14 hK14 => ?_
  refine p_e rfl (e_ixL rfl rfl) ?_
  refine p_e rfl (e_loadA (n := 3) rfl (by kernel_rfl) (by kernel_rfl) (by kernel_rfl) (by first | omega | (simp only [List.length_map]; omega)) (by decide) (by first | exact agg_map hz rfl)) ?_
  refine p_new rfl (e_alloc (cs := [.int 0, .int 0, .int 0]) (n := 3) (by kernel_rfl) rfl (by decide)) (ob_alloc (by decide)) ?_
  refine p_store rfl (e_storeA rfl (hset_self _ _ _) rfl rfl rfl (by kernel_rfl) rfl (by kernel_rfl)) trivial ?_
  refine p_end (hK14 _ ?_); clear hK14 K14
  refine pwp_seq_plain rfl fun K15 hK15 => ?_
  refine p_e rfl (e_faQ pl3 rfl) ?_
  refine p_e rfl (e_lH (v := .sc _) rfl (hset_self _ _ _) rfl) ?_
  refine p_mS rfl ?_
  refine p_e rfl (e_eq rfl rfl) ?_
  refine p_end (hK15 _ ?_); clear hK15 K15
  refine pwp_cond rfl (fun hb16 => ?_) (fun hb16 => ?_)
  ·have hb16R := hb16; try simp only [zz] at hb16
   refine pwp_plain rfl fun K17 hK17 => ?_
   refine p_e rfl (e_move (v := _) rfl) ?_
   refine p_e rfl (e_faQ pl3 rfl) ?_
   refine p_e rfl (e_lH (v := .sc _) rfl (hset_self _ _ _) rfl) ?_
   refine p_e rfl (e_faQ pl3 rfl) ?_
   refine p_e rfl (e_lH (v := .sc _) rfl (hset_self _ _ _) rfl) ?_
   refine p_e rfl (e_build (cs := Sp.enc (⟨z.fro, z.til⟩ : Sp)) (zs := [.int 0, .int 0]) (pl := [(0, 1, false), (1, 1, false)]) (by kernel_rfl) (by kernel_rfl) (by kernel_rfl) rfl rfl (by exact ⟨by decide, rfl, Nat.le_of_ble_eq_true rfl, rfl, ⟨by decide, rfl, Nat.le_of_ble_eq_true rfl, rfl, trivial⟩⟩) rfl) ?_
   refine p_new rfl (e_bslice (rows := [Sp.enc ⟨z.fro, z.til⟩]) (zs := [.int 0, .int 0]) (sz := 2) (by kernel_rfl) (by kernel_rfl) rfl (by kernel_rfl) (by decide) rfl rfl (by exact ⟨by decide, rfl, rfl, trivial⟩) rfl) trivial ?_
   refine p_app rfl rfl rfl (hihj9_0.keep fun _ => (hset_ne (key_ne rfl)).trans ((hset_ne (key_ne rfl)).trans ((hset_ne (key_ne rfl)).trans (rfl)))) (src_ref (hset_self _ _ _) rfl) (by kernel_rfl) (by simp only [List.length_append, List.length_map, List.length_nil, List.length_cons]; omega) fun v18 h19 c20 hs21 hf22 => ?_
   have ho23 := (hf22 (7, _) (key_ne rfl) (fun _ _ => key_ne rfl)).trans ((hset_ne (key_ne rfl)).trans (hset_self _ _ _))
   have ho24 := (hf22 (25, _) (key_ne rfl) (fun _ _ => key_ne rfl)).trans (hset_self _ _ _)
   refine p_e rfl (e_assign (v := _) rfl) ?_
   refine p_end (hK17 _ ?_); clear hK17 K17
   refine block_norm ?_
   refine seq_norm (hK13 _ ?_); clear hK13 K13
   refine pwp_plain rfl fun K25 hK25 => ?_
   refine p_e rfl (e_adL rfl rfl) ?_
   refine p_mS rfl ?_
   refine p_end (hK25 _ ?_); clear hK25 K25
   exact loop_again ((k + 1, v18)) (by show _ < _; simp only; omega) ⟨rfl, rfl, rfl, trivial⟩ ⟨rfl, rfl, trivial⟩ (by exact ⟨by show _ + 1 ≤ _; simp only [List.length_map] at *; omega, (SliceAt.to hs21 (by (first | exact clL_t htz (by assumption) | exact clL_f htz (by assumption))))⟩)
  ·have hb16R := hb16; try simp only [zz] at hb16
   refine pwp_skip ?_
   refine block_norm ?_
   refine seq_norm (hK13 _ ?_); clear hK13 K13
   refine pwp_plain rfl fun K26 hK26 => ?_
   refine p_e rfl (e_adL rfl rfl) ?_
   refine p_mS rfl ?_
   refine p_end (hK26 _ ?_); clear hK26 K26
   exact loop_again ((k + 1, v)) (by show _ < _; simp only; omega) ⟨rfl, rfl, rfl, trivial⟩ ⟨rfl, rfl, trivial⟩ (by exact ⟨by show _ + 1 ≤ _; simp only [List.length_map] at *; omega, (SliceAt.to (hihj9_0.keep fun _ => (hset_ne (key_ne rfl)).trans ((hset_ne (key_ne rfl)).trans (rfl))) (by (first | exact clL_t htz (by assumption) | exact clL_f htz (by assumption))))⟩)
 ·have hb12R := hb12; try simp only [zz] at hb12
  have hkx : k = c.closed.length := by simp only [List.length_map] at *; omega
  refine pwp_exit ?_
  refine exit_seq ?_
  clear hK11 K11
  refine exit_loop ?_
  refine exit_here ?_
  refine seq_norm (hK4 _ ?_); clear hK4 K4
  refine pwp_seq_plain rfl fun K27 hK27 => ?_
  refine p_e rfl (e_move (v := _) rfl) ?_
  refine p_e rfl (e_assign (v := _) rfl) ?_
  refine p_end (hK27 _ ?_); clear hK27 K27
  refine pwp_ret ?_
  refine end1 (v := _) rfl ?_
  exact closed_outS hihj9_0 hkx

end Go.Proofs.Ytjmjiegplnfiiaa

/- The error of a schedule, as the program tells it. No conditions. -/
set_option linter.unusedSimpArgs false
set_option linter.unusedVariables false
set_option maxRecDepth 100000
namespace Go.Proofs.Ytjmjiegplnfiiaa
open Go Go.Pv
section
variable {xs : List Task} {c : Crew} {d : List Slot} {x : Slot} {t : Task} {m : Nat}
theorem bsT_getI {g : Int} (h : 0 ≤ g ∧ g ≤ (m : Int) - 1) : (bsT xs d m)[g.toNat]? = some (bsG xs d g) := by
 have h1 := bsT_get (xs := xs) (d := d) (m := m) (z := g.toNat) (by omega)
 rw [Int.toNat_of_nonneg h.1] at h1; exact h1
theorem bsT_stepI (h : 0 ≤ x.gang ∧ x.gang ≤ (m : Int) - 1) : (bsT xs d m).set x.gang.toNat (bsG xs d x.gang ++ [spY xs x]) = bsT xs (d ++ [x]) m := by
 have h1 := bsT_step (xs := xs) (d := d) (m := m) (z := x.gang.toNat) (x := x) (by omega) (by omega)
 rw [Int.toNat_of_nonneg h.1] at h1; exact h1
end

end Go.Proofs.Ytjmjiegplnfiiaa

/- ErectionScheduleChecks at P level. No conditions. -/
set_option linter.unusedSimpArgs false
set_option linter.unusedVariables false
set_option maxRecDepth 100000
namespace Go.Proofs.Ytjmjiegplnfiiaa
open Go Go.Pv
end Go.Proofs.Ytjmjiegplnfiiaa
