/- What Demands yields to. No conditions. -/
import Derived.Test.YtindehoegfiiaaaGreatDoorHel
set_option linter.unusedSimpArgs false
set_option linter.unusedVariables false
set_option maxRecDepth 100000
namespace Go.Proofs.YtindehoegfiiaaaGreatDoor
open Go Go.Pv
/-! ### Demands with their places -/
def plT (K : Tie → Bool) (l : List Tie) : Nat → List Int
 | 0 => []
 | k + 1 => if K (l.getD k default) = true then plT K l k ++ [(k : Int)] else plT K l k
def dmd (g : Grid) (r : Rule) (l : List Tie) (e : Int × Int) : Demand := ⟨e.1, e.2, plT (mtB g r e.1 e.2) l l.length⟩
/-- A demand with what its places lie in: nothing, or a slice. -/
def plQ (x : Demand × Option Bool) : PV := match x.2 with
 | none => .nil
 | some t => .lit t 1 (x.1.places.map ci)
def encQ (x : Demand × Option Bool) : List PV := [.int x.1.standard, .int x.1.fro, plQ x]
def dF (x : Demand) : Demand × Option Bool := (x, some false)
structure NestD (d : Nat) (h : Heap) (rows : Go.Pv.Rows) (ds : List Demand) : Prop where
 len : rows.length = ds.length
 at_ : ∀ (n : Nat) (x : Demand), ds[n]? = some x → ∃ pv, rows[n]? = some [.int x.standard, .int x.fro, pv] ∧ SliceAt h d pv 1 (x.places.map ci)
section
variable {K : Tie → Bool} {l : List Tie} {k d : Nat} {t : Tie} {h h' : Heap} {rows : Go.Pv.Rows} {ds : List Demand} {x : Demand} {pv v : PV} {sz : Nat}
theorem plT_t (ht : l[k]? = some t) (h : K t = true) : plT K l (k + 1) = plT K l k ++ [(k : Int)] := by rw [plT, ts_x ht, if_pos h]
theorem plT_f (ht : l[k]? = some t) (h : K t = false) : plT K l (k + 1) = plT K l k := by rw [plT, ts_x ht, if_neg (by rw [h]; decide)]
theorem plT_len : ∀ {k : Nat}, (plT K l k).length ≤ k
 | 0 => Nat.le_refl _
 | k + 1 => by
   have := plT_len (k := k)
   rw [plT]; split
   · rw [List.length_append, List.length_singleton]; omega
   · omega
theorem sl_mono (hs : SliceAt h d v sz rows) (hk : ∀ g o, h (d, g) = some o → h' (d, g) = some o) : SliceAt h' d v sz rows := by
 rcases hs with q | ⟨g, q1, q2⟩
 · exact .inl q
 · exact .inr ⟨g, q1, hk g _ q2⟩
theorem NestD.nil : NestD d h [] [] := ⟨rfl, fun n x hx => by simp at hx⟩
theorem NestD.mono (hn : NestD d h rows ds) (hk : ∀ g o, h (d, g) = some o → h' (d, g) = some o) : NestD d h' rows ds :=
 ⟨hn.len, fun n x hx => by obtain ⟨pv, h1, h2⟩ := hn.at_ n x hx; exact ⟨pv, h1, sl_mono h2 hk⟩⟩
theorem NestD.app (hn : NestD d h rows ds) (hs : SliceAt h d pv 1 (x.places.map ci)) : NestD d h (rows ++ [[.int x.standard, .int x.fro, pv]]) (ds ++ [x]) where
 len := by simp [hn.len]
 at_ := fun n y hy => by
   by_cases q : n < ds.length
   · rw [List.getElem?_append_left q] at hy
     obtain ⟨p, h1, h2⟩ := hn.at_ n y hy
     exact ⟨p, by rw [List.getElem?_append_left (by rw [hn.len]; exact q)]; exact h1, h2⟩
   · have e : n = ds.length := by
       have := (List.getElem?_eq_some_iff.1 hy).1
       simp only [List.length_append, List.length_singleton] at this; omega
     subst e
     rw [List.getElem?_append_right (Nat.le_refl _), Nat.sub_self] at hy
     simp only [List.getElem?_cons_zero, Option.some.injEq] at hy
     subst hy
     exact ⟨pv, by rw [← hn.len, List.getElem?_append_right (Nat.le_refl _), Nat.sub_self]; rfl, hs⟩
theorem cell3 {a b a' b' : Int} {p p' : PV} {h : Heap} (h1 : a = a') (h2 : b = b') (h3 : Out h p p') : ∀ (j : Nat) (q q' : PV), [PV.int a, .int b, p][j]? = some q → [PV.int a', .int b', p'][j]? = some q' → Out h q q' := fun j q q' hq hq' => by
 subst h1; subst h2
 match j, hq, hq' with
 | 0, hq, hq' => simp at hq hq'; subst hq; subst hq'; exact out_i rfl
 | 1, hq, hq' => simp at hq hq'; subst hq; subst hq'; exact out_i rfl
 | 2, hq, hq' => simp at hq hq'; subst hq; subst hq'; exact h3
 | n + 3, hq, hq' => simp at hq
theorem plQ_cell (x : Demand × Option Bool) : (plQ x).cell = true := by rw [plQ]; split <;> rfl
theorem out_nest {d2 : Nat} (hs : SliceAt h d2 v 3 rows) (hn : NestD d h rows ds) : Out h v (.lit false 3 ((ds.map dF).map encQ)) := by
 rcases hs with ⟨h1, rfl⟩ | ⟨g, rfl, hg⟩
 · have : ds = [] := by
     have := hn.len; rw [h1] at this; exact List.eq_nil_of_length_eq_zero this.symm
   rw [this]; exact .nil 3
 · refine .ref hg (by omega) (by rw [List.length_map, List.length_map, hn.len]) (fun row hr => ?_) (fun i j row row' p p' h1 h2 h3 h4 => ?_) (fun row hr p hp => ?_)
   · obtain ⟨a, _, rfl⟩ := List.mem_map.1 hr; rfl
   · rw [Nat.zero_add] at h1
     rw [List.getElem?_map, List.getElem?_map] at h2
     cases hx : ds[i]? with
     | none => rw [hx] at h2; simp at h2
     | some x =>
       rw [hx] at h2
       simp only [Option.map_some, Option.some.injEq] at h2
       subst h2
       obtain ⟨pv, h5, h6⟩ := hn.at_ i x hx
       rw [h1] at h5; cases h5
       exact cell3 rfl rfl (out_slice h6 rfl (fun _ => rfl) ci_clean) j p p' h3 h4
   · obtain ⟨a, _, rfl⟩ := List.mem_map.1 hr
     simp only [encQ, List.mem_cons, List.not_mem_nil, or_false] at hp
     rcases hp with rfl | rfl | rfl
     · rfl
     · rfl
     · exact plQ_cell _
theorem pureQ (x : Demand × Option Bool) : ∀ p ∈ encQ x, Pure p := fun p hp => by
 simp only [encQ, List.mem_cons, List.not_mem_nil, or_false] at hp
 rcases hp with rfl | rfl | rfl
 · exact .sc _
 · exact .sc _
 · rw [plQ]; split
   · exact .nil
   · exact .lit _ _ _ fun row hr => pure_map ci_pure row hr
end
/-! ### What Demands keeps -/
abbrev WD : Key → Prop := fun k => k = (9, 0) ∨ k.1 = 29
structure DkH (g : Grid) (r : Rule) (l : List Tie) (p : List (Int × Int)) (h : Heap) : Prop where
 ties : h (5, 0) = some (.rows 1 [[.lit true 2 (l.map Tie.enc)]])
 out : ∃ v rows, h (9, 0) = some (.rows 1 [[v]]) ∧ SliceAt h 29 v 3 rows ∧ NestD 23 h rows (p.map (dmd g r l)) ∧ v.cell = true
theorem DkH.stays {g : Grid} {r : Rule} {l : List Tie} : Stays (DkH g r l) := fun p h h' he hk => by
 obtain ⟨v, rows, h1, h2, h3, h4⟩ := hk.out
 exact ⟨he _ _ hk.ties, v, rows, he _ _ h1, sl_mono h2 fun g o hg => he _ _ hg, h3.mono fun g o hg => he _ _ hg, h4⟩
theorem old_le {k : Key} {c0 c : Nat → Nat} {d : Nat} (h : k.2 < c0 k.1) (he : c0 d ≤ c d) : k ≠ (d, c d) := fun e => by
 subst e; exact absurd h (Nat.not_lt.2 he)
theorem le_cset {c : Nat → Nat} {d e : Nat} : c e ≤ cset c d e := by
 unfold cset; split
 · exact Nat.le_succ _
 · exact Nat.le_refl _
abbrev AgO (c0 : Nat → Nat) (h0 h : Heap) : Prop := ∀ k : Key, k.2 < c0 k.1 → h k = h0 k
abbrev PvF (c0 : Nat → Nat) (d : Nat) (pv : PV) : Prop := ∀ g sz n, pv = .ref (d, g) sz 0 n → c0 d ≤ g
theorem slice_cell {h : Heap} {d sz : Nat} {v : PV} {rows : Go.Pv.Rows} (hs : SliceAt h d v sz rows) : v.cell = true := by
 rcases hs with ⟨_, rfl⟩ | ⟨g, rfl, _⟩ <;> rfl
/-- what an append to places that are made in this frame leaves of what was there before -/
theorem AgO.app {c0 c : Nat → Nat} {h0 h h' : Heap} {d : Nat} {pv : PV} {n : Nat} (hf : ∀ k' : Key, k' ≠ (d, c d) → (∀ g, pv = .ref (d, g) 1 0 n → k' ≠ (d, g)) → h' k' = h k') (hc : c0 d ≤ c d) (hp : PvF c0 d pv) (ha : AgO c0 h0 h) : AgO c0 h0 h' := fun k hk =>
 (hf k (old_le hk hc) fun g hg e => by subst e; exact absurd hk (Nat.not_lt.2 (hp g 1 n hg))).trans (ha k hk)

theorem frH80 : (inFrame Tryz.f80.ntmps (Tryz.f80.body.getD .skip) && Tryz.f80.results.toList.all (resScope Tryz.f80.ntmps)) = true := by kernel_rfl
theorem yieldD (g : Grid) (r : Rule) (l : List Tie) (hl : l.length ≤ 100000) (hgz : gridE g = 0) (hrz : ruleE r = 0) (htz : tiesE g l = 0) (p : List (Int × Int)) (hpl : p.length ≤ 100000) (i x : Int) (h0 : Heap) (c0 : Nat → Nat) (ga gb gc gd : Nat) (hkn : KnownK h0 c0) (hP : DkH g r l p h0) (v : PV) (rows : Go.Pv.Rows) (hO : h0 (9, 0) = some (.rows 1 [[v]])) (hS : SliceAt h0 29 v 3 rows) (hN : NestD 23 h0 rows (p.map (dmd g r l))) (hvc : v.cell = true) (hi : 0 ≤ i ∧ i < 1000) (hx : 0 ≤ x ∧ x ≤ 1000000) (hG : h0 (3, ga) = some (.rows 3 [g.enc])) (hX : h0 (9, gb) = some (.rows 1 [[.int x]])) (hR : h0 (4, gc) = some (.rows 5 [r.enc])) (hI : h0 (7, gd) = some (.rows 1 [[.int i]])) : HCallsR Tryz.prog 80 [.agg [.int i, .int x, .nil], .func (.func 118) [] [.ptr (3, ga) 3 0 0, .ptr (9, gb) 1 0 0, .ptr (4, gc) 5 0 0, .ptr (7, gd) 1 0 0], .ptr (5, 0) 1 0 0, .ptr (9, 0) 1 0 0] h0 c0 (fun v h2 _ => Keep WD h0 h2 ∧ ∃ bo, v = .bool bo ∧ (bo = true → DkH g r l (p ++ [(i, x)]) h2) ∧ (bo = false → False)) := by
 refine HCallsR.of_code Tryz.func80 rfl rfl (by kernel_rfl) mixed frH80 (by show _ ≤ 30; simp) ?_
 have hc4 : gc < c0 4 := hkn (4, gc) _ hR
 refine pwp_seq_plain rfl fun K1 hK1 => ?_
 refine p_new rfl (e_box (n := 3) rfl rfl) ⟨rfl, by decide⟩ ?_
 refine p_aS rfl ?_
 refine p_end (hK1 _ ?_); clear hK1 K1
 refine pwp_seq_seq ?_
 refine pwp_seq_plain rfl fun K2 hK2 => ?_
 refine p_e rfl (e_lH (v := .lit _ _ _) rfl ((hset_ne (key_ne rfl)).trans hP.ties) rfl) ?_
 refine p_e rfl (e_len rfl (by kernel_rfl)) ?_
 refine p_mS rfl ?_
 refine p_end (hK2 _ ?_); clear hK2 K2
 refine pwp_seq_block fun K3 hK3 => ?_
 refine pwp_loopR (α := Nat × PV) [1, 3, 4, 9, 10] (fun (a4 : Nat × PV) => [(11, .int (a4.1))]) (fun (a4 : Nat × PV) (h : Heap) (c : Nat → Nat) => ((a4.1) ≤ l.length) ∧ (SliceAt h 23 (a4.2) 1 ((plT (mtB g r i x) l (a4.1)).map ci)) ∧ (PvF c0 23 (a4.2)) ∧ (AgO c0 h0 h) ∧ (c0 8 ≤ c 8 ∧ c0 22 ≤ c 22 ∧ c0 23 ≤ c 23 ∧ c0 28 ≤ c 28) ∧ (h (3, ga) = some (.rows 3 [g.enc])) ∧ (h (9, gb) = some (.rows 1 [[.int x]])) ∧ (h (4, gc) = some (.rows 5 [r.enc])) ∧ (h (7, gd) = some (.rows 1 [[.int i]])) ∧ (h (9, 0) = some (.rows 1 [[v]])) ∧ (h (4, c0 4) = some (.rows 3 [[.int i, .int x, (a4.2)]]))) (fun (a4 : Nat × PV) => l.length - (a4.1)) (0, .nil) (by exact ⟨rfl, trivial⟩) (by exact ⟨by exact Nat.zero_le _, by exact .nil, by exact fun g_ sz_ n_ e_ => (by cases e_), by exact fun k' hk' => (hset_ne (old_ne' hk' rfl)).trans rfl, by exact ⟨Nat.le_refl _, Nat.le_refl _, Nat.le_refl _, Nat.le_refl _⟩, ((hset_ne (key_ne rfl)).trans hG), ((hset_ne (key_ne rfl)).trans hX), ((hset_ne (gen_ne hc4)).trans hR), ((hset_ne (key_ne rfl)).trans hI), ((hset_ne (key_ne rfl)).trans hO), (hset_self _ _ _)⟩) fun a4 r5 h6 c7 hj8 => ?_
 obtain ⟨k, pv⟩ := a4
 obtain ⟨hk, hpv, hpf, hag, hcm, hihj8_0, hihj8_1, hihj8_2, hihj8_3, hihj8_4, hihj8_5⟩ := hj8
 try dsimp only at hk
 try dsimp only at hpv
 try dsimp only at hpf
 try dsimp only at hag
 try dsimp only at hcm
 try dsimp only at hihj8_0
 try dsimp only at hihj8_1
 try dsimp only at hihj8_2
 try dsimp only at hihj8_3
 try dsimp only at hihj8_4
 try dsimp only at hihj8_5
 show pwp _ _ (loopQ _ _ _) ⟨sets (mix _ _ _) [(11, .int k)], _, _⟩
 refine pwp_seq_plain rfl fun K9 hK9 => ?_
 refine p_e rfl (e_lt rfl rfl) ?_
 refine p_end (hK9 _ ?_); clear hK9 K9
 refine pwp_seq_cond rfl fun K10 hK10 => ⟨fun hb11 => ?_, fun hb11 => ?_⟩
 ·have hb11R := hb11; try simp only [zz] at hb11
  obtain ⟨t, ht, htd, htt⟩ := get_lt (xs := l) (i := k) (by omega)
  have hti := ti_at htz ht
  refine pwp_skip ?_
  refine seq_norm (hK10 _ ?_); clear hK10 K10
  refine pwp_seq_block fun K12 hK12 => ?_
  refine pwp_seq_plain rfl fun K13 hK13 => ?_
  refine p_mS rfl ?_
  refine p_e rfl (e_ixL rfl rfl) ?_
  refine p_e rfl (e_loadA (n := 2) rfl (by kernel_rfl) (by kernel_rfl) (by kernel_rfl) (by first | omega | (simp only [List.length_map]; omega)) (by decide) (by first | exact agg_map ht rfl)) ?_
  refine p_new rfl (e_alloc (cs := [.int 0, .int 0]) (n := 2) (by kernel_rfl) rfl (by decide)) (ob_alloc (by decide)) ?_
  refine p_aS rfl ?_
  refine p_store rfl (e_storeA rfl (hset_self _ _ _) rfl rfl rfl (by kernel_rfl) rfl (by kernel_rfl)) trivial ?_
  refine p_end (hK13 _ ?_); clear hK13 K13
  refine pwp_seq_plain rfl fun K14 hK14 => ?_
  refine p_e rfl (e_move (v := .func _ _ _) rfl) ?_
  refine p_e rfl (e_loadHA (cs := Tie.enc (t)) (n := 2) rfl (hset_self _ _ _) (by kernel_rfl) (by kernel_rfl) (by kernel_rfl) (by exact Nat.zero_lt_one) (by decide) rfl) ?_
  refine p_call rfl (.cons (inn_agg (Tie.pure _)) (.cons (.base (inn_ptr ((hset_ne (key_ne rfl)).trans ((hset_ne (key_ne rfl)).trans hihj8_0)) (grid_pure g))) (.cons (.base (inn_ptr ((hset_ne (key_ne rfl)).trans ((hset_ne (key_ne rfl)).trans hihj8_1)) (pure_one (.sc _)))) (.cons (.base (inn_ptr ((hset_ne (key_ne rfl)).trans ((hset_ne (key_ne rfl)).trans hihj8_2)) (rule_pure r))) (.cons (.base (inn_ptr ((hset_ne (key_ne rfl)).trans ((hset_ne (key_ne rfl)).trans hihj8_3)) (pure_one (.sc _)))) .nil))))) (meetsC g r i x t hgz hrz hti hi hx) ?_
  refine p_end (hK14 _ ?_); clear hK14 K14
  refine pwp_cond rfl (fun hb15 => ?_) (fun hb15 => ?_)
  ·have hb15R := hb15; try simp only [zz] at hb15
   refine pwp_plain rfl fun K16 hK16 => ?_
   refine p_e rfl (e_faQ pl3 rfl) ?_
   refine p_e rfl (e_lH (v := pv) rfl ((hset_ne (key_ne rfl)).trans ((hset_ne (key_ne rfl)).trans hihj8_5)) rfl) ?_
   refine p_mS rfl ?_
   refine p_new rfl (e_bslice (rows := [ci (k : Int)]) (zs := [.int 0]) (sz := 1) (by kernel_rfl) (by kernel_rfl) rfl (by kernel_rfl) (by decide) rfl rfl (by exact ⟨by decide, rfl, rfl, trivial⟩) rfl) trivial ?_
   refine p_appK (d1 := 23) (rows2 := [ci (k : Int)]) rfl rfl rfl (hpv.keep fun g_ => (hset_ne (key_ne rfl)).trans ((hset_ne (key_ne rfl)).trans ((hset_ne (key_ne rfl)).trans (rfl)))) (src_ref (hset_self _ _ _) rfl) (by kernel_rfl) (by have := plT_len (K := (mtB g r i x)) (l := l) (k := k); simp only [List.length_map, List.length_cons, List.length_nil]; omega) (by simp) fun h17 hn18 hf19 => ?_
   have hagA := AgO.app (c0 := c0) (h0 := h0) hf19 hcm.2.2.1 hpf (fun k' hk' => (hset_ne (old_le hk' hcm.2.1)).trans ((hset_ne (old_le hk' hcm.1)).trans ((hset_ne (old_le hk' hcm.1)).trans (hag k' hk'))))
   have ho20 := (hf19 _ (key_ne rfl) (fun _ _ => key_ne rfl)).trans ((hset_ne (key_ne rfl)).trans ((hset_ne (key_ne rfl)).trans ((hset_ne (key_ne rfl)).trans hihj8_0)))
   have ho21 := (hf19 _ (key_ne rfl) (fun _ _ => key_ne rfl)).trans ((hset_ne (key_ne rfl)).trans ((hset_ne (key_ne rfl)).trans ((hset_ne (key_ne rfl)).trans hihj8_1)))
   have ho22 := (hf19 _ (key_ne rfl) (fun _ _ => key_ne rfl)).trans ((hset_ne (key_ne rfl)).trans ((hset_ne (key_ne rfl)).trans ((hset_ne (key_ne rfl)).trans hihj8_2)))
   have ho23 := (hf19 _ (key_ne rfl) (fun _ _ => key_ne rfl)).trans ((hset_ne (key_ne rfl)).trans ((hset_ne (key_ne rfl)).trans ((hset_ne (key_ne rfl)).trans hihj8_3)))
   have ho24 := (hf19 _ (key_ne rfl) (fun _ _ => key_ne rfl)).trans ((hset_ne (key_ne rfl)).trans ((hset_ne (key_ne rfl)).trans ((hset_ne (key_ne rfl)).trans hihj8_4)))
   have ho25 := (hf19 _ (key_ne rfl) (fun _ _ => key_ne rfl)).trans ((hset_ne (key_ne rfl)).trans ((hset_ne (key_ne rfl)).trans ((hset_ne (key_ne rfl)).trans hihj8_5)))
   refine p_e rfl (e_faQ pl3 rfl) ?_
   refine p_store rfl (e_store1 rfl ho25 rfl rfl rfl (by decide) (by kernel_rfl) rfl (by kernel_rfl)) trivial ?_
   refine p_end (hK16 _ ?_); clear hK16 K16
   refine block_norm ?_
   refine seq_norm (hK12 _ ?_); clear hK12 K12
   refine pwp_plain rfl fun K26 hK26 => ?_
   refine p_e rfl (e_adL rfl rfl) ?_
   refine p_mS rfl ?_
   refine p_end (hK26 _ ?_); clear hK26 K26
   exact loop_again ((k + 1, (.ref (23, cset (cset c7 8) 22 23) 1 0 (((plT (mtB g r i x) l k).map ci).length + [ci (k : Int)].length) : PV))) (by show _ < _; simp only; omega) ⟨rfl, rfl, rfl, rfl, rfl, trivial⟩ ⟨rfl, trivial⟩ (by exact ⟨by show _ + 1 ≤ _; simp only [List.length_map] at *; omega, by exact SliceAt.to (.ofRef (((hset_ne (key_ne rfl)).trans (rfl)).trans hn18) (by simp)) (by rw [plT_t ht (by assumption), List.map_append]; rfl), by exact fun g_ sz_ n_ e_ => (by cases e_; exact hcm.2.2.1), by exact fun k' hk' => (hset_ne (old_ne' hk' rfl)).trans (hagA k' hk'), by exact ⟨Nat.le_trans hcm.1 (Nat.le_trans le_cset (Nat.le_trans le_cset le_cset)), Nat.le_trans hcm.2.1 (Nat.le_trans le_cset (Nat.le_trans le_cset le_cset)), Nat.le_trans hcm.2.2.1 (Nat.le_trans le_cset (Nat.le_trans le_cset le_cset)), Nat.le_trans hcm.2.2.2 (Nat.le_trans le_cset (Nat.le_trans le_cset le_cset))⟩, ((hset_ne (key_ne rfl)).trans ho20), ((hset_ne (key_ne rfl)).trans ho21), ((hset_ne (gen_ne hc4)).trans ho22), ((hset_ne (key_ne rfl)).trans ho23), ((hset_ne (key_ne rfl)).trans ho24), (hset_self _ _ _)⟩)
  ·have hb15R := hb15; try simp only [zz] at hb15
   refine pwp_skip ?_
   refine block_norm ?_
   refine seq_norm (hK12 _ ?_); clear hK12 K12
   refine pwp_plain rfl fun K27 hK27 => ?_
   refine p_e rfl (e_adL rfl rfl) ?_
   refine p_mS rfl ?_
   refine p_end (hK27 _ ?_); clear hK27 K27
   exact loop_again ((k + 1, pv)) (by show _ < _; simp only; omega) ⟨rfl, rfl, rfl, rfl, rfl, trivial⟩ ⟨rfl, trivial⟩ (by exact ⟨by show _ + 1 ≤ _; simp only [List.length_map] at *; omega, by exact SliceAt.to (hpv.keep fun g_ => (hset_ne (key_ne rfl)).trans ((hset_ne (key_ne rfl)).trans (rfl))) (by rw [plT_f ht (by assumption)]), by exact hpf, by exact fun k' hk' => (hset_ne (old_le hk' hcm.1)).trans ((hset_ne (old_le hk' hcm.1)).trans (hag k' hk')), by exact ⟨Nat.le_trans hcm.1 le_cset, Nat.le_trans hcm.2.1 le_cset, Nat.le_trans hcm.2.2.1 le_cset, Nat.le_trans hcm.2.2.2 le_cset⟩, ((hset_ne (key_ne rfl)).trans ((hset_ne (key_ne rfl)).trans hihj8_0)), ((hset_ne (key_ne rfl)).trans ((hset_ne (key_ne rfl)).trans hihj8_1)), ((hset_ne (key_ne rfl)).trans ((hset_ne (key_ne rfl)).trans hihj8_2)), ((hset_ne (key_ne rfl)).trans ((hset_ne (key_ne rfl)).trans hihj8_3)), ((hset_ne (key_ne rfl)).trans ((hset_ne (key_ne rfl)).trans hihj8_4)), ((hset_ne (key_ne rfl)).trans ((hset_ne (key_ne rfl)).trans hihj8_5))⟩)
 ·have hb11R := hb11; try simp only [zz] at hb11
  obtain rfl : k = l.length := by simp only [List.length_map] at *; omega
  refine pwp_exit ?_
  refine exit_seq ?_
  clear hK10 K10
  refine exit_loop ?_
  refine exit_here ?_
  refine seq_norm (hK3 _ ?_); clear hK3 K3
  refine pwp_seq_plain rfl fun K28 hK28 => ?_
  refine p_e rfl (e_lH (v := v) rfl hihj8_4 rfl) ?_
  refine p_e rfl (e_loadHA (n := 3) rfl hihj8_5 (by kernel_rfl) (by kernel_rfl) (by kernel_rfl) (by exact Nat.zero_lt_one) (by decide) rfl) ?_
  refine p_new rfl (e_bslice (rows := [[.int i, .int x, pv]]) (zs := [.int 0, .int 0, .nil]) (sz := 3) (by kernel_rfl) (by kernel_rfl) rfl (by kernel_rfl) (by decide) rfl rfl (by exact ⟨by decide, rfl, (by show (true && (true && (pv.cell && true))) = true; rw [slice_cell hpv]; rfl), trivial⟩) rfl) trivial ?_
  have hS2 : SliceAt _ 29 v 3 rows := sl_mono hS fun g_ o_ ho_ => (hag (29, g_) (hkn _ _ ho_)).trans ho_
  refine p_appK (d1 := 29) (rows2 := [[.int i, .int x, pv]]) rfl rfl rfl (hS2.keep fun g_ => (hset_ne (key_ne rfl)).trans (rfl)) (src_ref (hset_self _ _ _) rfl) (by kernel_rfl) (by rw [hN.len, List.length_map]; simp only [List.length_cons, List.length_nil]; omega) (by simp) fun h29 hn30 hf31 => ?_
  have ho32 := (hf31 _ (key_ne rfl) (fun _ _ => key_ne rfl)).trans ((hset_ne (key_ne rfl)).trans hihj8_0)
  have ho33 := (hf31 _ (key_ne rfl) (fun _ _ => key_ne rfl)).trans ((hset_ne (key_ne rfl)).trans hihj8_1)
  have ho34 := (hf31 _ (key_ne rfl) (fun _ _ => key_ne rfl)).trans ((hset_ne (key_ne rfl)).trans hihj8_2)
  have ho35 := (hf31 _ (key_ne rfl) (fun _ _ => key_ne rfl)).trans ((hset_ne (key_ne rfl)).trans hihj8_3)
  have ho36 := (hf31 _ (key_ne rfl) (fun _ _ => key_ne rfl)).trans ((hset_ne (key_ne rfl)).trans hihj8_4)
  have ho37 := (hf31 _ (key_ne rfl) (fun _ _ => key_ne rfl)).trans ((hset_ne (key_ne rfl)).trans hihj8_5)
  refine p_store rfl (e_store1 rfl ho36 rfl rfl rfl (by decide) (by kernel_rfl) rfl (by kernel_rfl)) trivial ?_
  refine p_end (hK28 _ ?_); clear hK28 K28
  refine pwp_seq_plain rfl fun K38 hK38 => ?_
  refine p_aS rfl ?_
  refine p_end (hK38 _ ?_); clear hK38 K38
  refine pwp_ret ?_
  refine end1 (v := .sc _) rfl ?_
  have hsm : ∀ (k_ : Key) (o_ : PObj), h0 k_ = some o_ → ¬ WD k_ → h29 k_ = some o_ := fun k_ o_ hk_ hw => (hf31 k_ (fun e => hw (.inr (by rw [e]))) (fun g_ _ e => hw (.inr (by rw [e])))).trans ((hset_ne (old_le (hkn k_ o_ hk_) hcm.2.2.2)).trans ((hag k_ (hkn k_ o_ hk_)).trans hk_))
  refine ⟨⟨fun k_ o_ hk_ hw => (hset_ne (fun e => hw (.inl e))).trans (hsm k_ o_ hk_ hw)⟩, true, rfl, fun _ => ⟨(hset_ne (key_ne rfl)).trans (hsm _ _ hP.ties (by rintro (q | q) <;> cases q)), ?_⟩, fun e => by cases e⟩
  refine ⟨_, rows ++ [[.int i, .int x, pv]], (hset_self _ _ _), .ofRef ((hset_ne (key_ne rfl)).trans hn30) (by simp), ?_, rfl⟩
  rw [List.map_append]
  refine NestD.app (x := dmd g r l (i, x)) (hN.mono fun g_ o_ ho_ => (hset_ne (key_ne rfl)).trans (hsm _ _ ho_ (by rintro (q | q) <;> cases q))) ?_
  exact hpv.keep fun g_ => (hset_ne (key_ne rfl)).trans ((hf31 _ (key_ne rfl) (fun _ _ => key_ne rfl)).trans ((hset_ne (key_ne rfl)).trans rfl))

end Go.Proofs.YtindehoegfiiaaaGreatDoor
