/- Choose. No conditions. -/
import Derived.Test.YtindehoegfiiaaaGreatDoorCh2
import Derived.Laws.BitsAllLaws
set_option linter.unusedSimpArgs false
set_option linter.unusedVariables false
set_option maxRecDepth 100000
namespace Go.Proofs.YtindehoegfiiaaaGreatDoor
open Go Go.Pv
/-! ### The essential demands suffice -/
def metB (d : List Demand) (c : List Int) : Bool := d.all fun x => c.any fun p => x.places.any fun y => decide (y = p)
def wE (d : List Demand) (i : Int) : Nat := wdN (plA d i.toNat) 0
def wsE (d : List Demand) : List Nat := (essL d d.length).map (wE d)
section
variable {d : List Demand} {i m : Nat} {z : Int} {c : List Int} {n : Nat}
theorem essL_mem : ∀ {m : Nat}, z ∈ essL d m ↔ ∃ i, i < m ∧ keptB d i = true ∧ z = (i : Int)
 | 0 => ⟨fun h => (by cases h), fun ⟨i, h, _⟩ => absurd h (Nat.not_lt_zero _)⟩
 | m + 1 => by
   rw [essL]
   split
   · rename_i hk
     rw [List.mem_append, essL_mem, List.mem_singleton]
     constructor
     · rintro (⟨i, hi, q⟩ | q)
       · exact ⟨i, by omega, q⟩
       · exact ⟨m, by omega, hk, q⟩
     · rintro ⟨i, hi, q1, q2⟩
       by_cases e : i = m
       · subst e; exact .inr q2
       · exact .inl ⟨i, by omega, q1, q2⟩
   · rename_i hk
     rw [essL_mem]
     constructor
     · rintro ⟨i, hi, q⟩; exact ⟨i, by omega, q⟩
     · rintro ⟨i, hi, q1, q2⟩
       by_cases e : i = m
       · subst e; exact absurd q1 hk
       · exact ⟨i, by omega, q1, q2⟩
theorem ess_red (hr : ∀ x ∈ d, risB x.places = true) (P : List Int → Prop) (hm : ∀ A B : List Int, (∀ n ∈ A, n ∈ B) → P A → P B) (hk : ∀ i, i < d.length → keptB d i = true → P (plA d i)) : ∀ (m i : Nat), i < d.length → (plA d i).length * (d.length + 1) + i < m → P (plA d i)
 | 0, _, _, h => absurd h (Nat.not_lt_zero _)
 | m + 1, i, hi, h => by
   cases q : keptB d i with
   | true => exact hk i hi q
   | false =>
     rw [keptB, Bool.not_eq_false', List.any_eq_true] at q
     obtain ⟨k, hk1, hk2⟩ := q
     rw [List.mem_range] at hk1
     rw [strO, Bool.and_eq_true, Bool.and_eq_true, Bool.or_eq_true, decide_eq_true_eq, decide_eq_true_eq, Bool.not_eq_true'] at hk2
     obtain ⟨h1, h2, h3⟩ := hk2
     have hs := subL_iff.1 h2
     have ri := hr _ (List.getElem_mem hi); have rk := hr _ (List.getElem_mem hk1)
     rw [← plA_at (List.getElem?_eq_getElem hi)] at ri
     rw [← plA_at (List.getElem?_eq_getElem hk1)] at rk
     have hl := sub_len (ris_nodup rk) hs
     refine hm _ _ hs (ess_red hr P hm hk m k hk1 ?_)
     rcases h3 with h3 | h3
     · have := Nat.mul_le_mul_right (d.length + 1) hl
       omega
     · have hlt : (plA d k).length < (plA d i).length := by
         by_cases e : (plA d i).length ≤ (plA d k).length
         · rw [subL_iff.2 (sub_back (ris_nodup rk) (ris_nodup ri) hs e)] at h3; cases h3
         · omega
       have := Nat.mul_le_mul_right (d.length + 1) (show (plA d k).length + 1 ≤ (plA d i).length by omega)
       rw [Nat.add_mul, Nat.one_mul] at this
       omega
theorem metB_iff : metB d c = true ↔ ∀ x ∈ d, ∃ p ∈ c, p ∈ x.places := by
 rw [metB, List.all_eq_true]
 constructor
 · intro h x hx
   obtain ⟨p, hp, h2⟩ := List.any_eq_true.1 (h x hx)
   obtain ⟨y, hy, h3⟩ := List.any_eq_true.1 h2
   rw [decide_eq_true_eq] at h3; subst h3; exact ⟨_, hp, hy⟩
 · intro h x hx
   obtain ⟨p, hp, h2⟩ := h x hx
   exact List.any_eq_true.2 ⟨p, hp, List.any_eq_true.2 ⟨p, h2, decide_eq_true rfl⟩⟩
theorem ok_eq (hr : ∀ x ∈ d, risB x.places = true) (hp : ∀ x ∈ d, InN 64 x.places) (hn : n ≤ 64) (c : List Int) (hc : InN n c) : okW (wsE d) c = metB d c := by
 have hc2 : InN 64 c := fun p hq => by have := hc p hq; omega
 rw [Bool.eq_iff_iff, metB_iff, okW, List.all_eq_true]
 have hpl : ∀ i, i < d.length → InN 64 (plA d i) := fun i hi => by
   rw [plA_at (List.getElem?_eq_getElem hi)]; exact hp _ (List.getElem_mem hi)
 constructor
 · intro h x hx
   obtain ⟨j, hj, e⟩ := List.getElem_of_mem hx
   have := ess_red hr (fun A => ∃ p ∈ c, p ∈ A) (fun A B hs ⟨p, h1, h2⟩ => ⟨p, h1, hs p h2⟩) (fun i hi hk => by
     have h1 := h (wE d (i : Int)) (List.mem_map_of_mem (essL_mem.2 ⟨i, hi, hk, rfl⟩))
     rw [decide_eq_true_eq] at h1
     exact (meet_iff (L := plA d i) (hpl i hi) hc2).1 h1) _ j hj (Nat.lt_succ_self _)
   rw [plA_at (List.getElem?_eq_getElem hj), e] at this
   exact this
 · intro h w hw
   obtain ⟨z, hz, rfl⟩ := List.mem_map.1 hw
   obtain ⟨i, hi, _, rfl⟩ := essL_mem.1 hz
   have h1 := h _ (List.getElem_mem hi)
   rw [← plA_at (List.getElem?_eq_getElem hi)] at h1
   exact decide_eq_true ((meet_iff (L := plA d i) (hpl i hi) hc2).2 h1)
theorem ess_small (h : z ∈ essL d d.length) : 0 ≤ z ∧ z < (d.length : Int) := by
 obtain ⟨i, hi, _, rfl⟩ := essL_mem.1 h; omega
theorem ws_len : (wsE d).length ≤ d.length := by rw [wsE, List.length_map]; exact ess_len
theorem ws_lt : ∀ w ∈ wsE d, w < 18446744073709551616 := fun w hw => by
 obtain ⟨z, _, rfl⟩ := List.mem_map.1 hw; exact wdN_lt
end
/-! ### What Choose returns -/
def tieAt (l : List Tie) (p : Int) : Tie := l.getD p.toNat default
def chS (d : List Demand) (n : Nat) : Option (List Int) := (List.range' 0 (n + 1)).findSome? fun z => srch (metB d) n z 0 []
def chX (g : Grid) (r : Rule) (l : List Tie) : List Tie × Int :=
 if allE g r l ≠ 0 then ([], allE g r l) else if 24 < (l.length : Int) then ([], 8) else match chS (dmX g r l) l.length with
   | some c => (c.map (tieAt l), 0)
   | none => ([], 19)
section
variable {g : Grid} {r : Rule} {l : List Tie} {K : Tie → Bool} {k : Nat} {p : Int} {d : List Demand} {n : Nat} {c : List Int}
theorem plT_in : ∀ {k : Nat}, ∀ p ∈ plT K l k, 0 ≤ p ∧ p < (k : Int)
 | 0, p, h => by cases h
 | k + 1, p, h => by
   rw [plT] at h
   split at h
   · rcases List.mem_append.1 h with q | q
     · have := plT_in p q; omega
     · rw [List.mem_singleton] at q; omega
   · have := plT_in p h; omega
theorem risB_snoc : ∀ {L : List Int} {p : Int}, risB L = true → (∀ q ∈ L, q < p) → risB (L ++ [p]) = true
 | [], _, _, _ => rfl
 | [a], p, _, h => by
   show (decide (a < p) && risB [p]) = true
   rw [decide_eq_true (h a (List.mem_cons_self ..))]; rfl
 | a :: b :: L, p, hr, h => by
   rw [risB, Bool.and_eq_true] at hr
   show (decide (a < b) && risB ((b :: L) ++ [p])) = true
   rw [hr.1, risB_snoc hr.2 fun q hq => h q (List.mem_cons_of_mem _ hq)]; rfl
theorem plT_ris : ∀ {k : Nat}, risB (plT K l k) = true
 | 0 => rfl
 | k + 1 => by
   rw [plT]; split
   · exact risB_snoc plT_ris fun q hq => (plT_in q hq).2
   · exact plT_ris
theorem dmX_in (x : Demand) (hx : x ∈ dmX g r l) : InN l.length x.places ∧ risB x.places = true := by
 by_cases h : allE g r l = 0
 · rw [dmX_0 h] at hx
   obtain ⟨e, _, rfl⟩ := List.mem_map.1 hx
   exact ⟨fun p hp => plT_in p hp, plT_ris⟩
 · rw [dmX_e h] at hx; cases hx
theorem frs_0 {α : Type} {E : Nat → α → Int} : ∀ (L : List α) (k : Nat), (∀ i x, x ∈ L → E i x = 0) → frsF E k L = 0
 | [], _, _ => rfl
 | x :: L, k, h => by
   rw [frsF, if_neg (fun q => q (h k x (List.mem_cons_self ..)))]
   exact frs_0 L (k + 1) fun i y hy => h i y (List.mem_cons_of_mem _ hy)
theorem dmX_few (hg : g.along.length ≤ 6) (hl : g.levels.length ≤ 6) : (dmX g r l).length ≤ 42 := by
 by_cases h : allE g r l = 0
 · rw [dmX_0 h, List.length_map]
   have h1 := dmL_len (g := g) (r := r) (k := g.along.length)
   have h2 : g.along.length * (g.levels.length + 1) ≤ 6 * 7 := Nat.mul_le_mul hg (by omega)
   omega
 · rw [dmX_e h]; exact Nat.zero_le _
theorem dmX_dem (hd : (dmX g r l).length ≤ 1800) (hl : l.length ≤ 1800) : demE 1800 (dmX g r l) = 0 := by
 rw [demE, if_neg (by omega)]
 refine frs_0 _ _ fun i x hx => ?_
 obtain ⟨h1, h2⟩ := dmX_in x hx
 refine dmK_0 ?_ h2
 rw [List.any_eq_false]
 intro y hy
 have := h1 y hy
 rw [outB, decide_eq_true (by omega)]; decide
theorem enc_F (ds : List Demand) : (ds.map dF).map encQ = ds.map (encT false) := by rw [List.map_map]; rfl
theorem chX_e (h : allE g r l ≠ 0) : chX g r l = ([], allE g r l) := if_pos h
theorem chX_8 (h : allE g r l = 0) (h2 : 24 < (l.length : Int)) : chX g r l = ([], 8) := by rw [chX, if_neg (fun q => q h), if_pos h2]
theorem chX_n (h : allE g r l = 0) (h2 : ¬ 24 < (l.length : Int)) (h3 : chS (dmX g r l) l.length = none) : chX g r l = ([], 19) := by rw [chX, if_neg (fun q => q h), if_neg h2, h3]
theorem chX_s (h : allE g r l = 0) (h2 : ¬ 24 < (l.length : Int)) (h3 : chS (dmX g r l) l.length = some c) : chX g r l = (c.map (tieAt l), 0) := by rw [chX, if_neg (fun q => q h), if_neg h2, h3]
/-- the program's search by words is the search of the document -/
theorem own_eq (hl : l.length ≤ 64) (z : Nat) : srch (okW (wsE (dmX g r l))) l.length z 0 [] = srch (metB (dmX g r l)) l.length z 0 [] :=
 srch_congr (fun c hc => ok_eq (fun x hx => (dmX_in x hx).2) (fun x hx p hp => by have := (dmX_in x hx).1 p hp; omega) hl c hc) (fun p hp => by cases hp)
theorem setsF (hd : d.length ≤ 100000) (hp : ∀ x ∈ d, x.places.length ≤ 100000) (h0 : demE 1800 d = 0) (t : Bool) : PCalls Tryz.prog 72 [.lit t 3 ((d.map dF).map encQ)] (.lit false 29 ((d.map wdP).map encS)) := by
 rw [enc_F]; exact setsC false t d hd hp h0
theorem lt_out {h : Heap} {v : PV} {d0 : Nat} {x : List Tie × Int} {L : List Tie} (hv : SliceAt h d0 v 2 (L.map Tie.enc)) (hx : x = (L, 0)) : Out h (.tup [v, .int 0]) (.tup [.lit false 2 (x.1.map Tie.enc), .int x.2]) := slX_o hv hx
theorem wE_at {x : Demand} {e : Int} (hx : d[e.toNat]? = some x) : (wdP x).getD 0 0 = wE d e := by rw [wdP, wds_get (by decide), wE, plA_at hx]
theorem drop_word {q : Nat} {s : Nat} {r : List Int} (hs : s = wsum (r.drop q)) (h0 : s ≠ 0) : ∃ p, r[q]? = some p ∧ r.drop q = p :: r.drop (q + 1) ∧ q < r.length := by
 by_cases h : q < r.length
 · exact ⟨r[q], List.getElem?_eq_getElem h, List.drop_eq_getElem_cons h, h⟩
 · rw [List.drop_eq_nil_of_le (by omega)] at hs; exact absurd hs h0
theorem word_end {q : Nat} {s : Nat} {r : List Int} (hr : ∀ p ∈ r, 0 ≤ p) (hs : s = wsum (r.drop q)) (h0 : s = 0) : r.length ≤ q := by
 by_cases h : q < r.length
 · rw [List.drop_eq_getElem_cons h] at hs
   have : 0 < 2 ^ (r[q]).toNat := Nat.pow_pos (by decide)
   have e : wsum (r[q] :: r.drop (q + 1)) = 2 ^ (r[q]).toNat + wsum (r.drop (q + 1)) := rfl
   omega
 · omega
end

theorem inn_cov {h : Heap} {d0 : Nat} {pv : PV} {ws : List Nat} {m n : Nat} (hm : m = n) (hs : SliceAt h d0 pv 1 (ws.map cwR)) : Inn h (.agg [pv, .int (m : Int)]) (.agg [.lit true 1 (ws.map cwR), .int (n : Int)]) := by
 subst hm
 refine .agg rfl fun i p q hp hq => ?_
 match i, hp, hq with
 | 0, hp, hq =>
   simp at hp hq; subst hp; subst hq
   rcases hs with ⟨e, rfl⟩ | ⟨g, rfl, hg⟩
   · rw [e]; exact .nil true 1
   · exact .ref hg (by omega) (by rw [List.drop_zero, List.take_length]) (fun row hr => pure_map cwR_pure row hr)
 | 1, hp, hq => simp at hp hq; subst hp; subst hq; exact .pure (.sc _)
 | i + 2, hp, hq => simp at hp

theorem fr20 : (inFrame Tryz.f20.ntmps (Tryz.f20.body.getD .skip) && Tryz.f20.results.toList.all (resScope Tryz.f20.ntmps)) = true := by kernel_rfl
theorem ChooseC (g : Grid) (r : Rule) (l : List Tie) (ha : g.along.length ≤ 100) (hb : g.levels.length ≤ 100) (hl : l.length ≤ 100000) (hfw : gridE g = 0 → g.along.length ≤ 6 ∧ g.levels.length ≤ 6) (hl9 : l.length ≤ 9 ∨ 24 < l.length) : PCalls Tryz.prog 20 [.agg g.enc, .agg r.enc, .lit true 2 (l.map Tie.enc)] (.tup [.lit false 2 ((chX g r l).1.map Tie.enc), .int (chX g r l).2]) := by
 refine PCalls.of_code Tryz.func20 rfl rfl (by kernel_rfl) mixed fr20 (by show _ ≤ 83; simp) (pure_2 (.lit _ _ _ fun row hr => pure_map Tie.pure row hr) (.sc _)) ?_
 have hdx := dmX_len (g := g) (r := r) (l := l)
 refine pwp_seq_plain rfl fun K1 hK1 => ?_
 refine p_new rfl (e_box (n := 3) rfl rfl) ⟨rfl, by decide⟩ ?_
 refine p_new rfl (e_box (n := 5) rfl rfl) ⟨rfl, by decide⟩ ?_
 refine p_e rfl (e_assign (v := .nil) rfl) ?_
 refine p_aS rfl ?_
 refine p_end (hK1 _ ?_); clear hK1 K1
 refine pwp_seq_plain rfl fun K2 hK2 => ?_
 refine p_e rfl (e_loadHA (cs := Grid.enc (g)) (n := 3) rfl ((hset_ne (key_ne rfl)).trans (hset_self _ _ _)) (by kernel_rfl) (by kernel_rfl) (by kernel_rfl) (by exact Nat.zero_lt_one) (by decide) rfl) ?_
 refine p_e rfl (e_loadHA (cs := Rule.enc (r)) (n := 5) rfl (hset_self _ _ _) (by kernel_rfl) (by kernel_rfl) (by kernel_rfl) (by exact Nat.zero_lt_one) (by decide) rfl) ?_
 refine p_e rfl (e_move (v := .lit _ _ _) rfl) ?_
 refine p_call rfl (.cons (inn_agg (Grid.pure _)) (.cons (inn_agg (Rule.pure _)) (.cons inn_lit .nil))) (DemandsC g r l (by omega) (by omega) (by omega)) ?_
 refine p_e rfl (e_move (v := .tup _) rfl) ?_
 refine p_e rfl (e_ext (v := .lit _ _ _) rfl (by simp) rfl) ?_
 refine p_e rfl (e_ext (v := .sc _) rfl (by simp) rfl) ?_
 refine p_e rfl (e_assign (v := .lit _ _ _) rfl) ?_
 refine p_aS rfl ?_
 refine p_end (hK2 _ ?_); clear hK2 K2
 refine pwp_seq_seq ?_
 refine pwp_seq_plain rfl fun K3 hK3 => ?_
 refine p_mS rfl ?_
 refine p_e rfl (e_ne rfl rfl) ?_
 refine p_end (hK3 _ ?_); clear hK3 K3
 refine pwp_seq_cond rfl fun K4 hK4 => ⟨fun hb5 => ?_, fun hb5 => ?_⟩
 ·have hb5R := hb5; try simp only [zz] at hb5
  refine pwp_seq_plain rfl fun K6 hK6 => ?_
  refine p_mS rfl ?_
  refine p_e rfl (e_assign (v := .nil) rfl) ?_
  refine p_aS rfl ?_
  refine p_end (hK6 _ ?_); clear hK6 K6
  refine pwp_ret ?_
  refine ret_seq ?_
  refine end2 (v := .nil) (w := .sc _) rfl rfl ?_
  first
    | exact slX_oe (chX_e (by assumption))
    | exact slX_oe (chX_8 haz (by simp only [List.length_map] at *; omega))
    | exact slX_oe (chX_n haz (by omega) (fnd_end hinv (by omega)))
 ·have hb5R := hb5; try simp only [zz] at hb5
  refine pwp_skip ?_
  refine seq_norm (hK4 _ ?_); clear hK4 K4
  refine pwp_seq_seq ?_
  have haz : allE g r l = 0 := by omega
  refine pwp_seq_plain rfl fun K7 hK7 => ?_
  refine p_e rfl (e_move (v := .lit _ _ _) rfl) ?_
  refine p_e rfl (e_len rfl (by kernel_rfl)) ?_
  refine p_e rfl (e_gt rfl rfl) ?_
  refine p_end (hK7 _ ?_); clear hK7 K7
  refine pwp_seq_cond rfl fun K8 hK8 => ⟨fun hb9 => ?_, fun hb9 => ?_⟩
  ·have hb9R := hb9; try simp only [zz] at hb9
   refine pwp_seq_plain rfl fun K10 hK10 => ?_
   refine p_e rfl (e_assign (v := .nil) rfl) ?_
   refine p_aS rfl ?_
   refine p_end (hK10 _ ?_); clear hK10 K10
   refine pwp_ret ?_
   refine ret_seq ?_
   refine end2 (v := .nil) (w := .sc _) rfl rfl ?_
   first
     | exact slX_oe (chX_e (by assumption))
     | exact slX_oe (chX_8 haz (by simp only [List.length_map] at *; omega))
     | exact slX_oe (chX_n haz (by omega) (fnd_end hinv (by omega)))
  ·have hb9R := hb9; try simp only [zz] at hb9
   refine pwp_skip ?_
   refine seq_norm (hK8 _ ?_); clear hK8 K8
   have hl9 : l.length ≤ 9 := by simp only [List.length_map] at *; omega
   have hfw2 := hfw (allE_inv haz).1
   have hdf := dmX_few (g := g) (r := r) (l := l) hfw2.1 hfw2.2
   have h0 := dmX_dem (g := g) (r := r) (l := l) (by omega) (by omega)
   have hpl : ∀ x ∈ (dmX g r l), x.places.length ≤ 100000 := fun x hx => Nat.le_trans (dmX_pl hx) hl
   have hel := ess_len (D := (dmX g r l)) (i := (dmX g r l).length)
   have hwl : (wsE (dmX g r l)).length ≤ 100000 := Nat.le_trans ws_len (by omega)
   refine pwp_seq_plain rfl fun K11 hK11 => ?_
   refine p_e rfl (e_move (v := .lit _ _ _) rfl) ?_
   refine p_call rfl (.cons inn_lit .nil) (setsF (by omega) hpl h0 _) ?_
   refine p_e rfl (e_assign (v := .lit _ _ _) rfl) ?_
   refine p_end (hK11 _ ?_); clear hK11 K11
   refine pwp_seq_plain rfl fun K12 hK12 => ?_
   refine p_e rfl (e_move (v := .lit _ _ _) rfl) ?_
   refine p_e rfl (e_len rfl (by kernel_rfl)) ?_
   refine p_e rfl (e_build (zs := [.nil, .int 0]) (pl := [(0, 1, false), (1, 1, false)]) (by kernel_rfl) (by kernel_rfl) (by kernel_rfl) rfl rfl (by exact ⟨by decide, rfl, Nat.le_of_ble_eq_true rfl, rfl, trivial⟩) rfl) ?_
   refine p_new rfl (e_alloc (cs := [.nil, .int 0]) (n := 2) (by kernel_rfl) rfl (by decide)) (ob_alloc (by decide)) ?_
   refine p_store rfl (e_storeA rfl (hset_self _ _ _) rfl rfl rfl (by kernel_rfl) rfl (by kernel_rfl)) trivial ?_
   refine p_end (hK12 _ ?_); clear hK12 K12
   refine pwp_seq_seq ?_
   refine pwp_seq_plain rfl fun K13 hK13 => ?_
   refine p_e rfl (e_move (v := .lit _ _ _) rfl) ?_
   refine p_call rfl (.cons inn_lit .nil) (essentialC _ (dmX g r l) (by omega) h0) ?_
   refine p_e rfl (e_len rfl (by kernel_rfl)) ?_
   refine p_mS rfl ?_
   refine p_end (hK13 _ ?_); clear hK13 K13
   refine pwp_seq_block fun K14 hK14 => ?_
   refine pwp_loopR (α := Nat × PV) [2, 10, 11, 37, 38] (fun (a15 : Nat × PV) => [(39, .int (a15.1))]) (fun (a15 : Nat × PV) (h : Heap) (_ : Nat → Nat) => ((a15.1) ≤ (essL (dmX g r l) (dmX g r l).length).length) ∧ (SliceAt h 51 (a15.2) 1 ((((essL (dmX g r l) (dmX g r l).length).take (a15.1)).map (wE (dmX g r l))).map cwR)) ∧ (h (11, 0) = some (.rows 2 [[(a15.2), .int (((l.map Tie.enc).length : Nat) : Int)]]))) (fun (a15 : Nat × PV) => (essL (dmX g r l) (dmX g r l).length).length - (a15.1)) (0, .nil) (by exact ⟨rfl, trivial⟩) (by exact ⟨by exact Nat.zero_le _, by exact .nil, (hset_self _ _ _)⟩) fun a15 r16 h17 c18 hj19 => ?_
   obtain ⟨k, pv⟩ := a15
   obtain ⟨hk, hpv, hihj19_0⟩ := hj19
   try dsimp only at hk
   try dsimp only at hpv
   try dsimp only at hihj19_0
   show pwp _ _ (loopQ _ _ _) ⟨sets (mix _ _ _) [(39, .int k)], _, _⟩
   refine pwp_seq_plain rfl fun K20 hK20 => ?_
   refine p_e rfl (e_lt rfl rfl) ?_
   refine p_end (hK20 _ ?_); clear hK20 K20
   refine pwp_seq_cond rfl fun K21 hK21 => ⟨fun hb22 => ?_, fun hb22 => ?_⟩
   ·have hb22R := hb22; try simp only [zz] at hb22
    obtain ⟨e, he, hed, het⟩ := get_lt (xs := (essL (dmX g r l) (dmX g r l).length)) (i := k) (by omega)
    have heb := ess_small (List.mem_of_getElem? he)
    obtain ⟨x, hx⟩ : ∃ x, (dmX g r l)[e.toNat]? = some x := ⟨_, List.getElem?_eq_getElem (by omega)⟩
    have hxs := map_at (f := wdP) hx
    refine pwp_skip ?_
    refine seq_norm (hK21 _ ?_); clear hK21 K21
    refine pwp_seq_block fun K23 hK23 => ?_
    refine pwp_seq_plain rfl fun K24 hK24 => ?_
    refine p_e rfl (e_ixL rfl rfl) ?_
    refine p_e rfl (e_load (v := .sc _) rfl (by kernel_rfl) (by kernel_rfl) (by kernel_rfl) (by first | omega | (simp only [List.length_map]; omega)) (by decide) ((cell_map he _).trans rfl)) ?_
    refine p_aS rfl ?_
    refine p_end (hK24 _ ?_); clear hK24 K24
    refine pwp_gops rfl fun K25 hK25 => ?_
    refine s_begin ?_
    refine s_e rfl (e_faQ pl2 rfl) ?_
    refine s_step [11] (by simp [keysOf, Go.Pv.keyOf]) rfl rfl rfl rfl (e_lH (v := pv) rfl hihj19_0 rfl) trivial ?_
    refine s_e rfl (e_move (v := .lit _ _ _) rfl) ?_
    refine s_e rfl (e_move (v := .sc _) rfl) ?_
    refine s_e rfl (e_ixL rfl rfl) ?_
    refine s_e rfl (e_ixaL (n := 29) (e := 134) (i := 0) rfl rfl (by kernel_rfl) (by kernel_rfl) ⟨by decide, by decide⟩) ?_
    refine s_e rfl (e_load (v := cw ((wdP x).getD 0 0)) rfl (by kernel_rfl) (by kernel_rfl) (by kernel_rfl) (by rw [List.length_map]; exact (List.getElem?_eq_some_iff.1 hxs).1) (by decide) (cell_S hxs wds_len (by decide))) ?_
    refine s_new [] (by simp) rfl rfl rfl rfl (e_bslice (rows := [cwR ((wdP x).getD 0 0)]) (zs := [.sc (.int .u64 0)]) (sz := 1) (by kernel_rfl) (by kernel_rfl) rfl (by kernel_rfl) (by decide) rfl rfl (by exact ⟨by decide, rfl, rfl, trivial⟩) rfl) trivial ?_
    refine s_app [51, 50] [51, 51] (by simp) (by simp) (by simp) rfl rfl rfl (hpv.keep fun _ => (hset_ne (key_ne rfl)).trans (rfl)) (SrcAt.ref (hset_self _ _ _) rfl) rfl (by kernel_rfl) (by simp only [List.length_append, List.length_map, List.length_nil, List.length_cons, List.length_take]; omega) fun v26 h27 c28 hs29 hf30 => ?_
    have ho31 := (hf30 (11, _) (key_ne rfl) (fun _ _ => key_ne rfl)).trans ((hset_ne (key_ne rfl)).trans hihj19_0)
    have ho32 := (hf30 (50, _) (key_ne rfl) (fun _ _ => key_ne rfl)).trans (hset_self _ _ _)
    refine s_e rfl (e_faQ pl2 rfl) ?_
    obtain ⟨g_, rfl, hg_⟩ := SliceAt.isRef hs29 (by simp)
    refine s_store [11] (by simp) rfl rfl (e_store1 rfl ho31 rfl rfl rfl (by decide) (by kernel_rfl) rfl (by kernel_rfl)) trivial ?_
    refine s_end (ds := []) (by kernel_rfl) (by kernel_rfl) (hK25 _ ?_); clear hK25 K25
    refine block_norm ?_
    refine seq_norm (hK23 _ ?_); clear hK23 K23
    refine pwp_plain rfl fun K33 hK33 => ?_
    refine p_e rfl (e_adL rfl rfl) ?_
    refine p_mS rfl ?_
    refine p_end (hK33 _ ?_); clear hK33 K33
    exact loop_again ((k + 1, (.ref (51, g_) 1 0 _))) (by show _ < _; simp only; omega) ⟨rfl, rfl, rfl, rfl, rfl, trivial⟩ ⟨rfl, trivial⟩ (by exact ⟨by show _ + 1 ≤ _; simp only [List.length_map] at *; omega, by exact SliceAt.to (.ofRef (((hset_ne (key_ne rfl)).trans (rfl)).trans hg_) rfl) (by rw [tkm_s he, List.map_append, ← wE_at hx]; rfl), (hset_self _ _ _)⟩)
   ·have hb22R := hb22; try simp only [zz] at hb22
    have hke : k = (essL (dmX g r l) (dmX g r l).length).length := by simp only [List.length_map] at *; omega
    rw [hke, List.take_length] at hpv
    refine pwp_exit ?_
    refine exit_seq ?_
    clear hK21 K21
    refine exit_loop ?_
    refine exit_here ?_
    refine seq_norm (hK14 _ ?_); clear hK14 K14
    refine pwp_seq_seq ?_
    refine pwp_seq_plain rfl fun K34 hK34 => ?_
    refine p_aS rfl ?_
    refine p_end (hK34 _ ?_); clear hK34 K34
    refine pwp_seq_block fun K35 hK35 => ?_
    refine pwp_loopR (α := Nat) [2, 11] (fun (z : Nat) => [(14, .int (z))]) (fun (z : Nat) (h : Heap) (_ : Nat → Nat) => ((z) ≤ l.length + 1) ∧ (chS (dmX g r l) l.length = (List.range' (z) (l.length + 1 - (z))).findSome? (fun (z) => srch (metB (dmX g r l)) l.length (z) 0 [])) ∧ (SliceAt h 51 pv 1 ((wsE (dmX g r l)).map cwR)) ∧ (h (11, 0) = some (.rows 2 [[pv, .int (((l.map Tie.enc).length : Nat) : Int)]]))) (fun (z : Nat) => l.length + 1 - (z)) (0) (by exact ⟨rfl, trivial⟩) (by exact ⟨by exact Nat.zero_le _, by exact rfl, by exact hpv, hihj19_0⟩) fun z r36 h37 c38 hj39 => ?_
    obtain ⟨hz, hinv, hpv, hihj39_0⟩ := hj39
    try dsimp only at hz
    try dsimp only at hinv
    try dsimp only at hpv
    try dsimp only at hihj39_0
    show pwp _ _ (loopQ _ _ _) ⟨sets (mix _ _ _) [(14, .int z)], _, _⟩
    refine pwp_seq_seq ?_
    refine pwp_seq_plain rfl fun K40 hK40 => ?_
    refine p_mS rfl ?_
    refine p_e rfl (e_move (v := .lit _ _ _) rfl) ?_
    refine p_e rfl (e_len rfl (by kernel_rfl)) ?_
    refine p_e rfl (e_le rfl rfl) ?_
    refine p_end (hK40 _ ?_); clear hK40 K40
    refine pwp_seq_cond rfl fun K41 hK41 => ⟨fun hb42 => ?_, fun hb42 => ?_⟩
    ·have hb42R := hb42; try simp only [zz] at hb42
     have hzn : z ≤ l.length := by simp only [List.length_map] at *; omega
     refine pwp_skip ?_
     refine seq_norm (hK41 _ ?_); clear hK41 K41
     refine pwp_seq_block fun K43 hK43 => ?_
     refine pwp_seq_plain rfl fun K44 hK44 => ?_
     refine p_e rfl (e_loadHA (n := 2) rfl hihj39_0 (by kernel_rfl) (by kernel_rfl) (by kernel_rfl) (by exact Nat.zero_lt_one) (by decide) rfl) ?_
     refine p_mS rfl ?_
     refine p_call rfl (.cons (inn_cov (List.length_map ..) hpv) (.cons inn_sc (.cons inn_sc (.cons inn_sc .nil)))) (firstC hwl ws_lt (by omega) z (by omega) true 0 [] _ _ _ rfl rfl rfl (fun p hp => by cases hp) (Nat.zero_le _)) ?_
     refine p_e rfl (e_move (v := .tup _) rfl) ?_
     refine p_e rfl (e_ext (v := .sc _) rfl (by simp) rfl) ?_
     refine p_e rfl (e_ext (v := .sc _) rfl (by simp) rfl) ?_
     refine p_aS rfl ?_
     refine p_aS rfl ?_
     refine p_end (hK44 _ ?_); clear hK44 K44
     refine pwp_seq_seq ?_
     refine pwp_seq_plain rfl fun K45 hK45 => ?_
     refine p_mS rfl ?_
     refine p_e rfl (e_not rfl) ?_
     refine p_end (hK45 _ ?_); clear hK45 K45
     refine pwp_seq_cond rfl fun K46 hK46 => ⟨fun hb47 => ?_, fun hb47 => ?_⟩
     ·have hb47R := hb47; try simp only [zz] at hb47
      refine pwp_exit ?_
      refine exit_seq ?_
      clear hK46 K46
      refine exit_here ?_
      refine seq_norm (hK43 _ ?_); clear hK43 K43
      refine pwp_plain rfl fun K48 hK48 => ?_
      refine p_mS rfl ?_
      refine p_e rfl (e_adL rfl rfl) ?_
      refine p_aS rfl ?_
      refine p_end (hK48 _ ?_); clear hK48 K48
      exact loop_again (z + 1) (by show _ < _; omega) ⟨rfl, rfl, trivial⟩ ⟨rfl, trivial⟩ (by exact ⟨by omega, by exact fnd_next hinv (by omega) (by rw [← own_eq (by omega)]; first | assumption | simp_all), by exact hpv, hihj39_0⟩)
     ·have hb47R := hb47; try simp only [zz] at hb47
      refine pwp_skip ?_
      refine seq_norm (hK46 _ ?_); clear hK46 K46
      obtain ⟨c, hc⟩ : ∃ c, srch (okW (wsE (dmX g r l))) l.length z 0 [] = some c := Option.isSome_iff_exists.1 (by first | assumption | simp_all)
      have hc2 := hc
      rw [own_eq (by omega)] at hc2
      have hcc : chS (dmX g r l) l.length = some c := by rw [fnd_hit hinv (by omega) (by rw [hc2]; rfl), hc2]
      obtain ⟨E_, hE1, _, hE3, hE4, _⟩ := srch_some hc
      rw [List.nil_append] at hE1
      subst hE1
      have hcb : ∀ y ∈ c, 0 ≤ y ∧ y < (l.length : Int) := fun y hy => by have := hE3 y hy; omega
      have hcp := hE4
      have hsw : fV (wsE (dmX g r l)) l.length z 0 [] = wsum (c.drop 0) := by rw [List.drop_zero, fV_some (fun p hp => by cases hp) (Nat.zero_le _) (by omega) hc]; exact wsum_wd _ c rfl hE4 (fun y hy => by have := hcb y hy; omega)
      refine pwp_seq_plain rfl fun K49 hK49 => ?_
      refine p_e rfl (e_assign (v := .nil) rfl) ?_
      refine p_end (hK49 _ ?_); clear hK49 K49
      refine pwp_seq_block fun K50 hK50 => ?_
      refine pwp_loopR (α := Nat × Nat × PV) [2] (fun (a51 : Nat × Nat × PV) => [(15, cw (a51.2.1)), (17, (a51.2.2))]) (fun (a51 : Nat × Nat × PV) (h : Heap) (_ : Nat → Nat) => ((a51.1) ≤ c.length) ∧ ((a51.2.1) = wsum (c.drop (a51.1))) ∧ (SliceAt h 81 (a51.2.2) 2 (((c.take (a51.1)).map (tieAt l)).map Tie.enc))) (fun (a51 : Nat × Nat × PV) => c.length - (a51.1)) (0, (fV (wsE (dmX g r l)) l.length z 0 []), .nil) (by exact ⟨rfl, rfl, trivial⟩) (by exact ⟨by exact Nat.zero_le _, by exact hsw, .nil⟩) fun a51 r52 h53 c54 hj55 => ?_
      obtain ⟨q, s, v⟩ := a51
      obtain ⟨hq, hs, hihj55_0⟩ := hj55
      try dsimp only at hq
      try dsimp only at hs
      try dsimp only at hihj55_0
      show pwp _ _ (loopQ _ _ _) ⟨sets (mix _ _ _) [(15, cw s), (17, v)], _, _⟩
      refine pwp_seq_seq ?_
      refine pwp_seq_plain rfl fun K56 hK56 => ?_
      refine p_mS rfl ?_
      refine p_e rfl (e_ne64 (a := s) rfl rfl) ?_
      refine p_end (hK56 _ ?_); clear hK56 K56
      refine pwp_seq_cond rfl fun K57 hK57 => ⟨fun hb58 => ?_, fun hb58 => ?_⟩
      ·have hb58R := hb58; try simp only [zz] at hb58
       obtain ⟨p, hp, hpd, hql⟩ := drop_word hs (by first | assumption | simp_all)
       have hpb := hcb p (List.mem_of_getElem? hp)
       have hpw : (p :: c.drop (q + 1)).Pairwise (· < ·) := by rw [← hpd]; exact hcp.sublist (List.drop_sublist _ _)
       have hs1 : s = wsum (p :: c.drop (q + 1)) := by rw [hs, hpd]
       have hs5 : s < 512 := by have := wsum_lt (c := p :: c.drop (q + 1)) (lo := 0) hpw (fun y hy => by have := hcb y (List.mem_of_mem_drop (by rw [hpd]; exact hy : y ∈ c.drop q)); omega) (by decide); omega
       have hlow : s % 2 ^ (p.toNat + 1) = 2 ^ p.toNat := by rw [hs1]; exact wsum_low hpw hpb.1
       have hla := low_at hs5 (by omega) hlow
       have hs2 : wsum (p :: c.drop (q + 1)) = 2 ^ p.toNat + wsum (c.drop (q + 1)) := rfl
       have hs0 : 1 ≤ s := by have : 0 < 2 ^ p.toNat := Nat.pow_pos (by decide); omega
       obtain ⟨tt, htt⟩ : ∃ tt, l[((p.toNat : Nat) : Int).toNat]? = some tt := ⟨_, List.getElem?_eq_getElem (by omega)⟩
       have hta : tieAt l p = tt := by rw [tieAt]; exact ts_x htt
       refine pwp_skip ?_
       refine seq_norm (hK57 _ ?_); clear hK57 K57
       refine pwp_seq_block fun K59 hK59 => ?_
       refine pwp_plain rfl fun K60 hK60 => ?_
       refine p_e rfl (e_move (v := _) rfl) ?_
       refine p_e rfl (e_move (v := .lit _ _ _) rfl) ?_
       refine p_mS rfl ?_
       refine p_call rfl (.cons inn_sc .nil) (tzC s p.toNat hs5 (by omega) hlow) ?_
       refine p_e rfl (e_ixL rfl rfl) ?_
       refine p_e rfl (e_loadA (n := 2) rfl (by kernel_rfl) (by kernel_rfl) (by kernel_rfl) (by first | omega | (simp only [List.length_map]; omega)) (by decide) (by first | exact agg_map htt rfl)) ?_
       refine p_new rfl (e_bslice (rows := [Tie.enc tt]) (zs := [.int 0, .int 0]) (sz := 2) (by kernel_rfl) (by kernel_rfl) rfl (by kernel_rfl) (by decide) rfl rfl (by exact ⟨by decide, rfl, rfl, trivial⟩) rfl) trivial ?_
       refine p_app rfl rfl rfl (hihj55_0.keep fun _ => (hset_ne (key_ne rfl)).trans (rfl)) (src_ref (hset_self _ _ _) rfl) (by kernel_rfl) (by simp only [List.length_append, List.length_map, List.length_nil, List.length_cons, List.length_take]; omega) fun v61 h62 c63 hs64 hf65 => ?_
       have ho66 := (hf65 (80, _) (key_ne rfl) (fun _ _ => key_ne rfl)).trans (hset_self _ _ _)
       refine p_e rfl (e_assign (v := _) rfl) ?_
       refine p_end (hK60 _ ?_); clear hK60 K60
       refine block_norm ?_
       refine seq_norm (hK59 _ ?_); clear hK59 K59
       refine pwp_plain rfl fun K67 hK67 => ?_
       refine p_mS rfl ?_
       refine p_mS rfl ?_
       refine p_e rfl (e_sub64 (a := s) (b := 1) rfl rfl hs0 (by omega)) ?_
       refine p_e rfl (e_and64 (a := s) (b := s - 1) rfl rfl (by omega) (by omega) hla.2) ?_
       refine p_aS rfl ?_
       refine p_end (hK67 _ ?_); clear hK67 K67
       exact loop_again ((q + 1, s - 2 ^ p.toNat, v61)) (by show _ < _; simp only; omega) ⟨rfl, trivial⟩ ⟨rfl, rfl, trivial⟩ (by exact ⟨by show _ + 1 ≤ _; omega, by show s - 2 ^ p.toNat = wsum (c.drop (q + 1)); omega, (SliceAt.to hs64 (by rw [tkm_s hp, List.map_append, hta]; rfl))⟩)
      ·have hb58R := hb58; try simp only [zz] at hb58
       have hqe := word_end (fun y hy => (hcb y hy).1) hs (by first | assumption | simp_all)
       refine pwp_exit ?_
       refine exit_seq ?_
       clear hK57 K57
       refine exit_loop ?_
       refine exit_here ?_
       refine seq_norm (hK50 _ ?_); clear hK50 K50
       refine pwp_seq_plain rfl fun K68 hK68 => ?_
       refine p_e rfl (e_move (v := _) rfl) ?_
       refine p_e rfl (e_assign (v := _) rfl) ?_
       refine p_aS rfl ?_
       refine p_end (hK68 _ ?_); clear hK68 K68
       refine pwp_ret ?_
       refine ret_block ?_
       refine ret_seq ?_
       refine ret_loop ?_
       refine ret_block ?_
       refine ret_seq ?_
       refine end2 (v := _) (w := .sc _) rfl rfl ?_
       first
         | exact slX_oe (chX_e (by assumption))
         | exact slX_oe (chX_8 haz (by simp only [List.length_map] at *; omega))
         | exact slX_oe (chX_n haz (by omega) (fnd_end hinv (by omega)))
         | exact lt_out (SliceAt.to hihj55_0 (by rw [List.take_of_length_le hqe])) (chX_s haz (by omega) hcc)
    ·have hb42R := hb42; try simp only [zz] at hb42
     refine pwp_exit ?_
     refine exit_seq ?_
     clear hK41 K41
     refine exit_loop ?_
     refine exit_here ?_
     refine seq_norm (hK35 _ ?_); clear hK35 K35
     refine pwp_seq_plain rfl fun K69 hK69 => ?_
     refine p_e rfl (e_assign (v := .nil) rfl) ?_
     refine p_aS rfl ?_
     refine p_end (hK69 _ ?_); clear hK69 K69
     refine pwp_ret ?_
     refine end2 (v := .nil) (w := .sc _) rfl rfl ?_
     first
       | exact slX_oe (chX_e (by assumption))
       | exact slX_oe (chX_8 haz (by simp only [List.length_map] at *; omega))
       | exact slX_oe (chX_n haz (by omega) (fnd_end hinv (by omega)))

end Go.Proofs.YtindehoegfiiaaaGreatDoor
