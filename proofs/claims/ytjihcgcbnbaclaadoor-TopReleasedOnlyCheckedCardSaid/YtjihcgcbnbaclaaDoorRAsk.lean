import Derived.Test.YtjihcgcbnbaclaaDoorRRea
set_option linter.unusedSimpArgs false
set_option linter.unusedVariables false
set_option maxRecDepth 100000
namespace Go.Proofs.YtjihcgcbnbaclaaDoor.Y9
open Go Go.Pv Go.Proofs.YtjihcgcbnbaclaaDoor
structure RecOk (evs : List Ev) : Prop where
 len : evs.length ≤ 400
 ev : ∀ e ∈ evs, ¬ badEv e ∧ badNm e = false
 days : evs.Pairwise fun a b => a.day ≤ b.day
theorem goR_ok : ∀ (l pre : List Ev) (last : Int), goR pre last l = 0 → (∀ e ∈ l, ¬ badEv e ∧ badNm e = false ∧ last ≤ e.day) ∧ l.Pairwise fun a b => a.day ≤ b.day
 | [], _, _, _ => ⟨by simp, List.Pairwise.nil⟩
 | e :: l, pre, last, h => by
   unfold goR at h;split at h
   · rename_i hE;obtain ⟨h1, h2⟩ := goR_ok l _ _ h;have hb : ¬ badEv e := fun hc => by rw [evE_2 hc] at hE; cases hE
     have hd : ¬ e.day < last := fun hc => by rw [evE_10 hb hc] at hE; cases hE
     have hn : badNm e = false := by
       cases hq : badNm e with
       | false => rfl
       | true => rw [evE_4 hb hd hq] at hE; cases hE
     refine ⟨fun y hy => ?_, List.pairwise_cons.2 ⟨fun y hy => (h1 y hy).2.2, h2⟩⟩;rcases List.mem_cons.1 hy with rfl | hy
     · exact ⟨hb, hn, by omega⟩
     · have := h1 y hy;exact ⟨this.1, this.2.1, by omega⟩
   · rename_i hE; exact absurd h hE
theorem rec_ok {evs : List Ev} (h : recE evs = 0) : RecOk evs := by
 unfold recE at h;split at h
 · cases h
 · obtain ⟨h1, h2⟩ := goR_ok _ _ _ h;exact ⟨by omega, fun e he => ⟨(h1 e he).1, (h1 e he).2.1⟩, h2⟩
theorem RecOk.day {evs : List Ev} (h : RecOk evs) : ∀ e ∈ evs, 0 ≤ e.day ∧ e.day ≤ 20000 := fun e he => by
 have := (h.ev e he).1;unfold badEv at this; omega
theorem isNm_size {s : ByteArray} (h : isNm s = true) : 1 ≤ s.size ∧ s.size ≤ 12 := by
 simp only [isNm, decide_eq_true_eq] at h; exact ⟨h.1, h.2.1⟩
theorem RecOk.size {evs : List Ev} (h : RecOk evs) : ∀ e ∈ evs, e.platform.size ≤ 12 := fun e he => by
 have := (h.ev e he).2;unfold badNm at this;split at this
 · simp at this; rw [this]; decide
 · simp at this; exact (isNm_size this).2
theorem insp_step {p : ByteArray} {st : St} {x : Ev} (hs : -1 ≤ st.inspected ∧ st.inspected ≤ 20000) (hx : 0 ≤ x.day ∧ x.day ≤ 20000) : -1 ≤ (stepE p st x).inspected ∧ (stepE p st x).inspected ≤ 20000 := by
 have h1 : -1 ≤ inspE x ∧ inspE x ≤ 20000 := by unfold inspE; split <;> omega
 unfold stepE;by_cases h3 : x.kind = 3
 · simp only [if_pos h3];split
   · have e : takeE { st with inspected := -1 } x = { st with inspected := -1 } := by
       unfold takeE;rw [if_neg (by omega), if_neg (by omega), if_neg (by omega), if_neg (by omega), if_neg (by omega), if_neg (by omega)]
     rw [e]; exact ⟨by show (-1 : Int) ≤ -1; omega, by show (-1 : Int) ≤ 20000; omega⟩
   · exact ⟨by show (-1 : Int) ≤ -1; omega, by show (-1 : Int) ≤ 20000; omega⟩
 · simp only [if_neg h3];split
   · unfold takeE;split
     · exact hs
     · split
       · exact h1
       · split
         · exact h1
         · split
           · exact hs
           · split
             · exact hs
             · split <;> exact hs
   · exact hs
theorem insp_ok {p : ByteArray} {day : Int} : ∀ (l : List Ev) (st : St), (-1 ≤ st.inspected ∧ st.inspected ≤ 20000) → (∀ e ∈ l, 0 ≤ e.day ∧ e.day ≤ 20000) → -1 ≤ (stO p day st l).inspected ∧ (stO p day st l).inspected ≤ 20000
 | [], _, hs, _ => hs
 | x :: l, st, hs, hx => by
   unfold stO;split
   · exact hs
   · exact insp_ok l _ (insp_step hs (hx x (by simp))) fun e he => hx e (by simp [he])
theorem state_insp {p : ByteArray} {day : Int} {evs : List Ev} (h : ∀ e ∈ evs, 0 ≤ e.day ∧ e.day ≤ 20000) : -1 ≤ (stateE p day evs).inspected ∧ (stateE p day evs).inspected ≤ 20000 :=
 insp_ok evs St0 ⟨by decide, by decide⟩ h
theorem fr36 : (inFrame Tryd.f36.ntmps (Tryd.f36.body.getD .skip) && Tryd.f36.results.toList.all (resScope Tryd.f36.ntmps)) = true := by kernel_rfl
theorem reasonsOf (evs : List Ev) (p : ByteArray) (day : Int) (hl : evs.length ≤ 405) (hev : ∀ e ∈ evs, 0 ≤ e.day ∧ e.day ≤ 20000) (hday : 0 ≤ day ∧ day ≤ 20000) : PCalls Tryd.prog 36 [.lit true 6 (evs.map Ev.enc), .str p, .int day] (.lit false 1 ((reaE (stateE p day evs) day).map ci)) := by
 refine PCalls.of_code Tryd.func36 rfl rfl (by kernel_rfl) mixed fr36 (by show _ ≤ 14; simp) (.lit _ _ _ fun row hr => pure_map ci_pure row hr) (pwp_seq_plain rfl fun K1 hK1 => p_step rfl (e_assign (v := .nil) rfl) trivial (p_end (hK1 _ ?_))); clear hK1 K1;refine pwp_seq_plain rfl fun K2 hK2 => p_step rfl (e_move (v := .lit _ _ _) rfl) trivial (p_step rfl (e_move (v := .sc _) rfl) trivial (p_step rfl (e_move (v := .sc _) rfl) trivial (p_hcall rfl (stateOf evs p day hl) fun v3 h4 c5 hR6 => ?_)));obtain ⟨rfl, hm7⟩ := hR6;refine p_new rfl (e_alloc (cs := [.bool false, .bool false, .bool false, .int 0, .sc (.map none)]) (n := 5) (by kernel_rfl) rfl (by decide)) (ob_alloc (by decide)) (p_store rfl (e_storeA rfl (hset_self _ _ _) rfl rfl rfl (by kernel_rfl) rfl (by kernel_rfl)) trivial (p_end (hK2 _ ?_))); clear hK2 K2;refine pwp_seq_plain rfl fun K8 hK8 => p_step rfl (e_move (v := .sc _) rfl) trivial (p_hcall rfl (stReasons (stateE p day evs) day _ _ _ (hset_self _ _ _) (MapAt.keep hm7 ((hset_ne (key_ne rfl)).trans ((hset_ne (key_ne rfl)).trans (rfl)))) (state_insp hev).2 hday) fun v9 h10 c11 hR12 => p_step rfl (e_assign (v := _) rfl) trivial (p_end (hK8 _ ?_))); clear hK8 K8;refine pwp_ret (end1 (v := _) rfl ?_);exact out_slice (by assumption) rfl (fun _ => rfl) (fun a q hq => by simp [ci] at hq; subst hq; exact ⟨.sc _, rfl⟩)
def tagE : List Int → Int
 | [] => 2
 | a :: _ => if a = 4 then 1 else 0
theorem head_ex {l : List Int} (h : ¬ ((l.length : Nat) : Int) = 0) : ∃ x, l[0]? = some x := by
 cases l with
 | nil => simp at h
 | cons a l => exact ⟨a, rfl⟩
theorem tag_nil {l : List Int} (h : ((l.length : Nat) : Int) = 0) : 2 = tagE l := by
 cases l with
 | nil => rfl
 | cons a l => simp at h; omega
theorem tag_4 {l : List Int} {x : Int} (hx : l[0]? = some x) (h : x = 4) : 1 = tagE l := by
 cases l with
 | nil => cases hx
 | cons a l => cases hx; simp [tagE, h]
theorem tag_n {l : List Int} {x : Int} (hx : l[0]? = some x) (h : ¬ x = 4) : 0 = tagE l := by
 cases l with
 | nil => cases hx
 | cons a l => cases hx; simp [tagE, h]
theorem fr35 : (inFrame Tryd.f35.ntmps (Tryd.f35.body.getD .skip) && Tryd.f35.results.toList.all (resScope Tryd.f35.ntmps)) = true := by kernel_rfl
theorem tag (l : List Int) : PCalls Tryd.prog 35 [.lit true 1 (l.map ci)] (.int (tagE l)) := by
 refine PCalls.of_code Tryd.func35 rfl rfl (by kernel_rfl) mixed fr35 (by show _ ≤ 12; simp) (.sc _) (pwp_seq_plain rfl fun K1 hK1 => p_step rfl (e_assign (v := .sc _) rfl) trivial (p_end (hK1 _ ?_))); clear hK1 K1;refine pwp_seq_block fun K2 hK2 => pwp_seq_plain rfl fun K3 hK3 => p_step rfl (e_move (v := .lit _ _ _) rfl) trivial (p_step rfl (e_len rfl (by kernel_rfl)) trivial (p_step rfl (e_eq rfl rfl) trivial (p_step rfl (e_assign (v := .sc _) rfl) trivial (p_end (hK3 _ ?_))))); clear hK3 K3;refine pwp_cond rfl (fun hb4 => ?_) (fun hb4 => ?_)
 ·have hb4R := hb4; (try simp only [z1, z2, z3, z4, z5, z6, ne_eq, z7, z8, z9, z10, z11, z12] at hb4); (try (have hz := head_ex (l := l) hb4; obtain ⟨x, hx⟩ := hz));refine pwp_seq_plain rfl fun K5 hK5 => p_step rfl (e_assign (v := .sc _) rfl) trivial (p_end (hK5 _ ?_)); clear hK5 K5;refine pwp_ret (ret_block (ret_seq (end1 (v := .sc _) rfl ?_)))
  first
    | exact out_i (tag_nil (by assumption))
    | exact out_i (tag_4 hx (by assumption))
    | exact out_i (tag_n hx (by assumption))
 ·have hb4R := hb4; (try simp only [z1, z2, z3, z4, z5, z6, ne_eq, z7, z8, z9, z10, z11, z12] at hb4); (try (have hz := head_ex (l := l) hb4; obtain ⟨x, hx⟩ := hz));refine pwp_seq_plain rfl fun K6 hK6 => p_step rfl (e_move (v := .lit _ _ _) rfl) trivial ?_;refine p_step rfl (e_ixa rfl rfl (by kernel_rfl) (by kernel_rfl) (by (simp only [List.length_map]; have := (List.getElem?_eq_some_iff.1 hx).1; omega))) trivial ?_;refine p_step rfl (e_load (v := .sc _) rfl (by kernel_rfl) (by kernel_rfl) (by kernel_rfl) (by (simp only [List.length_map]; have := (List.getElem?_eq_some_iff.1 hx).1; omega)) (by decide) ((cell_map hx _).trans rfl)) trivial ?_;refine p_step rfl (e_eq rfl rfl) trivial (p_step rfl (e_assign (v := .sc _) rfl) trivial (p_end (hK6 _ ?_))); clear hK6 K6;refine pwp_cond rfl (fun hb7 => ?_) (fun hb7 => ?_)
  ·have hb7R := hb7; (try simp only [z1, z2, z3, z4, z5, z6, ne_eq, z7, z8, z9, z10, z11, z12] at hb7); (try (have hz := head_ex (l := l) hb7; obtain ⟨x, hx⟩ := hz));refine pwp_seq_plain rfl fun K8 hK8 => p_step rfl (e_assign (v := .sc _) rfl) trivial (p_end (hK8 _ ?_)); clear hK8 K8;refine pwp_ret (ret_block (ret_seq (end1 (v := .sc _) rfl ?_)))
   first
     | exact out_i (tag_nil (by assumption))
     | exact out_i (tag_4 hx (by assumption))
     | exact out_i (tag_n hx (by assumption))
  ·have hb7R := hb7; (try simp only [z1, z2, z3, z4, z5, z6, ne_eq, z7, z8, z9, z10, z11, z12] at hb7); (try (have hz := head_ex (l := l) hb7; obtain ⟨x, hx⟩ := hz));refine pwp_skip (block_norm (seq_norm (hK2 _ ?_))); clear hK2 K2;refine pwp_seq_plain rfl fun K9 hK9 => p_step rfl (e_assign (v := .sc _) rfl) trivial (p_end (hK9 _ ?_)); clear hK9 K9;refine pwp_ret (end1 (v := .sc _) rfl ?_)
   first
     | exact out_i (tag_nil (by assumption))
     | exact out_i (tag_4 hx (by assumption))
     | exact out_i (tag_n hx (by assumption))
def idxS (p : ByteArray) : Nat → List ByteArray → Int
 | _, [] => -1
 | k, a :: l => if p = a then (k : Int) else idxS p (k + 1) l
def hasS : List ByteArray → ByteArray → Bool
 | [], _ => false
 | a :: l, p => decide (p = a) || hasS l p
theorem hasS_iff {p : ByteArray} : ∀ {l : List ByteArray}, hasS l p = true ↔ p ∈ l
 | [] => by simp [hasS]
 | a :: l => by simp [hasS, hasS_iff (l := l)]
theorem idxS_mem (p : ByteArray) : ∀ (l : List ByteArray) (k : Nat), decide (0 ≤ idxS p k l) = hasS l p
 | [], _ => by simp [idxS, hasS]
 | a :: l, k => by
   unfold idxS hasS;by_cases h : p = a
   · rw [if_pos h]; simp [h]
   · rw [if_neg h, idxS_mem p l (k + 1)]; simp [h]
theorem idx_hit {S : Int} {p x : ByteArray} {k : Nat} {l : List ByteArray} (h : S = if p = x then (k : Int) else idxS p (k + 1) l) (hp : p = x) : (k : Int) = S := by rw [h, if_pos hp]
theorem idx_miss {S : Int} {p x : ByteArray} {k : Nat} {l : List ByteArray} (h : S = if p = x then (k : Int) else idxS p (k + 1) l) (hp : ¬ p = x) : S = idxS p (k + 1) l := by rw [h, if_neg hp]
theorem fr65 : (inFrame Tryd.f65.ntmps (Tryd.f65.body.getD .skip) && Tryd.f65.results.toList.all (resScope Tryd.f65.ntmps)) = true := by kernel_rfl
theorem IndexS (l : List ByteArray) (p : ByteArray) (hl : l.length ≤ 1000000) : PCalls Tryd.prog 65 [.lit true 1 (l.map cb), .str p] (.int (idxS p 0 l)) := by
 refine PCalls.of_code Tryd.func65 rfl rfl (by kernel_rfl) mixed fr65 (by show _ ≤ 19; simp) (.sc _) (pwp_seq_plain rfl fun K1 hK1 => p_step rfl (e_assign (v := .sc _) rfl) trivial (p_end (hK1 _ ?_))); clear hK1 K1;refine pwp_seq_seq (pwp_seq_plain rfl fun K2 hK2 => p_step rfl (e_move (v := .lit _ _ _) rfl) trivial (p_step rfl (e_len rfl (by kernel_rfl)) trivial (p_step rfl (e_move (v := .sc _) rfl) trivial (p_end (hK2 _ ?_))))); clear hK2 K2;refine pwp_seq_block fun K3 hK3 => pwp_loopR (α := Nat) [0, 1, 7] (fun (k : Nat) => [(8, .int (k))]) (fun (k : Nat) (h : Heap) (_ : Nat → Nat) => ((k) ≤ l.length) ∧ (idxS p 0 l = idxS p (k) (l.drop (k)))) (fun (k : Nat) => l.length - (k)) (0) (by exact ⟨rfl, trivial⟩) (by exact ⟨by exact Nat.zero_le _, by exact rfl⟩) fun k r4 h5 c6 hj7 => ?_;obtain ⟨hk, hinv⟩ := hj7;try dsimp only at hk
 try dsimp only at hinv
 show pwp _ _ (loopQ _ _ _) ⟨sets (mix _ _ _) [(8, .int k)], _, _⟩;refine pwp_seq_plain rfl fun K8 hK8 => p_step rfl (e_lt rfl rfl) trivial (p_end (hK8 _ ?_)); clear hK8 K8;refine pwp_seq_cond rfl fun K9 hK9 => ⟨fun hb10 => ?_, fun hb10 => ?_⟩
 ·have hb10R := hb10; try simp only [z1, z2, z3, z4, z5, z6, ne_eq, z7, z8, z9, z10, z11, z12] at hb10
  obtain ⟨x, hx, hd, ht⟩ := get_lt (xs := l) (i := k) (by omega);rw [hd] at hinv; simp only [idxS] at hinv;refine pwp_skip (seq_norm (hK9 _ ?_)); clear hK9 K9;refine pwp_seq_block fun K11 hK11 => pwp_seq_plain rfl fun K12 hK12 => p_step rfl (e_move (v := .sc _) rfl) trivial (p_step rfl (e_assign (v := .sc _) rfl) trivial (p_end (hK12 _ ?_))); clear hK12 K12;refine pwp_seq_plain rfl fun K13 hK13 => p_step rfl (e_move (v := .sc _) rfl) trivial (p_step rfl (e_move (v := .lit _ _ _) rfl) trivial (p_step rfl (e_move (v := .sc _) rfl) trivial (p_step rfl (e_ixa rfl rfl (by kernel_rfl) (by kernel_rfl) (by simp only [List.length_map]; omega)) trivial (p_step rfl (e_load (v := .sc _) rfl (by kernel_rfl) (by kernel_rfl) (by kernel_rfl) (by simp only [List.length_map]; omega) (by decide) ((cell_map hx _).trans rfl)) trivial (p_step rfl (e_seq rfl rfl) trivial (p_end (hK13 _ ?_))))))); clear hK13 K13;refine pwp_cond rfl (fun hb14 => ?_) (fun hb14 => ?_)
  ·have hb14R := hb14; try simp only [z1, z2, z3, z4, z5, z6, ne_eq, z7, z8, z9, z10, z11, z12] at hb14
   refine pwp_seq_plain rfl fun K15 hK15 => p_step rfl (e_move (v := .sc _) rfl) trivial (p_step rfl (e_assign (v := .sc _) rfl) trivial (p_end (hK15 _ ?_))); clear hK15 K15;refine pwp_ret (ret_block (ret_seq (ret_loop (ret_block (ret_seq (end1 (v := .sc _) rfl ?_))))))
   first
     | exact out_i (idx_hit hinv (by assumption))
     | exact out_i hinv.symm
  ·have hb14R := hb14; try simp only [z1, z2, z3, z4, z5, z6, ne_eq, z7, z8, z9, z10, z11, z12] at hb14
   refine pwp_skip (block_norm (seq_norm (hK11 _ ?_))); clear hK11 K11;refine pwp_plain rfl fun K16 hK16 => p_step rfl (e_add rfl rfl (by omega)) trivial (p_step rfl (e_move (v := .sc _) rfl) trivial (p_end (hK16 _ ?_))); clear hK16 K16;exact loop_again (k + 1) (by show _ < _; omega) ⟨rfl, rfl, rfl, trivial⟩ ⟨rfl, trivial⟩ (by exact ⟨by show _ + 1 ≤ _; omega, by exact idx_miss hinv (by assumption)⟩)
 ·have hb10R := hb10; try simp only [z1, z2, z3, z4, z5, z6, ne_eq, z7, z8, z9, z10, z11, z12] at hb10
  obtain rfl : k = l.length := by omega
  rw [List.drop_length] at hinv; simp only [idxS] at hinv;refine pwp_exit (exit_seq ?_);clear hK9 K9;refine exit_loop (exit_here (seq_norm (hK3 _ ?_))); clear hK3 K3;refine pwp_seq_plain rfl fun K17 hK17 => p_step rfl (e_assign (v := .sc _) rfl) trivial (p_end (hK17 _ ?_)); clear hK17 K17;refine pwp_ret (end1 (v := .sc _) rfl ?_)
  first
    | exact out_i (idx_hit hinv (by assumption))
    | exact out_i hinv.symm
theorem fr53 : (inFrame Tryd.f53.ntmps (Tryd.f53.body.getD .skip) && Tryd.f53.results.toList.all (resScope Tryd.f53.ntmps)) = true := by kernel_rfl
theorem ContainsS (l : List ByteArray) (p : ByteArray) (hl : l.length ≤ 1000000) : PCalls Tryd.prog 53 [.lit true 1 (l.map cb), .str p] (.bool (hasS l p)) := by
 refine PCalls.of_code Tryd.func53 rfl rfl (by kernel_rfl) mixed fr53 (by show _ ≤ 9; simp) (.sc _) (pwp_seq_plain rfl fun K1 hK1 => p_step rfl (e_assign (v := .sc _) rfl) trivial (p_end (hK1 _ ?_))); clear hK1 K1;refine pwp_seq_plain rfl fun K2 hK2 => p_step rfl (e_move (v := .lit _ _ _) rfl) trivial (p_step rfl (e_move (v := .sc _) rfl) trivial (p_call rfl (.cons inn_lit (.cons inn_sc .nil)) (IndexS _ _ (by first | omega | assumption)) (p_step rfl (e_ge rfl rfl) trivial (p_step rfl (e_assign (v := .sc _) rfl) trivial (p_end (hK2 _ ?_)))))); clear hK2 K2;refine pwp_ret (end1 (v := .sc _) rfl ?_);exact out_b (idxS_mem p l 0)
def kps (s : ByteArray) : PV := .str s
theorem kps_eq (a b : ByteArray) : keyEq (kps a) (kps b) = decide (a = b) := by
 simp only [kps, keyEq, scEq]
theorem kps_ok (a : ByteArray) : keyOk Tryd.prog 9 (kps a) := by
 show isStringTy Tryd.prog 9 = true;kernel_rfl
abbrev Nms := List (ByteArray × Bool)
def sortB (n : Nms) : List ByteArray := (sortS (n.map fun e => e.1.data.toList)).map fun s => ⟨s.toArray⟩
theorem strsOf_kps : ∀ (n : Nms), (∀ e ∈ n, e.1.size ≤ 1000000) → strsOf (entsOf kps PV.bool n) = some (n.map fun e => e.1.data.toList)
 | [], _ => rfl
 | e :: n, h => by
   have ih := strsOf_kps n fun x hx => h x (by simp [hx]);have h1 : e.1.data.size ≤ 1000000 := h e (by simp);show strsOf ((kps e.1, PV.bool e.2) :: entsOf kps PV.bool n) = _;simp only [strsOf, kps, ih];rw [show Nat.ble e.1.data.size 1000000 = true by rw [Nat.ble_eq]; exact h1];rfl
theorem sortedP {h : Heap} {c : Nat → Nat} {kb km : Key} {n : Nms} (hkb : h kb = some (.rows 1 [[.map km]])) (hm : MapAt h km (entsOf kps PV.bool n)) (hs : ∀ e ∈ n, e.1.size ≤ 1000000) (hl : n.length ≤ 1000000) :
   HCallsR Tryd.prog 66 [.func (.func 77) [] [.ptr kb 1 0 0]] h c fun v _ _ => v = .lit false 1 ((sortB n).map cb) := by
 obtain ⟨bs, clk, hm, _⟩ := hm;refine sorted_core2 hkb ⟨bs, clk, hm⟩ (strsOf_kps n hs) (by simpa [entsOf] using hl) ?_;simp only [strRows, sortB, List.map_map]; rfl
def platN (n : Nms) : List Ev → Nms
 | [] => n
 | x :: l => platN (if x.platform ≠ (⟨#[]⟩ : ByteArray) then aSet x.platform true n else n) l
def platE (evs : List Ev) : List ByteArray := sortB (platN [] evs)
theorem aSet_len {α β : Type} [DecidableEq α] (a : α) (b : β) : ∀ l : List (α × β), (aSet a b l).length ≤ l.length + 1
 | [] => by simp [aSet]
 | e :: l => by
   unfold aSet;split
   · simp
   · have := aSet_len a b l; simp; omega
theorem aSet_keys {α β : Type} [DecidableEq α] (a x : α) (b : β) : ∀ l : List (α × β), x ∈ (aSet a b l).map (·.1) ↔ x = a ∨ x ∈ l.map (·.1)
 | [] => by simp [aSet]
 | e :: l => by
   unfold aSet;split
   · rename_i h; simp [h]
   · have := aSet_keys a x b l;rw [List.map_cons, List.mem_cons, this, List.map_cons, List.mem_cons];constructor
     · rintro (h | h | h) <;> simp [h]
     · rintro (h | h | h) <;> simp [h]
theorem platN_len : ∀ (l : List Ev) (n : Nms), (platN n l).length ≤ n.length + l.length
 | [], n => by simp [platN]
 | x :: l, n => by
   unfold platN;have h1 := platN_len l (if x.platform ≠ (⟨#[]⟩ : ByteArray) then aSet x.platform true n else n)
   have h2 : (if x.platform ≠ (⟨#[]⟩ : ByteArray) then aSet x.platform true n else n).length ≤ n.length + 1 := by
     split
     · exact aSet_len _ _ _
     · omega
   rw [List.length_cons]; omega
theorem platN_mem (p : ByteArray) : ∀ (l : List Ev) (n : Nms), p ∈ (platN n l).map (·.1) ↔ p ∈ n.map (·.1) ∨ (p ≠ ⟨#[]⟩ ∧ ∃ e ∈ l, e.platform = p)
 | [], n => by simp [platN]
 | x :: l, n => by
   unfold platN;rw [platN_mem p l];by_cases hx : x.platform = (⟨#[]⟩ : ByteArray)
   · rw [if_neg (by simpa using hx)];constructor
     · rintro (h | ⟨h, e, he, h2⟩)
       · exact .inl h
       · exact .inr ⟨h, e, by simp [he], h2⟩
     · rintro (h | ⟨h, e, he, h2⟩)
       · exact .inl h
       · rcases List.mem_cons.1 he with rfl | he
         · exact absurd (h2.symm.trans hx) h
         · exact .inr ⟨h, e, he, h2⟩
   · rw [if_pos hx, aSet_keys];constructor
     · rintro ((h | h) | ⟨h, e, he, h2⟩)
       · exact .inr ⟨h ▸ hx, x, by simp, h.symm⟩
       · exact .inl h
       · exact .inr ⟨h, e, by simp [he], h2⟩
     · rintro (h | ⟨h, e, he, h2⟩)
       · exact .inl (.inr h)
       · rcases List.mem_cons.1 he with rfl | he
         · exact .inl (.inl h2.symm)
         · exact .inr ⟨h, e, he, h2⟩
theorem insS_perm (a : List UInt8) (l : List (List UInt8)) : (insS a l).Perm (a :: l) := by
 induction l with
 | nil => exact List.Perm.refl _
 | cons b l ih =>
   unfold insS;cases leS a b with
   | true => exact List.Perm.refl _
   | false => exact (ih.cons b).trans (List.Perm.swap a b l)
theorem sortS_perm (l : List (List UInt8)) : (sortS l).Perm l := by
 induction l with
 | nil => exact List.Perm.refl _
 | cons a l ih => exact (insS_perm a _).trans (ih.cons a)
theorem sortB_perm (n : Nms) : (sortB n).Perm (n.map (·.1)) := by
 unfold sortB;have h := (sortS_perm (n.map fun e => e.1.data.toList)).map fun s => (⟨s.toArray⟩ : ByteArray)
 refine h.trans ?_;rw [List.map_map];refine List.Perm.of_eq (List.map_congr_left fun e _ => ?_);simp
theorem plat_mem {evs : List Ev} {p : ByteArray} : p ∈ platE evs ↔ p ≠ ⟨#[]⟩ ∧ ∃ e ∈ evs, e.platform = p := by
 unfold platE;rw [(sortB_perm _).mem_iff, platN_mem];simp
theorem plat_len (evs : List Ev) (hl : evs.length ≤ 405) : (platE evs).length ≤ 1000000 := by
 have h1 := (sortB_perm (platN [] evs)).length_eq;have h2 := platN_len evs [];unfold platE;rw [h1, List.length_map]; simp at h2; omega
theorem plat_size {evs : List Ev} (h : ∀ e ∈ evs, e.platform.size ≤ 12) : ∀ e ∈ platN [] evs, e.1.size ≤ 1000000 := fun e he => by
 have := (platN_mem e.1 evs []).1 (List.mem_map_of_mem he);rcases this with h1 | ⟨_, x, hx, h2⟩
 · cases h1
 · rw [← h2]; have := h x hx; omega
def mkR (h0 : Heap) (c0 : Nat → Nat) (v : PV) (h : Heap) : Prop := v = .func (.func 77) [] [.ptr (1, c0 1) 1 0 0] ∧ h (1, c0 1) = some (.rows 1 [[.map (6, 0)]]) ∧ ∀ a b, Nat.beq a 1 = false → h (a, b) = h0 (a, b)
theorem frH67 : (inFrame Tryd.f67.ntmps (Tryd.f67.body.getD .skip) && Tryd.f67.results.toList.all (resScope Tryd.f67.ntmps)) = true := by kernel_rfl
theorem mapsKeys (h0 : Heap) (c0 : Nat → Nat) : HCallsR Tryd.prog 67 [.map (6, 0)] h0 c0 (fun v h _ => mkR h0 c0 v h) := by
 refine HCallsR.of_code Tryd.func67 rfl rfl (by kernel_rfl) mixed frH67 (by show _ ≤ 4; simp) (pwp_seq_plain rfl fun K1 hK1 => p_new rfl (e_box1 rfl rfl) ⟨rfl, by decide⟩ (p_step rfl (e_assign (v := .sc _) rfl) trivial (p_end (hK1 _ ?_)))); clear hK1 K1;refine pwp_seq_plain rfl fun K2 hK2 => p_step rfl (e_mkf rfl) trivial (p_step rfl (e_assign (v := .func _ _ _) rfl) trivial (p_end (hK2 _ ?_))); clear hK2 K2;refine pwp_ret (end1 (v := .func _ _ _) rfl ?_);exact ⟨rfl, (hset_self _ _ _), fun a b h1 => by simp only [hset_ne (key_ne h1)]⟩
theorem fr54 : (inFrame Tryd.f54.ntmps (Tryd.f54.body.getD .skip) && Tryd.f54.results.toList.all (resScope Tryd.f54.ntmps)) = true := by kernel_rfl
theorem platforms (evs : List Ev) (hl : evs.length ≤ 405) (hs : ∀ e ∈ evs, e.platform.size ≤ 12) : PCalls Tryd.prog 54 [.lit true 6 (evs.map Ev.enc)] (.lit false 1 ((platE evs).map cb)) := by
 refine PCalls.of_code Tryd.func54 rfl rfl (by kernel_rfl) mixed fr54 (by show _ ≤ 23; simp) (.lit _ _ _ fun row hr => pure_map cb_pure row hr) (pwp_seq_plain rfl fun K1 hK1 => p_step rfl (e_assign (v := .nil) rfl) trivial (p_end (hK1 _ ?_))); clear hK1 K1;refine pwp_seq_plain rfl fun K2 hK2 => p_new rfl (e_mkmap) trivial (p_step rfl (e_assign (v := .map _) rfl) trivial (p_end (hK2 _ ?_))); clear hK2 K2;refine pwp_seq_seq (pwp_seq_plain rfl fun K3 hK3 => p_step rfl (e_move (v := .lit _ _ _) rfl) trivial (p_step rfl (e_len rfl (by kernel_rfl)) trivial (p_step rfl (e_move (v := .sc _) rfl) trivial (p_end (hK3 _ ?_))))); clear hK3 K3;refine pwp_seq_block fun K4 hK4 => pwp_loopR (α := Nat × Nms) [3, 7, 8] (fun (a5 : Nat × Nms) => [(9, .int (a5.1))]) (fun (a5 : Nat × Nms) (h : Heap) (_ : Nat → Nat) => ((a5.1) ≤ evs.length) ∧ (platN [] evs = platN (a5.2) (evs.drop (a5.1))) ∧ (MapAt h (6, 0) (entsOf kps PV.bool (a5.2)))) (fun (a5 : Nat × Nms) => evs.length - (a5.1)) (0, []) (by exact ⟨rfl, trivial⟩) (by exact ⟨by exact Nat.zero_le _, by exact rfl, MapAt.new⟩) fun a5 r6 h7 c8 hj9 => ?_;obtain ⟨k, nm⟩ := a5;obtain ⟨hk, hinv, hihj9_0⟩ := hj9;try dsimp only at hk
 try dsimp only at hinv
 try dsimp only at hihj9_0
 show pwp _ _ (loopQ _ _ _) ⟨sets (mix _ _ _) [(9, .int k)], _, _⟩;refine pwp_seq_plain rfl fun K10 hK10 => p_step rfl (e_lt rfl rfl) trivial (p_end (hK10 _ ?_)); clear hK10 K10;refine pwp_seq_cond rfl fun K11 hK11 => ⟨fun hb12 => ?_, fun hb12 => ?_⟩
 ·have hb12R := hb12; try simp only [z1, z2, z3, z4, z5, z6, ne_eq, z7, z8, z9, z10, z11, z12] at hb12
  obtain ⟨x, hx, hd, ht⟩ := get_lt (xs := evs) (i := k) (by omega);rw [hd] at hinv; simp only [platN] at hinv;refine pwp_skip (seq_norm (hK11 _ ?_)); clear hK11 K11;refine pwp_seq_block fun K13 hK13 => pwp_seq_plain rfl fun K14 hK14 => p_step rfl (e_ixa rfl rfl (by kernel_rfl) (by kernel_rfl) (by simp only [List.length_map]; omega)) trivial (p_step rfl (e_loadA (n := 6) rfl (by kernel_rfl) (by kernel_rfl) (by kernel_rfl) (by simp only [List.length_map]; omega) (by decide) (by first | exact agg_map hx rfl)) trivial (p_new rfl (e_alloc (cs := [.int 0, .int 0, .str ByteArray.empty, .int 0, .bool false, .bool false]) (n := 6) (by kernel_rfl) rfl (by decide)) (ob_alloc (by decide)) (p_store rfl (e_storeA rfl (hset_self _ _ _) rfl rfl rfl (by kernel_rfl) rfl (by kernel_rfl)) trivial (p_end (hK14 _ ?_))))); clear hK14 K14;refine pwp_seq_plain rfl fun K15 hK15 => p_step rfl (e_faP (pl := [(0, 1, false), (1, 1, false), (2, 1, false), (3, 1, false), (4, 1, false), (5, 1, false)]) rfl (by kernel_rfl) (by kernel_rfl) (by decide) rfl) trivial (p_step rfl (e_loadH (v := .sc _) rfl (hset_self _ _ _) (by kernel_rfl) (by kernel_rfl) (by kernel_rfl) (by exact Nat.zero_lt_one) (by decide) rfl) trivial (p_step rfl (e_sne rfl rfl) trivial (p_end (hK15 _ ?_)))); clear hK15 K15;refine pwp_cond rfl (fun hb16 => ?_) (fun hb16 => ?_)
  ·have hb16R := hb16; try simp only [z1, z2, z3, z4, z5, z6, ne_eq, z7, z8, z9, z10, z11, z12] at hb16
   refine pwp_plain rfl fun K17 hK17 => p_step rfl (e_move (v := .map _) rfl) trivial (p_step rfl (e_faP (pl := [(0, 1, false), (1, 1, false), (2, 1, false), (3, 1, false), (4, 1, false), (5, 1, false)]) rfl (by kernel_rfl) (by kernel_rfl) (by decide) rfl) trivial (p_step rfl (e_loadH (v := .sc _) rfl (hset_self _ _ _) (by kernel_rfl) (by kernel_rfl) (by kernel_rfl) (by exact Nat.zero_lt_one) (by decide) rfl) trivial (p_store rfl (e_mset (kt := 9) (et := 4) (f := kps) (g := PV.bool) (a := x.platform) (b := true) (l := nm) kps_eq kps_ok rfl rfl rfl rfl (MapAt.keep hihj9_0 ((hset_ne (key_ne rfl)).trans ((hset_ne (key_ne rfl)).trans (rfl)))) (by kernel_rfl)) trivial (p_end (hK17 _ ?_))))); clear hK17 K17;refine block_norm (seq_norm (hK13 _ ?_)); clear hK13 K13;refine pwp_plain rfl fun K18 hK18 => p_step rfl (e_add rfl rfl (by omega)) trivial (p_step rfl (e_move (v := .sc _) rfl) trivial (p_end (hK18 _ ?_))); clear hK18 K18;exact loop_again ((k + 1, (aSet x.platform true nm))) (by show _ < _; simp only; omega) ⟨rfl, rfl, rfl, trivial⟩ ⟨rfl, trivial⟩ (by exact ⟨by show _ + 1 ≤ _; omega, by first | (rw [if_pos (by assumption)] at hinv; exact hinv) | (rw [if_neg (by simpa using (by assumption))] at hinv; exact hinv), (MapAt.set kps_eq (MapAt.keep hihj9_0 ((hset_ne (key_ne rfl)).trans ((hset_ne (key_ne rfl)).trans (rfl)))) x.platform true)⟩)
  ·have hb16R := hb16; try simp only [z1, z2, z3, z4, z5, z6, ne_eq, z7, z8, z9, z10, z11, z12] at hb16
   refine pwp_skip (block_norm (seq_norm (hK13 _ ?_))); clear hK13 K13;refine pwp_plain rfl fun K19 hK19 => p_step rfl (e_add rfl rfl (by omega)) trivial (p_step rfl (e_move (v := .sc _) rfl) trivial (p_end (hK19 _ ?_))); clear hK19 K19;exact loop_again ((k + 1, nm)) (by show _ < _; simp only; omega) ⟨rfl, rfl, rfl, trivial⟩ ⟨rfl, trivial⟩ (by exact ⟨by show _ + 1 ≤ _; omega, by first | (rw [if_pos (by assumption)] at hinv; exact hinv) | (rw [if_neg (by simpa using (by assumption))] at hinv; exact hinv), (MapAt.keep hihj9_0 ((hset_ne (key_ne rfl)).trans ((hset_ne (key_ne rfl)).trans (rfl))))⟩)
 ·have hb12R := hb12; try simp only [z1, z2, z3, z4, z5, z6, ne_eq, z7, z8, z9, z10, z11, z12] at hb12
  obtain rfl : k = evs.length := by omega
  rw [List.drop_length] at hinv; simp only [platN] at hinv;have hsz := plat_size hs; rw [hinv] at hsz;have hlz : nm.length ≤ 1000000 := by have := platN_len evs []; rw [hinv] at this; simp at this; omega
  refine pwp_exit (exit_seq ?_);clear hK11 K11;refine exit_loop (exit_here (seq_norm (hK4 _ ?_))); clear hK4 K4;refine pwp_seq_plain rfl fun K20 hK20 => p_step rfl (e_move (v := .map _) rfl) trivial (p_hcall rfl (mapsKeys _ _) fun v21 h22 c23 hR24 => ?_);obtain ⟨rfl, hb25, hf26⟩ := hR24;refine p_hcall rfl (sortedP hb25 (MapAt.keep hihj9_0 (hf26 6 _ rfl)) hsz hlz) fun v27 h28 c29 hR30 => ?_;obtain rfl := hR30;refine p_step rfl (e_assign (v := .lit _ _ _) rfl) trivial (p_end (hK20 _ ?_)); clear hK20 K20;refine pwp_ret (end1 (v := .lit _ _ _) rfl ?_);rw [platE, hinv];exact .clean (clean_rows fun a p hp => (cb_clean a p hp).1)
def askE (evs : List Ev) (p : ByteArray) (day : Int) : Int :=
 if recE evs ≠ 0 then recE evs else if ¬ (0 ≤ day ∧ day ≤ 20000) then 2 else if hasS (platE evs) p = false then 6 else 0
theorem ask_1 {evs : List Ev} {p : ByteArray} {day : Int} (h : ¬ recE evs = 0) : recE evs = askE evs p day := by rw [askE, if_pos h]
theorem ask_2 {evs : List Ev} {p : ByteArray} {day : Int} (h : recE evs = 0) (h1 : ¬ (0 ≤ day ∧ day ≤ 20000)) : 2 = askE evs p day := by rw [askE, if_neg (by simpa using h), if_pos h1]
theorem ask_6 {evs : List Ev} {p : ByteArray} {day : Int} (h : recE evs = 0) (h1 : 0 ≤ day ∧ day ≤ 20000) (h2 : hasS (platE evs) p = false) : 6 = askE evs p day := by rw [askE, if_neg (by simpa using h), if_neg (by simpa using h1), if_pos h2]
theorem ask_0 {evs : List Ev} {p : ByteArray} {day : Int} (h : recE evs = 0) (h1 : 0 ≤ day ∧ day ≤ 20000) (h2 : hasS (platE evs) p = true) : 0 = askE evs p day := by rw [askE, if_neg (by simpa using h), if_neg (by simpa using h1), if_neg (by simp [h2])]
theorem ask_inv {evs : List Ev} {p : ByteArray} {day : Int} (h : askE evs p day = 0) : recE evs = 0 ∧ (0 ≤ day ∧ day ≤ 20000) ∧ hasS (platE evs) p = true := by
 unfold askE at h;split at h
 · rename_i h1; exact absurd h h1
 · rename_i h1;split at h
   · cases h
   · rename_i h2;split at h
     · cases h
     · rename_i h3;exact ⟨by simpa using h1, by simpa using h2, by simpa using h3⟩
theorem ask_evs {evs : List Ev} {p : ByteArray} {day : Int} (h : askE evs p day = 0) : ∀ e ∈ evs, 0 ≤ e.day ∧ e.day ≤ 20000 := (rec_ok (ask_inv h).1).day
theorem ask_day {evs : List Ev} {p : ByteArray} {day : Int} (h : askE evs p day = 0) : 0 ≤ day ∧ day ≤ 20000 := (ask_inv h).2.1
def tagT (evs : List Ev) (p : ByteArray) (day : Int) : Int := if askE evs p day = 0 then tagE (reaE (stateE p day evs) day) else 0
theorem fr34 : (inFrame Tryd.f34.ntmps (Tryd.f34.body.getD .skip) && Tryd.f34.results.toList.all (resScope Tryd.f34.ntmps)) = true := by kernel_rfl
theorem asked (evs : List Ev) (p : ByteArray) (day : Int) (hl : evs.length ≤ 405) : PCalls Tryd.prog 34 [.lit true 6 (evs.map Ev.enc), .str p, .int day] (.int (askE evs p day)) := by
 refine PCalls.of_code Tryd.func34 rfl rfl (by kernel_rfl) mixed fr34 (by show _ ≤ 23; simp) (.sc _) (pwp_seq_plain rfl fun K1 hK1 => p_step rfl (e_assign (v := .sc _) rfl) trivial (p_end (hK1 _ ?_))); clear hK1 K1;refine pwp_seq_seq (pwp_seq_plain rfl fun K2 hK2 => p_step rfl (e_move (v := .lit _ _ _) rfl) trivial (p_call rfl (.cons inn_lit .nil) (CheckRecord _ (by first | omega | (simp only [List.length_set]; omega) | (simp only [List.length_take]; omega))) (p_step rfl (e_assign (v := .sc _) rfl) trivial (p_end (hK2 _ ?_))))); clear hK2 K2;refine pwp_seq_seq (pwp_seq_plain rfl fun K3 hK3 => p_step rfl (e_move (v := .sc _) rfl) trivial (p_step rfl (e_ne rfl rfl) trivial (p_end (hK3 _ ?_)))); clear hK3 K3;refine pwp_seq_cond rfl fun K4 hK4 => ⟨fun hb5 => ?_, fun hb5 => ?_⟩
 ·have hb5R := hb5; try simp only [z1, z2, z3, z4, z5, z6, ne_eq, z7, z8, z9, z10, z11, z12] at hb5
  refine pwp_seq_plain rfl fun K6 hK6 => p_step rfl (e_move (v := .sc _) rfl) trivial (p_step rfl (e_assign (v := .sc _) rfl) trivial (p_end (hK6 _ ?_))); clear hK6 K6;refine pwp_ret (ret_seq (end1 (v := .sc _) rfl ?_))
  first
    | exact out_i (ask_1 (by assumption))
    | exact out_i (ask_2 (by assumption) (by omega))
    | exact out_i (ask_2 (by assumption) (by assumption))
    | exact out_i (ask_6 (by assumption) (by first | omega | assumption) (by assumption))
    | exact out_i (ask_0 (by assumption) (by first | omega | assumption) (by assumption))
 ·have hb5R := hb5; try simp only [z1, z2, z3, z4, z5, z6, ne_eq, z7, z8, z9, z10, z11, z12] at hb5
  refine pwp_skip (seq_norm (hK4 _ ?_)); clear hK4 K4;refine pwp_seq_block fun K7 hK7 => pwp_seq_plain rfl fun K8 hK8 => p_step rfl (e_move (v := .sc _) rfl) trivial (p_call rfl (.cons inn_sc .nil) (isDay _) (p_step rfl (e_not rfl) trivial (p_step rfl (e_assign (v := .sc _) rfl) trivial (p_end (hK8 _ ?_))))); clear hK8 K8;refine pwp_cond rfl (fun hb9 => ?_) (fun hb9 => ?_)
  ·have hb9R := hb9; try simp only [z1, z2, z3, z4, z5, z6, ne_eq, z7, z8, z9, z10, z11, z12] at hb9
   refine pwp_seq_plain rfl fun K10 hK10 => p_step rfl (e_assign (v := .sc _) rfl) trivial (p_end (hK10 _ ?_)); clear hK10 K10;refine pwp_ret (ret_block (ret_seq (end1 (v := .sc _) rfl ?_)))
   first
     | exact out_i (ask_1 (by assumption))
     | exact out_i (ask_2 (by assumption) (by omega))
     | exact out_i (ask_2 (by assumption) (by assumption))
     | exact out_i (ask_6 (by assumption) (by first | omega | assumption) (by assumption))
     | exact out_i (ask_0 (by assumption) (by first | omega | assumption) (by assumption))
  ·have hb9R := hb9; try simp only [z1, z2, z3, z4, z5, z6, ne_eq, z7, z8, z9, z10, z11, z12] at hb9
   refine pwp_seq_plain rfl fun K11 hK11 => p_step rfl (e_move (v := .lit _ _ _) rfl) trivial (p_call rfl (.cons inn_lit .nil) (platforms _ (by first | omega | (simp only [List.length_set]; omega) | (simp only [List.length_take]; omega)) (by first | assumption | exact (rec_ok (by assumption)).size)) (p_step rfl (e_move (v := .sc _) rfl) trivial (p_call rfl (.cons inn_lit (.cons inn_sc .nil)) (ContainsS _ _ (by first | omega | assumption | exact plat_len _ (by assumption))) (p_step rfl (e_not rfl) trivial (p_step rfl (e_assign (v := .sc _) rfl) trivial (p_end (hK11 _ ?_))))))); clear hK11 K11;refine pwp_cond rfl (fun hb12 => ?_) (fun hb12 => ?_)
   ·have hb12R := hb12; try simp only [z1, z2, z3, z4, z5, z6, ne_eq, z7, z8, z9, z10, z11, z12] at hb12
    refine pwp_seq_plain rfl fun K13 hK13 => p_step rfl (e_assign (v := .sc _) rfl) trivial (p_end (hK13 _ ?_)); clear hK13 K13;refine pwp_ret (ret_block (ret_seq (end1 (v := .sc _) rfl ?_)))
    first
      | exact out_i (ask_1 (by assumption))
      | exact out_i (ask_2 (by assumption) (by omega))
      | exact out_i (ask_2 (by assumption) (by assumption))
      | exact out_i (ask_6 (by assumption) (by first | omega | assumption) (by assumption))
      | exact out_i (ask_0 (by assumption) (by first | omega | assumption) (by assumption))
   ·have hb12R := hb12; try simp only [z1, z2, z3, z4, z5, z6, ne_eq, z7, z8, z9, z10, z11, z12] at hb12
    refine pwp_skip (block_norm (seq_norm (hK7 _ ?_))); clear hK7 K7;refine pwp_seq_plain rfl fun K14 hK14 => p_step rfl (e_assign (v := .sc _) rfl) trivial (p_end (hK14 _ ?_)); clear hK14 K14;refine pwp_ret (end1 (v := .sc _) rfl ?_)
    first
      | exact out_i (ask_1 (by assumption))
      | exact out_i (ask_2 (by assumption) (by omega))
      | exact out_i (ask_2 (by assumption) (by assumption))
      | exact out_i (ask_6 (by assumption) (by first | omega | assumption) (by assumption))
      | exact out_i (ask_0 (by assumption) (by first | omega | assumption) (by assumption))
theorem tup_ii (a b : Int) : Pure (.tup [.int a, .int b]) := .tup _ fun p hp => by
 simp at hp; rcases hp with rfl | rfl <;> exact .sc _
theorem fr17 : (inFrame Tryd.f17.ntmps (Tryd.f17.body.getD .skip) && Tryd.f17.results.toList.all (resScope Tryd.f17.ntmps)) = true := by kernel_rfl
theorem Tag (evs : List Ev) (p : ByteArray) (day : Int) (hl : evs.length ≤ 405) : PCalls Tryd.prog 17 [.lit true 6 (evs.map Ev.enc), .str p, .int day] (.tup [.int (tagT evs p day), .int (askE evs p day)]) := by
 refine PCalls.of_code Tryd.func17 rfl rfl (by kernel_rfl) mixed fr17 (by show _ ≤ 21; simp) (tup_ii _ _) (pwp_seq_plain rfl fun K1 hK1 => p_step rfl (e_assign (v := .sc _) rfl) trivial (p_step rfl (e_assign (v := .sc _) rfl) trivial (p_end (hK1 _ ?_)))); clear hK1 K1;refine pwp_seq_seq (pwp_seq_plain rfl fun K2 hK2 => p_step rfl (e_move (v := .lit _ _ _) rfl) trivial (p_step rfl (e_move (v := .sc _) rfl) trivial (p_step rfl (e_move (v := .sc _) rfl) trivial (p_call rfl (.cons inn_lit (.cons inn_sc (.cons inn_sc .nil))) (asked _ _ _ (by first | omega | (simp only [List.length_set]; omega) | (simp only [List.length_take]; omega))) (p_step rfl (e_assign (v := .sc _) rfl) trivial (p_end (hK2 _ ?_))))))); clear hK2 K2;refine pwp_seq_seq (pwp_seq_plain rfl fun K3 hK3 => p_step rfl (e_move (v := .sc _) rfl) trivial (p_step rfl (e_ne rfl rfl) trivial (p_end (hK3 _ ?_)))); clear hK3 K3;refine pwp_seq_cond rfl fun K4 hK4 => ⟨fun hb5 => ?_, fun hb5 => ?_⟩
 ·have hb5R := hb5; try simp only [z1, z2, z3, z4, z5, z6, ne_eq, z7, z8, z9, z10, z11, z12] at hb5
  refine pwp_seq_plain rfl fun K6 hK6 => p_step rfl (e_move (v := .sc _) rfl) trivial (p_step rfl (e_assign (v := .sc _) rfl) trivial (p_step rfl (e_assign (v := .sc _) rfl) trivial (p_end (hK6 _ ?_)))); clear hK6 K6;refine pwp_ret (ret_seq (end2 (v := .sc _) (w := .sc _) rfl rfl ?_))
  first
    | exact out_2 (out_i (by rw [tagT, if_neg (by assumption)])) (out_i rfl)
    | exact out_2 (out_i (by rw [tagT, if_pos (by assumption)])) (out_i (by symm; assumption))
 ·have hb5R := hb5; try simp only [z1, z2, z3, z4, z5, z6, ne_eq, z7, z8, z9, z10, z11, z12] at hb5
  refine pwp_skip (seq_norm (hK4 _ ?_)); clear hK4 K4;refine pwp_seq_plain rfl fun K7 hK7 => p_step rfl (e_move (v := .lit _ _ _) rfl) trivial (p_step rfl (e_move (v := .sc _) rfl) trivial (p_step rfl (e_move (v := .sc _) rfl) trivial (p_call rfl (.cons inn_lit (.cons inn_sc (.cons inn_sc .nil))) (reasonsOf _ _ _ (by first | omega | (simp only [List.length_set]; omega) | (simp only [List.length_take]; omega)) (by first | assumption | exact ask_evs (by assumption) | exact (rec_ok (by assumption)).day) (by first | omega | exact ask_day (by assumption))) (p_call rfl (.cons inn_lit .nil) (tag _) (p_step rfl (e_assign (v := .sc _) rfl) trivial (p_step rfl (e_assign (v := .sc _) rfl) trivial ?_))))));refine p_end (hK7 _ ?_); clear hK7 K7;refine pwp_ret (end2 (v := .sc _) (w := .sc _) rfl rfl ?_)
  first
    | exact out_2 (out_i (by rw [tagT, if_neg (by assumption)])) (out_i rfl)
    | exact out_2 (out_i (by rw [tagT, if_pos (by assumption)])) (out_i (by symm; assumption))
end Go.Proofs.YtjihcgcbnbaclaaDoor.Y9
