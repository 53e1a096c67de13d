import Derived.Test.YtjihcgcbnbaclaaDoorRTerms
import Derived.Test.YtjihcgcbnbaclaaDoorRDatA
import Derived.Test.YtjihcgcbnbaclaaDoorPvGh
set_option linter.unusedSimpArgs false
set_option linter.unusedVariables false
set_option maxRecDepth 100000
namespace Go.Proofs.YtjihcgcbnbaclaaDoor.Y9
open Go Go.Pv Go.Proofs.YtjihcgcbnbaclaaDoor
theorem lot_clean (a : Lot) (q : PV) (hq : q ∈ a.enc) : Go.Pv.Clean q ∧ q.cell = true := by
 simp only [Lot.enc, List.mem_cons, List.not_mem_nil, or_false] at hq;rcases hq with rfl | rfl | rfl | rfl | rfl <;> exact ⟨.sc _, rfl⟩
end Go.Proofs.YtjihcgcbnbaclaaDoor.Y9

set_option linter.unusedSimpArgs false
set_option linter.unusedVariables false
set_option maxRecDepth 100000
namespace Go.Proofs.YtjihcgcbnbaclaaDoor.Y9
open Go Go.Pv Go.Proofs.YtjihcgcbnbaclaaDoor
def okM (m : Move) : Prop := (0 ≤ m.kind ∧ m.kind ≤ 2) ∧ 0 ≤ m.count ∧ m.count ≤ 100000
def cntStep (p : ByteArray) (cs : List Int) (m : Move) : List Int := if m.part = p then cs.set m.kind.toNat (cs.getD m.kind.toNat 0 + m.count) else cs
def cntL (p : ByteArray) (ms : List Move) : List Int := ms.foldl (cntStep p) [0, 0, 0]
theorem cntStep_len (p : ByteArray) (cs : List Int) (m : Move) : (cntStep p cs m).length = cs.length := by unfold cntStep; split <;> simp
theorem cntL_len (p : ByteArray) (ms : List Move) : (cntL p ms).length = 3 := by
 have : ∀ (l : List Move) (cs : List Int), (l.foldl (cntStep p) cs).length = cs.length := by
   intro l;induction l with
   | nil => intro cs; rfl
   | cons m l ih => intro cs; rw [List.foldl_cons, ih, cntStep_len]
 exact this ms _
section
variable {p : ByteArray} {cs : List Int} {x : Move} {k : Nat}
theorem cs_bnd (hb : ∀ c ∈ cs, 0 ≤ c ∧ c ≤ 100000 * (k : Int)) (hc : cs.length = 3) (hx : okM x) : 0 ≤ cs.getD x.kind.toNat 0 ∧ cs.getD x.kind.toNat 0 ≤ 100000 * (k : Int) := by
 have h := hx.1;have h2 : x.kind.toNat < cs.length := by omega
 rw [List.getD_eq_getElem?_getD, List.getElem?_eq_getElem h2];exact hb _ (List.getElem_mem h2)
theorem cs_next (hb : ∀ c ∈ cs, 0 ≤ c ∧ c ≤ 100000 * (k : Int)) (hc : cs.length = 3) (hx : okM x) : ∀ c ∈ cntStep p cs x, 0 ≤ c ∧ c ≤ 100000 * ((k + 1 : Nat) : Int) := by
 have h0 := cs_bnd hb hc hx;have h1 := hx.2;intro c hcm;unfold cntStep at hcm;split at hcm
 · rcases List.mem_or_eq_of_mem_set hcm with h | h
   · have := hb c h; omega
   · rw [h]; omega
 · have := hb c hcm; omega
end
end Go.Proofs.YtjihcgcbnbaclaaDoor.Y9

set_option linter.unusedSimpArgs false
set_option linter.unusedVariables false
set_option maxRecDepth 100000
namespace Go.Proofs.YtjihcgcbnbaclaaDoor.Y9
open Go Go.Pv Go.Proofs.YtjihcgcbnbaclaaDoor
theorem cnt_all {p : ByteArray} : ∀ (l : List Move) (cs : List Int) (k : Nat), cs.length = 3 → (∀ c ∈ cs, 0 ≤ c ∧ c ≤ 100000 * (k : Int)) → (∀ m ∈ l, okM m) → ∀ c ∈ l.foldl (cntStep p) cs, 0 ≤ c ∧ c ≤ 100000 * ((k + l.length : Nat) : Int)
 | [], _, _, _, hb, _ => hb
 | m :: l, cs, k, hc, hb, hok => by
   have h1 := cnt_all (p := p) l (cntStep p cs m) (k + 1) ((cntStep_len p cs m).trans hc) (cs_next hb hc (hok m (by simp))) fun x hx => hok x (by simp [hx]);rw [List.foldl_cons];intro c hcm;have := h1 c hcm;rw [List.length_cons];omega
theorem cnt_bnd {p : ByteArray} {l : List Move} (hok : ∀ m ∈ l, okM m) (hl : l.length ≤ 305) (j : Nat) : 0 ≤ (cntL p l).getD j 0 ∧ (cntL p l).getD j 0 ≤ 30500000 := by
 rw [List.getD_eq_getElem?_getD];cases hq : (cntL p l)[j]? with
 | none => simp
 | some c =>
   have := cnt_all l [0, 0, 0] 0 rfl (by intro c hc; simp at hc; omega) hok c (List.mem_of_getElem? hq);simp only [Option.getD_some];omega
def badM (m : Move) : Prop := ¬ (0 ≤ m.day ∧ m.day ≤ 20000) ∨ ¬ (0 ≤ m.kind ∧ m.kind ≤ 2) ∨ ¬ (1 ≤ m.count ∧ m.count ≤ 100000)
instance (m : Move) : Decidable (badM m) := inferInstanceAs (Decidable (_ ∨ _))
def stkL (pre : List Move) (p : ByteArray) : Int := (cntL p pre).getD 0 0 - (cntL p pre).getD 1 0 - (cntL p pre).getD 2 0
def mvE (ts : List Term) (pre : List Move) (last : Int) (m : Move) : Int :=
 if badM m then 2 else if m.day < last then 10 else if termIx ts m.part < 0 then 6 else if m.kind ≠ 0 ∧ stkL pre m.part < m.count then 22 else 0
def goM (ts : List Term) : List Move → Int → List Move → Int
 | _, _, [] => 0
 | pre, last, m :: l => if mvE ts pre last m = 0 then goM ts (pre ++ [m]) m.day l else mvE ts pre last m
def movE (ts : List Term) (ms : List Move) : Int := if 300 < ms.length then 8 else goM ts [] 0 ms
theorem movE_big {ts : List Term} {ms : List Move} (h : 300 < ms.length) : 8 = movE ts ms := by rw [movE, if_pos h]
theorem movE_go {ts : List Term} {ms : List Move} {z : Int} (h : ms.length ≤ 300) (h2 : goM ts [] 0 ms = z) : z = movE ts ms := by rw [movE, if_neg (by omega), h2]
section
variable {ts : List Term} {ms pre l : List Move} {m : Move} {last z : Int} {k : Nat}
theorem mvE_2 (h : badM m) : mvE ts pre last m = 2 := by rw [mvE, if_pos h]
theorem mvE_10 (h : ¬ badM m) (h1 : m.day < last) : mvE ts pre last m = 10 := by rw [mvE, if_neg h, if_pos h1]
theorem mvE_6 (h : ¬ badM m) (h1 : ¬ m.day < last) (h2 : termIx ts m.part < 0) : mvE ts pre last m = 6 := by rw [mvE, if_neg h, if_neg h1, if_pos h2]
theorem mvE_22 (h : ¬ badM m) (h1 : ¬ m.day < last) (h2 : ¬ termIx ts m.part < 0) (h3 : m.kind ≠ 0 ∧ stkL pre m.part < m.count) : mvE ts pre last m = 22 := by rw [mvE, if_neg h, if_neg h1, if_neg h2, if_pos h3]
theorem mvE_0 (h : ¬ badM m) (h1 : ¬ m.day < last) (h2 : ¬ termIx ts m.part < 0) (h3 : ¬ (m.kind ≠ 0 ∧ stkL pre m.part < m.count)) : mvE ts pre last m = 0 := by rw [mvE, if_neg h, if_neg h1, if_neg h2, if_neg h3]
theorem goM_stop (hinv : goM ts [] 0 ms = goM ts pre last (m :: l)) (hz : z ≠ 0) (hE : mvE ts pre last m = z) : goM ts [] 0 ms = z := by rw [hinv, goM, hE, if_neg hz]
theorem goM_next (hinv : goM ts [] 0 ms = goM ts pre last (m :: l)) (hE : mvE ts pre last m = 0) : goM ts [] 0 ms = goM ts (pre ++ [m]) m.day l := by rw [hinv, goM, if_pos hE]
theorem ok_next {x : Move} (h : ∀ m ∈ ms.take k, okM m) (hx : ms[k]? = some x) (hb : ¬ badM x) : ∀ m ∈ ms.take (k + 1), okM m := by
 intro y hy;rw [List.take_add_one, hx] at hy;rcases List.mem_append.1 hy with hy | hy
 · exact h y hy
 · simp at hy; subst hy;unfold badM at hb; unfold okM; omega
end
end Go.Proofs.YtjihcgcbnbaclaaDoor.Y9

set_option linter.unusedSimpArgs false
set_option linter.unusedVariables false
set_option maxRecDepth 100000
namespace Go.Proofs.YtjihcgcbnbaclaaDoor.Y9
open Go Go.Pv Go.Proofs.YtjihcgcbnbaclaaDoor
def goneR (p : ByteArray) (f e d : Int) : Int → List Move → List Lot
 | _, [] => []
 | w, m :: l => if m.part = p ∧ ¬ m.kind = 0 then (if 0 < min e (w + m.count) - max f w then [⟨p, min e (w + m.count) - max f w, d, m.day, m.kind⟩] else []) ++ goneR p f e d (w + m.count) l else goneR p f e d w l
def wentR (p : ByteArray) : Int → List Move → Int
 | w, [] => w
 | w, m :: l => if m.part = p ∧ ¬ m.kind = 0 then wentR p (w + m.count) l else wentR p w l
def leftR (p : ByteArray) (f e d w : Int) : List Lot := if 0 < e - max f w then [⟨p, e - max f w, d, -1, -1⟩] else []
def lotsGo (p : ByteArray) (ms : List Move) : Int → List Move → List Lot
 | _, [] => []
 | c, m :: l => if m.part = p ∧ m.kind = 0 then goneR p c (c + m.count) m.day 0 ms ++ leftR p c (c + m.count) m.day (wentR p 0 ms) ++ lotsGo p ms (c + m.count) l else lotsGo p ms c l
def lotsR (p : ByteArray) (ms : List Move) : List Lot := lotsGo p ms 0 ms
section
variable {p : ByteArray} {ms l : List Move} {m : Move} {acc A B : List Lot} {f e d w c W : Int}
end
theorem gone_len (p : ByteArray) (f e d : Int) : ∀ (l : List Move) (w : Int), (goneR p f e d w l).length ≤ l.length
 | [], _ => Nat.le_refl _
 | m :: l, w => by
   have h1 := gone_len p f e d l (w + m.count);have h2 := gone_len p f e d l w;unfold goneR;split
   · split
     · rw [List.length_append, List.length_cons, List.length_cons, List.length_nil]; omega
     · rw [List.nil_append, List.length_cons]; omega
   · rw [List.length_cons]; omega
theorem lotsGo_len (p : ByteArray) (ms : List Move) : ∀ (l : List Move) (c : Int), (lotsGo p ms c l).length ≤ l.length * (ms.length + 1)
 | [], _ => Nat.zero_le _
 | m :: l, c => by
   have h1 := lotsGo_len p ms l (c + m.count);have h2 := lotsGo_len p ms l c;have h3 := gone_len p c (c + m.count) m.day ms 0;have h4 : (leftR p c (c + m.count) m.day (wentR p 0 ms)).length ≤ 1 := by unfold leftR; split <;> simp
   unfold lotsGo;rw [List.length_cons, Nat.succ_mul];split
   · rw [List.length_append, List.length_append]; omega
   · omega
theorem lotsR_len (p : ByteArray) (ms : List Move) (h : ms.length ≤ 305) : (lotsR p ms).length ≤ 93330 := by
 have h1 := lotsGo_len p ms ms 0;have h2 : ms.length * (ms.length + 1) ≤ 305 * 306 := Nat.mul_le_mul h (by omega);unfold lotsR; omega
def lotsT (ts : List Term) (ms : List Move) : List Lot := ts.flatMap fun t => lotsR t.part ms
theorem lotsT_len (ts : List Term) (ms : List Move) (h : ms.length ≤ 305) : (lotsT ts ms).length ≤ ts.length * 93330 := by
 unfold lotsT;induction ts with
 | nil => simp
 | cons t ts ih =>
   have := lotsR_len t.part ms h;rw [List.flatMap_cons, List.length_append, List.length_cons, Nat.succ_mul]; omega
end Go.Proofs.YtjihcgcbnbaclaaDoor.Y9

set_option linter.unusedSimpArgs false
set_option linter.unusedVariables false
namespace Go.Proofs.YtjihcgcbnbaclaaDoor.Y9
open Go Go.Pv Go.Proofs.YtjihcgcbnbaclaaDoor
structure Da where
 day : Int
 left : Int
 gone : List Lot
 deriving Inhabited
structure Dv where
 k : Nat
 v : PV
 a : Da
 deriving Inhabited
def dcell (d : Dv) : List PV := [.ptr (41, d.k) 3 0 0]
def DvAt (h : Heap) (d : Dv) : Prop := h (41, d.k) = some (.rows 3 [[.int d.a.day, .int d.a.left, d.v]]) ∧ SliceAt h 42 d.v 5 (d.a.gone.map Lot.enc)
def ownOf (d : Dv) : List Key := (41, d.k) :: Go.Pv.keyOf d.v
def ownD (ds : List Dv) : List Key := ds.flatMap ownOf
def takeL (m : Move) : Int → List Da → List Da
 | _, [] => []
 | n, d :: l => if 0 < min n d.left then ⟨d.day, d.left - min n d.left, d.gone ++ [⟨m.part, min n d.left, d.day, m.day, m.kind⟩]⟩ :: takeL m (n - min n d.left) l else d :: takeL m n l
theorem takeL_len (m : Move) : ∀ (l : List Da) (n : Int), (takeL m n l).length = l.length
 | [], _ => rfl
 | d :: l, n => by unfold takeL; split <;> simp [takeL_len m l]
theorem DvAt.key42 {h : Heap} {d : Dv} (hd : DvAt h d) : ∀ k ∈ Go.Pv.keyOf d.v, k.1 = 42 ∧ (h k).isSome = true := fun k hk => by
 rcases hd.2 with ⟨_, h2⟩ | ⟨g, h2, h3⟩
 · rw [h2] at hk; simp [Go.Pv.keyOf] at hk
 · rw [h2] at hk; simp [Go.Pv.keyOf] at hk; subst hk; exact ⟨rfl, by rw [h3]; rfl⟩
theorem DvAt.keep {h h' : Heap} {d : Dv} (hd : DvAt h d) (hk : ∀ k ∈ ownOf d, h' k = h k) : DvAt h' d := by
 refine ⟨(hk _ (by simp [ownOf])).trans hd.1, ?_⟩;rcases hd.2 with h2 | ⟨g, h2, h3⟩
 · exact .inl h2
 · exact .inr ⟨g, h2, (hk _ (by rw [ownOf, h2]; simp [Go.Pv.keyOf])).trans h3⟩
theorem ownOf_sub {ds : List Dv} {d : Dv} (hd : d ∈ ds) {k : Key} (hk : k ∈ ownOf d) : k ∈ ownD ds := List.mem_flatMap.2 ⟨d, hd, hk⟩
structure TakeI (m : Move) (ds : List Dv) (h0 : Heap) (c0 : Nat → Nat) (i : Nat) (n : Int) (es : List Dv) (h : Heap) (c : Nat → Nat) : Prop where
 keys : es.map (·.k) = ds.map (·.k)
 tl : takeL m m.count (ds.map (·.a)) = (es.take i).map (·.a) ++ takeL m n ((es.drop i).map (·.a))
 dr : es.drop i = ds.drop i
 at_ : ∀ d ∈ es, DvAt h d
 nd : (ownD es).Nodup
 kn : ∀ k ∈ ownD es, k.2 < c k.1
 sub : ∀ k ∈ ownD es, k ∈ ownD ds ∨ c0 k.1 ≤ k.2
 fr : ∀ k : Key, k ∉ ownD ds → k.2 < c0 k.1 → h k = h0 k
 cm : ∀ t, c0 t ≤ c t
 nb : 0 ≤ n ∧ n ≤ 100000
structure TakeR (m : Move) (ds : List Dv) (h0 : Heap) (c0 : Nat → Nat) (es : List Dv) (h : Heap) (c : Nat → Nat) : Prop where
 keys : es.map (·.k) = ds.map (·.k)
 tl : es.map (·.a) = takeL m m.count (ds.map (·.a))
 at_ : ∀ d ∈ es, DvAt h d
 nd : (ownD es).Nodup
 kn : ∀ k ∈ ownD es, k.2 < c k.1
 sub : ∀ k ∈ ownD es, k ∈ ownD ds ∨ c0 k.1 ≤ k.2
 fr : ∀ k : Key, k ∉ ownD ds → k.2 < c0 k.1 → h k = h0 k
 cm : ∀ t, c0 t ≤ c t
section
variable {m : Move} {ds es : List Dv} {h0 h h' : Heap} {c0 c c' : Nat → Nat} {i : Nat} {n : Int} {d : Dv}
theorem TakeI.len (H : TakeI m ds h0 c0 i n es h c) : es.length = ds.length := by have := congrArg List.length H.keys; simpa using this
theorem TakeI.fin (H : TakeI m ds h0 c0 ds.length n es h c) : TakeR m ds h0 c0 es h c := by
 refine ⟨H.keys, ?_, H.at_, H.nd, H.kn, H.sub, H.fr, H.cm⟩;have h1 := H.tl;rw [← H.len, List.take_length, List.drop_length] at h1;rw [h1]; simp [takeL]
theorem take_0 (ha : ∀ d ∈ ds, DvAt h0 d) (hn : (ownD ds).Nodup) (hk : ∀ k ∈ ownD ds, k.2 < c0 k.1) (hf : ∀ k : Key, k.2 < c0 k.1 → h k = h0 k) (hc : ∀ t, c0 t ≤ c t) (hb : 0 ≤ m.count ∧ m.count ≤ 100000) : TakeI m ds h0 c0 0 m.count ds h c :=
 ⟨rfl, by simp, rfl, fun d hd => (ha d hd).keep fun k hk' => hf k (hk k (ownOf_sub hd hk')), hn, fun k hk' => Nat.lt_of_lt_of_le (hk k hk') (hc _), fun k hk' => .inl hk', fun k _ h2 => hf k h2, hc, hb⟩
theorem TakeI.get (H : TakeI m ds h0 c0 i n es h c) (hd : ds[i]? = some d) : es[i]? = some d := by
 have h1 := congrArg (·[0]?) H.dr;simp only [List.getElem?_drop, Nat.add_zero] at h1;rw [h1, hd]
theorem TakeI.at_i (H : TakeI m ds h0 c0 i n es h c) (hd : ds[i]? = some d) : DvAt h d := H.at_ d (List.mem_of_getElem? (H.get hd))
theorem TakeI.skip (H : TakeI m ds h0 c0 i n es h c) (hd : ds[i]? = some d) (hm : ¬ 0 < min n d.a.left) : TakeI m ds h0 c0 (i + 1) n es h c := by
 have hg := H.get hd;have hdr : es.drop i = d :: es.drop (i + 1) := (List.getElem?_eq_some_iff.1 hg).2 ▸ List.drop_eq_getElem_cons (List.getElem?_eq_some_iff.1 hg).1;refine ⟨H.keys, ?_, ?_, H.at_, H.nd, H.kn, H.sub, H.fr, H.cm, H.nb⟩
 · rw [H.tl, hdr, List.map_cons, takeL, if_neg hm, List.take_add_one, hg]; simp
 · have := congrArg (List.drop 1) H.dr;simpa [List.drop_drop] using this
theorem ownD_split (hd : es[i]? = some d) : ownD es = ownD (es.take i) ++ (ownOf d ++ ownD (es.drop (i + 1))) := by
 have hlt := (List.getElem?_eq_some_iff.1 hd).1
 have : es = es.take i ++ d :: es.drop (i + 1) := by
   have h1 := (List.getElem?_eq_some_iff.1 hd).2;rw [← h1, ← List.drop_eq_getElem_cons hlt, List.take_append_drop]
 unfold ownD
 conv => lhs; rw [this]
 rw [List.flatMap_append, List.flatMap_cons]
theorem ownD_set {e : Dv} (hd : es[i]? = some d) : ownD (es.set i e) = ownD (es.take i) ++ (ownOf e ++ ownD (es.drop (i + 1))) := by
 have hlt := (List.getElem?_eq_some_iff.1 hd).1;rw [List.set_eq_take_append_cons_drop, if_pos hlt];unfold ownD;rw [List.flatMap_append, List.flatMap_cons]
theorem nodup_mid {A B B' C : List Key} (hn : (A ++ (B ++ C)).Nodup) (hb : B'.Nodup) (hs : ∀ k ∈ B', k ∈ B ∨ (k ∉ A ∧ k ∉ C)) : (A ++ (B' ++ C)).Nodup := by
 rw [List.nodup_append] at hn ⊢;obtain ⟨h1, h2, h3⟩ := hn;rw [List.nodup_append] at h2 ⊢;obtain ⟨h4, h5, h6⟩ := h2;refine ⟨h1, ⟨hb, h5, fun a ha b hb' e => ?_⟩, fun a ha b hb' e => ?_⟩
 · rcases hs a ha with h | ⟨_, h⟩
   · exact h6 a h b hb' e
   · exact h (e ▸ hb')
 · rcases List.mem_append.1 hb' with h | h
   · rcases hs b h with h' | ⟨h', _⟩
     · exact h3 a ha b (List.mem_append.2 (.inl h')) e
     · exact h' (e ▸ ha)
   · exact h3 a ha b (List.mem_append.2 (.inr h)) e
theorem TakeI.step {g : Nat} {d' : Dv} (H : TakeI m ds h0 c0 i n es h c) (hd : ds[i]? = some d) (hm : 0 < min n d.a.left) (hd' : d' = ⟨d.k, .ref (42, g) 5 0 (d.a.gone.length + 1), ⟨d.a.day, d.a.left - min n d.a.left, d.a.gone ++ [⟨m.part, min n d.a.left, d.a.day, m.day, m.kind⟩]⟩⟩)
   (hg : g = c 42) (hbox : h' (41, d.k) = some (.rows 3 [[.int d.a.day, .int (d.a.left - min n d.a.left), .ref (42, g) 5 0 (d.a.gone.length + 1)]])) (hgn : h' (42, g) = some (.rows 5 (d'.a.gone.map Lot.enc)))
   (hf : ∀ k : Key, k ≠ (41, d.k) → k ∉ Go.Pv.keyOf d.v → k ≠ (42, g) → k.2 < c k.1 → h' k = h k) (hc : ∀ t, c t ≤ c' t) (hc42 : g < c' 42) : TakeI m ds h0 c0 (i + 1) (n - min n d.a.left) (es.set i d') h' c' := by
 have hge := H.get hd;have hlt := (List.getElem?_eq_some_iff.1 hge).1;have hdr : es.drop i = d :: es.drop (i + 1) := (List.getElem?_eq_some_iff.1 hge).2 ▸ List.drop_eq_getElem_cons hlt;have hmem : d ∈ es := List.mem_of_getElem? hge;have hkd' : ownOf d' = [(41, d.k), (42, g)] := by rw [hd']; simp [ownOf, Go.Pv.keyOf]
 have hsp := ownD_split hge;have hnd := H.nd;rw [hsp] at hnd;have hfresh : ∀ k ∈ ownD es, k ≠ (42, g) := fun k hk e => by have := H.kn k hk; rw [e, hg] at this; exact absurd this (Nat.lt_irrefl _)
 have hself : ∀ e : Dv, e ∈ es.take i ∨ e ∈ es.drop (i + 1) → ∀ k ∈ ownOf e, h' k = h k := by
   intro e he k hk;have hke : k ∈ ownD (es.take i) ∨ k ∈ ownD (es.drop (i + 1)) := he.imp (fun h => ownOf_sub h hk) fun h => ownOf_sub h hk;have hkes : k ∈ ownD es := by rw [hsp]; rcases hke with h | h <;> simp [h]
   have hno : k ∉ ownOf d := by
     intro hc2;rw [List.nodup_append] at hnd;rcases hke with h | h
     · exact hnd.2.2 k h k (List.mem_append.2 (.inl hc2)) rfl
     · exact (List.nodup_append.1 hnd.2.1).2.2 k hc2 k h rfl
   exact hf k (fun e => hno (by rw [e]; simp [ownOf])) (fun h => hno (by simp [ownOf, h])) (hfresh k hkes) (H.kn k hkes)
 refine ⟨?_, ?_, ?_, ?_, ?_, ?_, ?_, ?_, fun t => Nat.le_trans (H.cm t) (hc t), ?_⟩
 · rw [← H.keys, List.map_set];apply List.ext_getElem?;intro j;rw [List.getElem?_set];split
   · rename_i hj; subst hj; rw [if_pos (by simpa using hlt), List.getElem?_map, hge, hd']; rfl
   · rfl
 · rw [H.tl, hdr, List.map_cons, takeL, if_pos hm, List.take_add_one, List.getElem?_set_self hlt, List.take_set_of_le (Nat.le_refl _)];rw [List.drop_set_of_lt (by omega), hd'];simp
 · rw [List.drop_set_of_lt (by omega)];have := congrArg (List.drop 1) H.dr;simpa [List.drop_drop] using this
 · intro e he;rw [List.set_eq_take_append_cons_drop, if_pos hlt] at he;rcases List.mem_append.1 he with h1 | h1
   · exact (H.at_ e (List.mem_of_mem_take h1)).keep (hself e (.inl h1))
   · rcases List.mem_cons.1 h1 with rfl | h1
     · refine ⟨by rw [hd']; exact hbox, .inr ⟨g, ?_, hgn⟩⟩;rw [hd']; simp
     · exact (H.at_ e (List.mem_of_mem_drop h1)).keep (hself e (.inr h1))
 · rw [ownD_set hge];refine nodup_mid hnd (by rw [hkd']; simp) fun k hk => ?_;rw [hkd'] at hk;rcases List.mem_cons.1 hk with rfl | hk
   · left; simp [ownOf]
   · simp at hk; subst hk;right;exact ⟨fun h => hfresh _ (by rw [hsp]; simp [h]) rfl, fun h => hfresh _ (by rw [hsp]; simp [h]) rfl⟩
 · intro k hk;rw [ownD_set hge, hkd'] at hk
   have : k ∈ ownD es ∨ k = (42, g) := by
     rw [hsp];simp only [List.mem_append, List.mem_cons, List.not_mem_nil, or_false] at hk ⊢;rcases hk with h | (rfl | rfl) | h
     · exact .inl (.inl h)
     · left; right; left; simp [ownOf]
     · exact .inr rfl
     · exact .inl (.inr (.inr h))
   rcases this with h | rfl
   · exact Nat.lt_of_lt_of_le (H.kn k h) (hc _)
   · exact hc42
 · intro k hk;rw [ownD_set hge, hkd'] at hk
   have : k ∈ ownD es ∨ k = (42, g) := by
     rw [hsp];simp only [List.mem_append, List.mem_cons, List.not_mem_nil, or_false] at hk ⊢;rcases hk with h | (rfl | rfl) | h
     · exact .inl (.inl h)
     · left; right; left; simp [ownOf]
     · exact .inr rfl
     · exact .inl (.inr (.inr h))
   rcases this with h | rfl
   · exact H.sub k h
   · right; rw [hg]; exact H.cm 42
 · intro k hk hk2
   have hown : k ∉ ownD es := fun h => by
     rcases H.sub k h with h2 | h2
     · exact hk h2
     · omega
   have hno : k ∉ ownOf d := fun h => hown (ownOf_sub hmem h);rw [hf k (fun e => hno (by rw [e]; simp [ownOf])) (fun h => hno (by simp [ownOf, h])) (fun e => by rw [e, hg] at hk2; have := H.cm 42; simp only at hk2; omega) (Nat.lt_of_lt_of_le hk2 (H.cm _))];exact H.fr k hk hk2
 · have := H.nb; omega
end
end Go.Proofs.YtjihcgcbnbaclaaDoor.Y9
