import Derived.Test.YtmlhhdiomijpfaaGreatDoorEBld
import Derived.Test.YtmlhhdiomijpfaaGreatDoorEGrA
import Derived.Test.YtmlhhdiomijpfaaGreatDoorRep
import Derived.Test.YtmlhhdiomijpfaaGreatDoorNumA
import Derived.WalkKit
import Derived.BigCall
set_option linter.unusedSimpArgs false
set_option linter.unusedVariables false
set_option maxRecDepth 100000
namespace Go.Proofs.YtmlhhdiomijpfaaGreatDoor
open Go Go.Proofs Go.RowKit Go.Shelf Go.Pv Go.Tx
open E7
theorem needsUp {w w' : World} {M M' : Nat → Prop} {v : Value} {xs : List Int} (h : Rep (pureEnv w M true) v (.lit true 1 (xs.map ci))) (hb : Below w.heap.size w w') : Rep (pureEnv w' M' true) v (.lit true 1 (xs.map ci)) := by
 generalize hr : xs.map ci = rows at h ⊢;cases h with
 | litE => exact .litE
 | lit hm hc h2 =>
   refine .lit ⟨fun ⟨k, o, h, _⟩ => (by cases h), fun h => (by cases h), fun _ => rfl, Nat.lt_of_lt_of_le hm.lt hb.size, hm.width, fun i j row p q1 q2 => (hb.cell hm.lt).trans (hm.cell i j row p q1 q2), hm.pure, hm.one⟩ hc fun i j row p q1 q2 => ?_;subst hr;obtain ⟨z, _, rfl⟩ := List.mem_map.1 (List.mem_of_getElem? q1)
   have e : p = .int z := by
     match j with
     | 0 => cases q2; rfl
     | j + 1 => cases q2
   subst e;rw [(h2 i j _ _ q1 q2).sc_inv]; exact .sc rfl
theorem concatW (w : World) (hgw : gw w w.heap.size) (b2 : Nat) (fz : Nat × Nat) (a n : List Int) (s1 s2 : Value) (hb : w.heap[b2]? = some (.cells #[s1, s2] 47 fz)) (ha : a ≠ []) (hl : (a ++ n).length ≤ 1000) (nn : List Int) (hnn : a ++ n = nn)
   (r1 : Rep (pureEnv w (fun x => x < w.heap.size) true) s1 (.lit true 1 (a.map ci))) (r2 : Rep (pureEnv w (fun x => x < w.heap.size) true) s2 (.lit true 1 (n.map ci))) :
   Calls Tryz.prog 42 #[.slice (some ⟨b2, 0, none⟩) 2 2] w fun e w' => ∃ kc o c, e = .returned (.slice (some ⟨kc, o, none⟩) nn.length c) ∧ nn.length ≤ c ∧ w.heap.size ≤ kc ∧ kc < w'.heap.size ∧ (∀ j z, nn[j]? = some z → w'.cell? ⟨kc, o + j, none⟩ = some (.int .i64 z)) ∧ Below w.heap.size w w' := by
 subst hnn;have hlt : b2 < w.heap.size := (Array.getElem?_eq_some_iff.1 hb).1;have q0 : w.cell? ⟨b2, 0, none⟩ = some s1 := by rw [Lib.cell_of_heap hb]; rfl
 have q1 : w.cell? ⟨b2, 1, none⟩ = some s2 := by rw [Lib.cell_of_heap hb]; rfl
 have hflat : [a, n].flatten = a ++ n := by simp
 refine ((concatC [a, n] (by simp) (by rw [hflat]; omega)).2.2 w (fun x => x < w.heap.size) #[.slice (some ⟨b2, 0, none⟩) 2 2] (fun _ h => h) hgw rfl fun i u p h1 h2 => ?_).mono ?_
 · match i with
   | 0 =>
     cases h1; cases h2;refine Rep.lit (E := pureEnv w (fun x => x < w.heap.size) true) (rows := [a, n].map cl) (f := fun i j => if i = 0 then s1 else s2) ⟨fun ⟨k, o, h, _⟩ => (by cases h), fun h => (by cases h), fun _ => rfl, hlt, ?_, ?_, ?_, ?_⟩ (by simp) ?_
     · intro row hr; simp only [List.map_cons, List.map_nil, List.mem_cons, List.not_mem_nil, or_false] at hr; rcases hr with rfl | rfl <;> rfl
     · intro i j row p g1 g2
       match i with
       | 0 =>
         cases g1
         match j with
         | 0 => exact q0
         | j + 1 => cases g2
       | 1 =>
         cases g1
         match j with
         | 0 => exact q1
         | j + 1 => cases g2
       | i + 2 => cases g1
     · intro row hr p hp;obtain ⟨z, _, rfl⟩ := List.mem_map.1 hr;exact cl_pure z p hp
     · intro row hr p hp;obtain ⟨z, _, rfl⟩ := List.mem_map.1 hr;simp only [cl, List.mem_cons, List.not_mem_nil, or_false] at hp;subst hp; rfl
     · intro i j row p g1 g2
       match i with
       | 0 =>
         cases g1
         match j with
         | 0 => cases g2; exact r1
         | j + 1 => cases g2
       | 1 =>
         cases g1
         match j with
         | 0 => cases g2; exact r2
         | j + 1 => cases g2
       | i + 2 => cases g1
   | i + 1 => cases h2
 · rintro e w' ⟨u, rfl, hr, hb⟩
   rw [hflat] at hr;generalize hrw : (a ++ n).map ci = rows at hr;cases hr with
   | litE => simp at hrw; exact absurd hrw.1 ha
   | lit hm hc h2 =>
     rename_i b off cc f;subst hrw;rw [lM] at hc ⊢;refine ⟨b, off, cc, rfl, hc, Nat.le_of_not_lt (hm.out rfl), hm.lt, fun j z hz => ?_, hb⟩;have g1 : ((a ++ n).map ci)[j]? = some (ci z) := by rw [List.getElem?_map, hz]; rfl
     have g3 := hm.cell j 0 (ci z) (.int z) g1 rfl;rw [(h2 j 0 _ _ g1 rfl).sc_inv] at g3;rw [show off + j = off + j * 1 + 0 by omega]; exact g3
structure TaskC (w : World) (M : Nat → Prop) (b0 o : Nat) (x : Task) (ua : Option Addr) (un uc : Nat) : Prop where
 c0 : w.cell? ⟨b0, o, none⟩ = some (.string x.name)
 c1 : w.cell? ⟨b0, o + 1, none⟩ = some (.string x.trade)
 c2 : w.cell? ⟨b0, o + 2, none⟩ = some (.int .i64 x.member)
 c3 : w.cell? ⟨b0, o + 3, none⟩ = some (.int .i64 x.place)
 c4 : w.cell? ⟨b0, o + 4, none⟩ = some (.int .i64 x.minutes)
 c5 : w.cell? ⟨b0, o + 5, none⟩ = some (.slice ua un uc)
 u : Rep (pureEnv w M true) (.slice ua un uc) (.lit true 1 (x.needs.map ci))
def inT (l : List Task) (k : Nat) (x : Task) (j : Nat) : List UInt8 := prtL (l.take k) ++ headL x ++ numsL ((nums x).take j)
theorem in_0 {l : List Task} {k : Nat} {x : Task} : prtL (l.take k) ++ (x.name ++ ⟨#[32]⟩ ++ x.trade).data.toList = inT l k x 0 := by
 have e : (x.name ++ ⟨#[32]⟩ ++ x.trade).data.toList = headL x := by
   show ls (x.name ++ ⟨#[32]⟩ ++ x.trade) = _;simp [ls_app, sp_ls, headL]
 rw [e]; simp [inT, numsL]
theorem in_1 {l : List Task} {k j : Nat} {x : Task} {z : Int} (hz : (nums x)[j]? = some z) : inT l k x j ++ ((⟨#[32]⟩ : ByteArray) ++ bs (Lib.itoa z)).data.toList = inT l k x (j + 1) := by
 have e : ((⟨#[32]⟩ : ByteArray) ++ bs (Lib.itoa z)).data.toList = 32 :: Lib.itoa z := by
   show ls ((⟨#[32]⟩ : ByteArray) ++ bs (Lib.itoa z)) = _;simp [ls_app, sp_ls, ls_bs]
 rw [e];simp only [inT, List.take_add_one, hz, Option.toList_some];simp [numsL]
theorem in_2 {l : List Task} {k j : Nat} {x : Task} (hx : l[k]? = some x) (hj : (nums x).length ≤ j) : inT l k x j ++ [10] = prtL (l.take (k + 1)) := by
 simp only [inT, List.take_of_length_le hj, List.take_add_one, hx, Option.toList_some];simp [prtL, bodyL]
theorem in_len {l : List Task} {k : Nat} {x : Task} (hg : ∀ t ∈ l, TaskG t) (hn : ∀ t ∈ l, t.needs.length ≤ 30) (hl : l.length ≤ 15) (hx : l[k]? = some x) (j : Nat) : (inT l k x j).length ≤ 6000 ∧ (prtL (l.take k)).length ≤ 5000 := by
 have hm := List.mem_of_getElem? hx;have h1 := rp_len (k := k) hg hn hl rfl;have h2 := nums_len ((nums x).take j) fun n hn2 => nums_rng (hg x hm) n (List.mem_of_mem_take hn2);have h3 := hn x hm;have h4 := (hg x hm).nm.1;have h5 := (hg x hm).tr.1;rw [bs_size] at h1
 have h6 : ((nums x).take j).length ≤ 33 := by
   rw [List.length_take]; simp only [nums, List.length_cons]; omega
 refine ⟨?_, h1⟩;unfold inT headL;rw [List.length_append, List.length_append, List.length_append, List.length_cons, ls_len, ls_len];omega
theorem builder_below {B b : Nat} {bs : List Value} {w w' : World} (h : Lib.IsBuilderF 92 5 B b bs w) (hb : Below w.heap.size w w') : Lib.IsBuilderF 92 5 B b bs w' := by
 have key : ∀ p, Lib.BuilderAtF 92 5 B b p bs w → Lib.BuilderAtF 92 5 B b p bs w' := fun p h => by
   have hlt := h.lt;obtain ⟨hB, v, hbk, hown, hne⟩ := h;exact ⟨hB, v, (hb.block b hlt).trans hbk, hown.kept (row := none) ⟨hb.os, hb.tape, hb.output, hb.size, fun k hk _ => hb.block k hk⟩ (by cases hv : v.ownBlock <;> simp), hne⟩
 rcases h with h | h
 · exact .inl (key _ h)
 · exact .inr (key _ h)
theorem apart_new {B b k : Nat} {bs : List Value} {w w' : World} (h : Lib.IsBuilderF 92 5 B b bs w) (h1 : w.heap.size ≤ k) (h2 : k < w'.heap.size) (hb : w'.heap[b]? = w.heap[b]?) : Apart k b w' := by
 have key : ∀ p, Lib.BuilderAtF 92 5 B b p bs w → Apart k b w' := fun p h => by
   have hlt := h.lt;obtain ⟨hB, v, hbk, hown, hne⟩ := h;refine ⟨h2, by omega, fun p' v' hv e => ?_⟩;rw [hb, hbk] at hv;simp only [Option.some.injEq, Obj.cells.injEq, Array.mk.injEq, List.cons.injEq] at hv;rw [← hv.1.2.1] at e;have := hown.lt k e;omega
 rcases h with h | h
 · exact key _ h
 · exact key _ h
theorem apart_below {k b : Nat} {w w' : World} (h : Apart k b w) (hb : Below w.heap.size w w') (hlt : b < w.heap.size) : Apart k b w' :=
 ⟨Nat.lt_of_lt_of_le h.1 hb.size, h.2.1, fun p v hv => h.2.2 p v (by rw [← hb.block b hlt]; exact hv)⟩
theorem builder_lt {B b : Nat} {bs : List Value} {w : World} (h : Lib.IsBuilderF 92 5 B b bs w) : b < w.heap.size := by
 rcases h with h | h <;> exact h.lt
theorem writeN (B b : Nat) (l : List UInt8) (w : World) (h : Lib.IsBuilderF 92 5 B b (Lib.byteCells l) w) (hlen : l.length + 1 ≤ 1000000000) (hBw : B ≤ w.heap.size) :
   Calls Tryz.prog 43 #[.pointer (some ⟨b, 0, none⟩), .int .u8 10] w fun e w' => e = .returned .nilIface ∧ Lib.BuilderAtF 92 5 B b (.pointer (some ⟨b, 0, none⟩)) (Lib.byteCells (l ++ [10])) w' ∧ Below B w w' :=
 writeB B b l 10 w h hlen hBw
theorem rowRep {w : World} {M : Nat → Prop} {k : Nat} {a b c : Int} {fz : Nat × Nat} (hk : w.heap[k]? = some (.cells #[.int .i64 a, .int .i64 b, .int .i64 c] 3 fz)) : Rep (pureEnv w M true) (.slice (some ⟨k, 0, none⟩) 3 3) (.lit true 1 ([a, b, c].map ci)) := by
 have hlt : k < w.heap.size := (Array.getElem?_eq_some_iff.1 hk).1;have q0 : w.cell? ⟨k, 0, none⟩ = some (.int .i64 a) := by rw [Lib.cell_of_heap hk]; rfl
 have q1 : w.cell? ⟨k, 1, none⟩ = some (.int .i64 b) := by rw [Lib.cell_of_heap hk]; rfl
 have q2 : w.cell? ⟨k, 2, none⟩ = some (.int .i64 c) := by rw [Lib.cell_of_heap hk]; rfl
 refine Rep.lit (E := pureEnv w M true) (rows := [a, b, c].map ci) (f := fun i j => .int .i64 ([a, b, c].getD i 0)) ⟨fun ⟨k, o, h, _⟩ => (by cases h), fun h => (by cases h), fun _ => rfl, hlt, ?_, ?_, ?_, ?_⟩ (by simp) ?_
 · intro row hr;obtain ⟨z, _, rfl⟩ := List.mem_map.1 hr;rfl
 · intro i j row p g1 g2
   match i with
   | 0 =>
     cases g1
     match j with
     | 0 => exact q0
     | j + 1 => cases g2
   | 1 =>
     cases g1
     match j with
     | 0 => exact q1
     | j + 1 => cases g2
   | 2 =>
     cases g1
     match j with
     | 0 => exact q2
     | j + 1 => cases g2
   | i + 3 => cases g1
 · intro row hr p hp;obtain ⟨z, _, rfl⟩ := List.mem_map.1 hr;exact ci_pure z p hp
 · intro row hr p hp;obtain ⟨z, _, rfl⟩ := List.mem_map.1 hr;simp only [ci, List.mem_cons, List.not_mem_nil, or_false] at hp;subst hp; rfl
 · intro i j row p g1 g2
   match i with
   | 0 =>
     cases g1
     match j with
     | 0 => cases g2; exact .sc rfl
     | j + 1 => cases g2
   | 1 =>
     cases g1
     match j with
     | 0 => cases g2; exact .sc rfl
     | j + 1 => cases g2
   | 2 =>
     cases g1
     match j with
     | 0 => cases g2; exact .sc rfl
     | j + 1 => cases g2
   | i + 3 => cases g1
theorem cellUp {w w1 wr : World} {b o : Nat} {v : Value} (h1 : Below w.heap.size w w1) (h2 : Below w1.heap.size w1 wr) (hb : b < w.heap.size) (h : w.cell? ⟨b, o, none⟩ = some v) : wr.cell? ⟨b, o, none⟩ = some v := by
 rw [h2.cell (p := ⟨b, o, none⟩) (Nat.lt_of_lt_of_le hb h1.size), h1.cell (p := ⟨b, o, none⟩) hb]; exact h
set_option maxHeartbeats 4000000 in
theorem printW (l : List Task) (hl : l.length ≤ 15) (hg : ∀ t ∈ l, TaskG t) (hn : ∀ t ∈ l, t.needs.length ≤ 30) (w : World) (M : Nat → Prop) (hgw : gw w w.heap.size) (b0 off c : Nat) (hb0 : b0 < w.heap.size) (hcl : l.length ≤ c)
   (hck : Calls Tryz.prog 40 #[.slice (some ⟨b0, off, none⟩) l.length c] w fun e w' => e = .returned (.int .i64 0) ∧ Below w.heap.size w w')
   (hx : ∀ k x, l[k]? = some x → ∃ ua un uc, TaskC w M b0 (off + k * 6) x ua un uc) :
   Calls Tryz.prog 13 #[.slice (some ⟨b0, off, none⟩) l.length c] w fun e w' => e = .returned (.tuple #[.string (bs (prtL l)), .int .i64 0]) ∧ Below w.heap.size w w' := by
 go_enter Tryz.func13, Tryz.ntmps13
 go_wp2_with (go_at_call 40; refine hck.mono ?_)
 rintro e w1 ⟨rfl, hb1⟩
 go_wp2
 go_loopw [17] (fun i wr => ∃ (k : Nat), i = .int .i64 k ∧ k ≤ l.length ∧ Lib.IsBuilderF 92 5 w1.heap.size w1.heap.size (Lib.byteCells (prtL (l.take k))) wr ∧ Below w1.heap.size w1 wr) (fun i wr => l.length - (intOf i).toNat)
 case atStart =>
   exact ⟨0, rfl, Nat.zero_le _, Lib.IsBuilderF.of (Lib.fresh_isBuilder 92 5 w1), (Below.refl _ _).alloc (Nat.le_refl _) _⟩
 case round =>
   obtain ⟨k, rfl, hk, hI, hbw⟩ := hrel;by_cases hkl : k < l.length
   · obtain ⟨x, hxk⟩ : ∃ x, l[k]? = some x := ⟨_, List.getElem?_eq_getElem hkl⟩
     obtain ⟨ua, un, uc, hT⟩ := hx k x hxk;have e0 : wr.cell? ⟨b0, off + k * 6, none⟩ = some (.string x.name) := cellUp hb1 hbw hb0 hT.c0;have e1 : wr.cell? ⟨b0, off + k * 6 + 1, none⟩ = some (.string x.trade) := cellUp hb1 hbw hb0 hT.c1;have e2 : wr.cell? ⟨b0, off + k * 6 + 2, none⟩ = some (.int .i64 x.member) := cellUp hb1 hbw hb0 hT.c2;have e3 : wr.cell? ⟨b0, off + k * 6 + 3, none⟩ = some (.int .i64 x.place) := cellUp hb1 hbw hb0 hT.c3;have e4 : wr.cell? ⟨b0, off + k * 6 + 4, none⟩ = some (.int .i64 x.minutes) := cellUp hb1 hbw hb0 hT.c4;have e5 : wr.cell? ⟨b0, off + k * 6 + 5, none⟩ = some (.slice ua un uc) := cellUp hb1 hbw hb0 hT.c5;have hxm := List.mem_of_getElem? hxk;have hxg := hg x hxm;have hxn := hn x hxm;have hzn := hxg.nm.1;have hzt := hxg.tr.1;have hs1 : ¬ 9223372036854775807 < x.name.size + 1 := by omega
     have hs2 : ¬ 9223372036854775807 < x.name.size + 1 + x.trade.size := by omega
     have hsz : (x.name ++ ⟨#[32]⟩ ++ x.trade).size = x.name.size + 1 + x.trade.size := by rw [szs, szs]; rfl
     have hil := in_len hg hn hl hxk 0;have hI2 := hI.alloc (.cells #[.string x.name, .string x.trade, .int .i64 x.member, .int .i64 x.place, .int .i64 x.minutes, .slice ua un uc] 87);have hap : Apart wr.heap.size w1.heap.size (wr.alloc (.cells #[.string x.name, .string x.trade, .int .i64 x.member, .int .i64 x.place, .int .i64 x.minutes, .slice ua un uc] 87)) := apart_new hI (Nat.le_refl _) (by simp) (Lib.alloc_old wr _ _ (builder_lt hI));have hbw2 := hbw.alloc (by have := hbw.size; omega) (.cells #[.string x.name, .string x.trade, .int .i64 x.member, .int .i64 x.place, .int .i64 x.minutes, .slice ua un uc] 87)
     go_wp2_with (go_at_call 41; refine (writeS w1.heap.size w1.heap.size _ _ _ hI2 ?hl1 ?hz1).mono ?_)
     case hl1 => omega
     case hz1 => have := hbw.size; simp; omega
     rintro e W1 ⟨rfl, h1, bb1, ka1⟩
     obtain ⟨kb1, kap1⟩ := ka1 _ hap;have hW1 : W1.heap[wr.heap.size]? = some (.cells #[.string x.name, .string x.trade, .int .i64 x.member, .int .i64 x.place, .int .i64 x.minutes, .slice ua un uc] 87 (0, 0)) := kb1.trans (heap_alloc_new wr _);have hlt1 : wr.heap.size < W1.heap.size := kap1.1;have f2 : W1.cell? ⟨wr.heap.size, 2, none⟩ = some (.int .i64 x.member) := by rw [Lib.cell_of_heap hW1]; rfl
     have f3 : W1.cell? ⟨wr.heap.size, 3, none⟩ = some (.int .i64 x.place) := by rw [Lib.cell_of_heap hW1]; rfl
     have f4 : W1.cell? ⟨wr.heap.size, 4, none⟩ = some (.int .i64 x.minutes) := by rw [Lib.cell_of_heap hW1]; rfl
     have f5 : W1.cell? ⟨wr.heap.size, 5, none⟩ = some (.slice ua un uc) := by rw [Lib.cell_of_heap hW1]; rfl
     have f6 : (W1.alloc (.cells #[.int .i64 x.member, .int .i64 x.place, .int .i64 x.minutes] 3)).cell? ⟨wr.heap.size, 5, none⟩ = some (.slice ua un uc) := by
       rw [World.cell?_of_block (w := W1) (Lib.alloc_old W1 _ _ hlt1)]; exact f5
     clear kb1 hW1;have hI3 := (Lib.IsBuilderF.alloc (.inr h1) (.cells #[.int .i64 x.member, .int .i64 x.place, .int .i64 x.minutes] 3)).alloc (.cells #[.slice (some ⟨W1.heap.size, 0, none⟩) 3 3, .slice ua un uc] 47);have bb2 : Below w1.heap.size w1 ((W1.alloc (.cells #[.int .i64 x.member, .int .i64 x.place, .int .i64 x.minutes] 3)).alloc (.cells #[.slice (some ⟨W1.heap.size, 0, none⟩) 3 3, .slice ua un uc] 47)) := ((hbw2.trans bb1).alloc (by have := bb1.size; have := hbw2.size; omega) _).alloc (by have := bb1.size; have := hbw2.size; simp; omega) _;have bb02 : Below w.heap.size w ((W1.alloc (.cells #[.int .i64 x.member, .int .i64 x.place, .int .i64 x.minutes] 3)).alloc (.cells #[.slice (some ⟨W1.heap.size, 0, none⟩) 3 3, .slice ua un uc] 47)) := hb1.trans (bb2.mono hb1.size);have hnl : (nums x).length = 3 + x.needs.length := by simp only [nums, List.length_cons]; omega
     go_wp2_with (go_at_call 42; refine (concatW _ ?gw2 (W1.heap.size + 1) (0, 0) [x.member, x.place, x.minutes] x.needs (.slice (some ⟨W1.heap.size, 0, none⟩) 3 3) (.slice ua un uc) ?blk ?ne ?len (nums x) rfl ?r1 ?r2).mono ?_)
     case gw2 => exact below_gw hgw bb02
     case blk => have h := heap_alloc_new (W1.alloc (.cells #[.int .i64 x.member, .int .i64 x.place, .int .i64 x.minutes] 3)) (.cells #[.slice (some ⟨W1.heap.size, 0, none⟩) 3 3, .slice ua un uc] 47); rw [World.size_alloc] at h; exact h
     case ne => exact List.cons_ne_nil _ _
     case len => simp only [List.length_append, List.length_cons, List.length_nil]; omega
     case r1 => exact rowRep (fz := (0, 0)) ((Lib.alloc_old _ _ _ (by simp)).trans (heap_alloc_new W1 _))
     case r2 => exact needsUp hT.u bb02
     rintro e W3 ⟨kc, o, c3, rfl, hc3, hkc1, hkc2, hcc, bb3⟩
     have hI4 := builder_below hI3 bb3;have hap4 : Apart kc w1.heap.size W3 := apart_new hI3 hkc1 hkc2 (bb3.block _ (builder_lt hI3));have bb4 : Below w1.heap.size w1 W3 := bb2.trans (bb3.mono (Nat.le_of_lt (builder_lt hI3)))
     go_wp2
     go_loopw [40] (fun i wq => ∃ (j : Nat), i = .int .i64 j ∧ j ≤ (nums x).length ∧ Lib.IsBuilderF 92 5 w1.heap.size w1.heap.size (Lib.byteCells (inT l k x j)) wq ∧ Below w1.heap.size w1 wq ∧ Apart kc w1.heap.size wq ∧ wq.heap[kc]? = W3.heap[kc]?) (fun i wq => (nums x).length - (intOf i).toNat)
     case atStart => exact ⟨0, rfl, Nat.zero_le _, by rw [← in_0]; exact hI4, bb4, hap4, rfl⟩
     case round =>
       obtain ⟨j, rfl, hj, hI5, bb5, hap5, hkk⟩ := hrel;have hil5 := in_len hg hn hl hxk j;have hwq : w1.heap.size ≤ wr.heap.size := bb5.size;have hgq : gw wr wr.heap.size := below_gw hgw (hb1.trans (bb5.mono hb1.size));by_cases hjl : j < (nums x).length
       · obtain ⟨z, hz⟩ : ∃ z, (nums x)[j]? = some z := ⟨_, List.getElem?_eq_getElem hjl⟩
         have hzr := nums_rng hxg z (List.mem_of_getElem? hz);have hzi := itoa_len (n := z) (by omega)
         have hcz : wr.cell? ⟨kc, o + j, none⟩ = some (.int .i64 z) := by
           rw [World.cell?_of_block (w := W3) hkk]; exact hcc j z hz
         have hs3 : ¬ 9223372036854775807 < 1 + (bs (Lib.itoa z)).size := by omega
         have hsz3 : ((⟨#[32]⟩ : ByteArray) ++ bs (Lib.itoa z)).size = 1 + (bs (Lib.itoa z)).size := by rw [szs]; rfl
         go_wp2_with (go_at_call 26; refine (itoaWG z (by omega) wr hgq).mono ?_)
         rintro e W5 ⟨rfl, bb6⟩
         have hI6 := builder_below hI5 bb6;have hap6 := apart_below hap5 bb6 (builder_lt hI5)
         go_wp2_with (go_at_call 41; refine (writeS w1.heap.size w1.heap.size _ _ _ hI6 ?hl3 ?hz3).mono ?_)
         case hl3 => omega
         case hz3 => have := bb6.size; omega
         rintro e W6 ⟨rfl, h7, bb7, ka7⟩
         obtain ⟨kb7, hap7⟩ := ka7 _ hap6
         go_wp2
         go_roundw
         case rel =>
           exact ⟨j + 1, by simp, by omega, .inr (by rw [← in_1 hz]; exact h7), (bb5.trans (bb6.mono hwq)).trans bb7, hap7, (kb7.trans (bb6.block _ hap5.1)).trans hkk⟩
         case measure => simp [intOf]; omega
       · go_wp2_with (go_at_call 43; refine (writeN w1.heap.size w1.heap.size _ _ hI5 ?hl4 ?hz4).mono ?_)
         case hl4 => omega
         case hz4 => omega
         rintro e W7 ⟨rfl, h8, bb8⟩
         go_wp2
         go_roundw
         case rel =>
           exact ⟨k + 1, by simp, by omega, .inr (by rw [← in_2 hxk (Nat.le_of_not_lt hjl)]; exact h8), bb5.trans bb8⟩
         case measure => simp [intOf]; omega
   · go_wp2_with (go_at_call 44; refine (Tryz.Builder_String_any_k w1.heap.size w1.heap.size _ _ hI ?hz9).mono ?_)
     case hz9 => exact hbw.size
     rintro e W9 ⟨rfl, h9, bb9, _⟩
     go_wp2
     go_ret2
     refine ⟨?_, hb1.trans ((hbw.trans bb9).mono hb1.size)⟩;rw [List.take_of_length_le (by omega)]; rfl
set_option maxHeartbeats 4000000 in
theorem print0 (w : World) (a : Option Addr) (c : Nat)
   (hck : Calls Tryz.prog 40 #[.slice a 0 c] w fun e w' => e = .returned (.int .i64 0) ∧ Below w.heap.size w w') :
   Calls Tryz.prog 13 #[.slice a 0 c] w fun e w' => e = .returned (.tuple #[.string ⟨#[]⟩, .int .i64 0]) ∧ Below w.heap.size w w' := by
 go_enter Tryz.func13, Tryz.ntmps13
 go_wp2_with (go_at_call 40; refine hck.mono ?_)
 rintro e w1 ⟨rfl, hb1⟩
 go_wp2
 go_loopw [17] (fun i wr => i = .int .i64 0 ∧ Lib.IsBuilderF 92 5 w1.heap.size w1.heap.size (Lib.byteCells []) wr ∧ Below w1.heap.size w1 wr) (fun i wr => 0)
 case atStart =>
   exact ⟨rfl, Lib.IsBuilderF.of (Lib.fresh_isBuilder 92 5 w1), (Below.refl _ _).alloc (Nat.le_refl _) _⟩
 case round =>
   obtain ⟨rfl, hI, hbw⟩ := hrel
   go_wp2_with (go_at_call 44; refine (Tryz.Builder_String_any_k w1.heap.size w1.heap.size _ _ hI ?hz9).mono ?_)
   case hz9 => exact hbw.size
   rintro e W9 ⟨rfl, h9, bb9, _⟩
   go_wp2
   go_ret2
   exact ⟨rfl, hb1.trans ((hbw.trans bb9).mono hb1.size)⟩
set_option maxHeartbeats 4000000 in
theorem printBad (w : World) (v : Value) (n : Int) (hn0 : n ≠ 0)
   (hck : Calls Tryz.prog 40 #[v] w fun e w' => e = .returned (.int .i64 n) ∧ Below w.heap.size w w') :
   Calls Tryz.prog 13 #[v] w fun e w' => e = .returned (.tuple #[.string ⟨#[]⟩, .int .i64 n]) ∧ Below w.heap.size w w' := by
 go_enter Tryz.func13, Tryz.ntmps13
 go_wp2_with (go_at_call 40; refine hck.mono ?_)
 rintro e w1 ⟨rfl, hb1⟩
 go_wp2
 go_ret2
 exact ⟨rfl, hb1⟩
theorem printC (l : List Task) (hl : l.length ≤ 15) (hf : E7.Fair l) (hn : ∀ t ∈ l, t.needs.length ≤ 30) : PCalls Tryz.prog 13 [.lit true 6 (l.map Task.enc)] (.tup [.str (if planE l = 0 then bs (prtL l) else ⟨#[]⟩), .int (planE l)]) := by
 refine ⟨tup_pure (vs := [.string _, .int .i64 _]), by kernel_rfl, fun w M vs hM hgw hsz hrep => ?_⟩;obtain ⟨v0, rfl⟩ := arr1' hsz
 have hck : Calls Tryz.prog 40 #[v0] w fun e w' => e = .returned (.int .i64 (planE l)) ∧ Below w.heap.size w w' :=
   ((CheckC l (by omega) hf).2.2 w M #[v0] hM hgw hsz hrep).mono fun e w' ⟨u, h1, h2, h3⟩ => by rw [h2.sc_inv] at h1; exact ⟨h1, h3⟩
 have h0 := hrep 0 v0 _ rfl rfl
 suffices key : Calls Tryz.prog 13 #[v0] w fun e w' => e = .returned (.tuple #[.string (if planE l = 0 then bs (prtL l) else ⟨#[]⟩), .int .i64 (planE l)]) ∧ Below w.heap.size w w' from
   key.mono fun e w' ⟨h1, h2⟩ => ⟨_, h1, tup_rep (vs := [.string _, .int .i64 _]) (fun v hv => by simp at hv; rcases hv with rfl | rfl <;> rfl), h2⟩
 by_cases hp : planE l = 0
 · rw [if_pos hp]; rw [hp] at hck ⊢;have hg := (plan_good hp).2;generalize hrw : l.map Task.enc = rows at h0;cases h0 with
   | litE =>
     have hl0 : l = [] := by simpa using hrw
     subst hl0;exact print0 w _ _ hck
   | lit hm hc h2 =>
     rename_i b off cc f;subst hrw;rw [lM] at hc hck ⊢;refine printW l hl hg hn w M hgw b off cc hm.lt hc hck fun k x hx => ?_;have g1 : (l.map Task.enc)[k]? = some (Task.enc x) := by rw [List.getElem?_map, hx]; rfl
     have g (j : Nat) (p : PV) (hj : (Task.enc x)[j]? = some p) : w.cell? ⟨b, off + k * 6 + j, none⟩ = some (f k j) := hm.cell k j _ p g1 hj;have q5 := h2 k 5 _ _ g1 rfl;have e0 := (h2 k 0 _ (.str x.name) g1 rfl).sc_inv;have e1 := (h2 k 1 _ (.str x.trade) g1 rfl).sc_inv;have e2 := (h2 k 2 _ (.int x.member) g1 rfl).sc_inv;have e3 := (h2 k 3 _ (.int x.place) g1 rfl).sc_inv;have e4 := (h2 k 4 _ (.int x.minutes) g1 rfl).sc_inv
     obtain ⟨ua, un, uc, e5⟩ : ∃ ua un uc, f k 5 = .slice ua un uc := by
       generalize f k 5 = u at q5 ⊢;generalize x.needs.map ci = rs at q5;cases q5 with
       | litE => exact ⟨_, _, _, rfl⟩
       | lit _ _ _ => exact ⟨_, _, _, rfl⟩
     exact ⟨ua, un, uc, (g 0 _ rfl).trans (congrArg some e0), (g 1 _ rfl).trans (congrArg some e1), (g 2 _ rfl).trans (congrArg some e2), (g 3 _ rfl).trans (congrArg some e3), (g 4 _ rfl).trans (congrArg some e4), (g 5 _ rfl).trans (congrArg some e5), by rw [← e5]; exact q5⟩
 · rw [if_neg hp];exact printBad w v0 _ hp hck
end Go.Proofs.YtmlhhdiomijpfaaGreatDoor
