import Derived.TacticsInMore
import Derived.RegionIn
import Derived.LoopNIn
import Derived.LoopIn
import Derived.OwnWalkIn
import Derived.Shelf.AbstractIn
import Derived.Test.YtjihcgcbnbaclaaGreatDoorESrt1
set_option linter.unusedSimpArgs false
set_option linter.unusedVariables false
namespace Go.Proofs.YtjihcgcbnbaclaaGreatDoor.Y8
open Go Go.Proofs Go.RowKit Go.Shelf Go.Sort Go.Pv
def rawLeft (W : World) (r m : Nat) : Nat := match W.heap[r]? with
 | some (.mapIter _ _ seen _) => m - seen.size
 | _ => 0
theorem rawLeft_eq {W : World} {b r m : Nat} {ents : Array MapEntry} {since : Nat} {seen : Array Nat} (h : RawIter W b r ents since seen) : rawLeft W r m = m - seen.size := by
 unfold rawLeft; rw [h.it]
set_option maxRecDepth 100000 in
set_option maxHeartbeats 1000000 in
theorem keys_in (F : Fence) (n : Nat) (h65 : F.fn 65) (hro : F.round = none) (hn : 1 ≤ n) (l Bm ad b since : Nat) (ents : Array MapEntry) (key : MapEntry → K3) (hkey : ∀ e ∈ ents.toList, e.key = .agg #[.string (key e).s, .int .i64 (key e).a, .int .i64 (key e).b])
   (J : List K3 → World → Prop)
   (hY : ∀ pre x W, J pre W → pre.length < ents.size → YieldAt F (n - 1) Tryz.prog l #[.agg #[.string x.s, .int .i64 x.a, .int .i64 x.b]] W fun e W' => e = .returned (.bool true) ∧ J (pre ++ [x]) W' ∧ KeepsWalks W W')
   (W : World) (hJ : AbidesFrom W.heap.size J) (hm : W.cell? ⟨Bm, ad, none⟩ = some (.map (some b))) (hb : W.heap[b]? = some (.map ents since)) (hst : Stamps ents since) (h0 : J [] W) :
   CallsIn F n Tryz.prog 65 #[.func (.yield l) #[] #[], .pointer (some ⟨Bm, ad, none⟩)] W fun e W' => (∃ v, e = .returned v) ∧ ∃ ss : List K3, ss.Perm (ents.toList.map key) ∧ J ss W' := by
 refine callsIn_of_wp Tryz.func65 rfl h65 ?_ hro;simp only [Tryz.ntmps65, List.size_toArray, List.length_cons, List.length_nil, Nat.reduceAdd, Nat.reduceSub, Array.replicate_succ, Array.replicate_zero, List.push_toArray, List.append_toArray, List.nil_append, List.cons_append]
 gi_wp2_with (first
   | (gi_at_range; refine wpListIn_range_raw _ rfl _ 85 rfl Tryz.underlying85 rfl hb ?_; intro w0 hrg0 hg0 hs0)
   | gi_in)
 go_frame
 gi_loopw [3] (fun _ wr => ∃ (seen : Array Nat) (vis : List MapEntry), RawIter wr b W.heap.size ents since seen ∧ Came ents seen vis ∧ J (vis.map key) wr)
   (fun _ wr => rawLeft wr W.heap.size ents.size)
 case atStart =>
   exact ⟨#[], [], hrg0, .start _, hJ [] W w0 none h0 hg0 (fun r e => by cases e)⟩
 case round =>
   obtain ⟨seen, vis, hrg, hC, hJs⟩ := hrel
   gi_wp2_with (first
     | (gi_at_next; refine wpListIn_next_raw _ rfl _ rfl rfl hrg hst.1 ?_ ?_)
     | gi_in)
   · intro hall
     gi_wp2
     go_end0
     exact ⟨⟨_, rfl⟩, vis.map key, (hC.perm hst.2.1 fun e he => by simpa using hall e (by simpa using he)).map key, hJs⟩
   · intro e w2 he hs hrg2 hg2 hs2;have he' : e ∈ ents.toList := by simpa using he
     have hsn : seen.contains e.born = false := by simpa using hs
     have hk := hkey e he';have hen := raw_entry (P := Tryz.prog) hrg2 he' hst.2.1;rw [hk];rw [hk] at hen;have hJ2 : J (vis.map key) w2 := hJ _ wr w2 (some W.heap.size) hJs hg2 (fun r e => by cases e; exact ⟨Nat.le_refl _, _, hrg.it, rfl⟩);have hJ3 : J (vis.map key) (w2.alloc (.cells #[.string (key e).s, .int .i64 (key e).a, .int .i64 (key e).b] 91)) := hJ _ w2 _ none hJ2 (World.grownBy_alloc w2 _ none) (fun r e => by cases e);obtain ⟨fn, tmps, assign, body, hy, hR⟩ := hY (vis.map key) (key e) _ hJ3 (by rw [List.length_map]; exact hC.lt he' hsn);clear hs2
     gi_wp2
     refine hR.mono ?_
     rintro e3 W3 ⟨rfl, hJ4, hk3⟩
     gi_wp2
     have hrg3 := (hrg2.of_walks (KeepsWalks.alloc _ _)).of_walks hk3;have hC2 := hC.step he' hsn
     go_roundw
     case rel => exact ⟨_, vis ++ [e], hrg3, hC2, by simpa using hJ4⟩
     case measure =>
       rw [rawLeft_eq hrg3, rawLeft_eq hrg];have h1 := hC.lt he' hsn;have h2 : seen.size = vis.length := by have := congrArg List.length hC.born; simpa using this
       simp; omega
end Go.Proofs.YtjihcgcbnbaclaaGreatDoor.Y8
