/- A number read from a text: what the program's function says. No conditions. -/
import Derived.Test.YtmlhhdiomijpfaaGreatDoorTxo
import Derived.Test.YtmlhhdiomijpfaaGreatDoorWit
import Derived.WalkKit
import Derived.BigCall
set_option linter.unusedSimpArgs false
set_option linter.unusedVariables false
set_option maxRecDepth 100000
namespace Go.Proofs.YtmlhhdiomijpfaaGreatDoor
open Go Go.Proofs Go.RowKit Go.Shelf Go.Pv Go.Tx
theorem below_gw {w w' : World} (h : gw w w.heap.size) (hb : Below w.heap.size w w') : gw w' w'.heap.size := gw_keep h hb.size fun b hb' => hb.block b hb'
theorem withinW (n lo hi : Int) (w : World) (hgw : gw w w.heap.size) : Calls Tryz.prog 25 #[.int .i64 n, .int .i64 lo, .int .i64 hi] w fun e w' => e = .returned (.bool (decide (lo ≤ n ∧ n ≤ hi))) ∧ Below w.heap.size w w' := by
 refine ((within n lo hi).2.2 w (fun _ => False) _ (fun _ h => h.elim) hgw rfl fun i u p h1 h2 => ?_).mono ?_
 · match i with
   | 0 => cases h1; cases h2; exact .sc rfl
   | 1 => cases h1; cases h2; exact .sc rfl
   | 2 => cases h1; cases h2; exact .sc rfl
   | i + 3 => cases h2
 · rintro e w' ⟨u, rfl, hr, hb⟩
   rw [hr.sc_inv]; exact ⟨rfl, hb⟩
theorem itoaW (n : Int) (h : 0 ≤ n ∧ n ≤ 99) (w : World) (hgw : gw w w.heap.size) : Calls Tryz.prog 26 #[.int .i64 n] w fun e w' => e = .returned (.string (bs (Lib.itoa n))) ∧ Below w.heap.size w w' := by
 refine ((itoaP n (by omega)).2.2 w (fun _ => False) _ (fun _ h => h.elim) hgw rfl fun i u p h1 h2 => ?_).mono ?_
 · match i with
   | 0 => cases h1; cases h2; exact .sc rfl
   | i + 1 => cases h2
 · rintro e w' ⟨u, rfl, hr, hb⟩
   rw [hr.sc_inv]; exact ⟨rfl, hb⟩
theorem atoiY (s : ByteArray) (hs : s.size ≤ 281474976710656) {v : Int} (hv : Lib.atoiAll (ls s) = .ok v) (w : World) (hgw : gw w w.heap.size) : Calls Tryz.prog 64 #[.string s] w fun e w' => e = .returned (.tuple #[.int .i64 v, .nilIface]) ∧ Below w.heap.size w w' :=
 (atoiW s hs w hgw).mono fun e w' ⟨er, h1, h2, h3⟩ => by
   have hN : numN s.data.toList = v := by unfold numN; unfold ls at hv; rw [hv]
   rcases h2 with ⟨rfl, _⟩ | ⟨_, hno⟩
   · rw [hN] at h1; exact ⟨h1, h3⟩
   · exact absurd hv (hno v)
theorem atoiN (s : ByteArray) (hs : s.size ≤ 281474976710656) (hv : ∀ v, Lib.atoiAll (ls s) ≠ .ok v) (w : World) (hgw : gw w w.heap.size) : Calls Tryz.prog 64 #[.string s] w fun e w' => ∃ te pe, e = .returned (.tuple #[.int .i64 (numN (ls s)), .iface te pe]) ∧ Below w.heap.size w w' :=
 (atoiW s hs w hgw).mono fun e w' ⟨er, h1, h2, h3⟩ => by
   rcases h2 with ⟨_, v, h⟩ | ⟨⟨te, pe, rfl⟩, _⟩
   · exact absurd h (hv v)
   · exact ⟨te, pe, h1, h3⟩
theorem numberC (s : ByteArray) (hs : s.size ≤ 1000000) : PCalls Tryz.prog 32 [.str s] (.tup [.int (numN (ls s)), .bool (numB (ls s))]) := by
 refine ⟨tup_pure (vs := [.int .i64 _, .bool _]), by kernel_rfl, fun w M vs hM hgw hsz hrep => ?_⟩
 obtain ⟨v0, rfl⟩ := arr1' hsz
 have h0 := (hrep 0 v0 _ rfl rfl).sc_inv
 subst h0
 suffices key : Calls Tryz.prog 32 #[.string s] w fun e w' => e = .returned (.tuple #[.int .i64 (numN (ls s)), .bool (numB (ls s))]) ∧ Below w.heap.size w w' from
   key.mono fun e w' ⟨h1, h2⟩ => ⟨_, h1, tup_rep (vs := [.int .i64 _, .bool _]) (fun v hv => by simp at hv; rcases hv with rfl | rfl <;> rfl), h2⟩
 clear hrep hsz
 by_cases hok : ∃ v, Lib.atoiAll (ls s) = .ok v
 · obtain ⟨v, hv⟩ := hok
   have hN : numN (ls s) = v := by unfold numN; rw [hv]
   rw [hN]
   by_cases hin : 0 ≤ v ∧ v ≤ 99
   · have e1 : decide (0 ≤ v ∧ v ≤ 99) = true := decide_eq_true hin
     have hB : numB (ls s) = decide (bs (Lib.itoa v) = s) := by
       unfold numB; rw [hv]; simp only [hin, and_self, decide_true, Bool.true_and]
       have : Lib.itoa v = Lib.decDigits v.toNat := by unfold Lib.itoa; rw [if_neg (by omega)]
       rw [this, Bool.eq_iff_iff, decide_eq_true_eq, decide_eq_true_eq]
       exact ⟨fun h => by rw [h]; rfl, fun h => by rw [← h]; rfl⟩
     rw [hB]
     go_enter Tryz.func32, Tryz.ntmps32
     go_wp2_with (go_at_call 64; refine (atoiY s (by omega) hv _ hgw).mono ?_)
     rintro e W1 ⟨rfl, hb1⟩
     have hgw1 := below_gw hgw hb1
     go_wp2_with (go_at_call 25; refine (withinW v 0 99 _ hgw1).mono ?_)
     rintro e W2 ⟨rfl, hb2⟩
     rw [e1]
     have hgw2 := below_gw hgw1 hb2
     go_wp2_with (go_at_call 26; refine (itoaW v hin _ hgw2).mono ?_)
     rintro e W3 ⟨rfl, hb3⟩
     go_wp2
     go_ret2
     refine ⟨?_, hb1.trans ((hb2.trans (hb3.mono hb2.size)).mono hb1.size)⟩
     rw [bytes_beq]; rfl
   · have e1 : decide (0 ≤ v ∧ v ≤ 99) = false := decide_eq_false hin
     have hB : numB (ls s) = false := by
       unfold numB; rw [hv]; simp only [e1, Bool.false_and]
     rw [hB]
     go_enter Tryz.func32, Tryz.ntmps32
     go_wp2_with (go_at_call 64; refine (atoiY s (by omega) hv _ hgw).mono ?_)
     rintro e W1 ⟨rfl, hb1⟩
     have hgw1 := below_gw hgw hb1
     go_wp2_with (go_at_call 25; refine (withinW v 0 99 _ hgw1).mono ?_)
     rintro e W2 ⟨rfl, hb2⟩
     rw [e1]
     go_wp2
     go_ret2
     exact ⟨rfl, hb1.trans (hb2.mono hb1.size)⟩
 · have hno : ∀ v, Lib.atoiAll (ls s) ≠ .ok v := fun v h => hok ⟨v, h⟩
   have hB : numB (ls s) = false := by
     unfold numB
     split
     · rename_i v hv; exact absurd hv (hno v)
     · rfl
   rw [hB]
   go_enter Tryz.func32, Tryz.ntmps32
   go_wp2_with (go_at_call 64; refine (atoiN s (by omega) hno _ hgw).mono ?_)
   rintro e W1 ⟨te, pe, rfl, hb1⟩
   go_wp2
   go_ret2
   exact ⟨rfl, hb1⟩
end Go.Proofs.YtmlhhdiomijpfaaGreatDoor
