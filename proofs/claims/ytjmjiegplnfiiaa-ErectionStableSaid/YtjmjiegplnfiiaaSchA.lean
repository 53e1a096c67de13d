import Derived.Test.YtjmjiegplnfiiaaCrwA
/- Times that meet, and closed places. No conditions. -/
set_option linter.unusedSimpArgs false
set_option linter.unusedVariables false
set_option maxRecDepth 100000
namespace Go.Proofs.Ytjmjiegplnfiiaa
open Go Go.Pv
section
variable {P : Program} {Q : Exit → PS → Prop} {s : PS}
theorem pwp_gopsK {id : Nat} {ops : Array Oper} {d : Bool} (hg : (noGuards ops && !d) = false) (h : Known s → ∀ K : PS → Prop, (∀ s', Q .normal s' → K s') → gOps P ops d K ops.toList 0 ⟨s, fun _ => true⟩ []) : pwp P (.region id ops d) Q s := by
 show pRegion P ops d (Q .normal) s
 unfold pRegion
 intro hk
 rw [hg]
 exact .inl (h hk _ fun _ h => h)
end
section
variable {P : Program} {K : PS → Prop} {d : Nat} {op : Op} {ty t : TypeId} {pos : String} {aft : Array Edge} {rest : List Oper} {r : Nat → PV} {h : Heap} {cnt : Nat → Nat} {ops : Array Oper} {i : Nat} {G : Nat → Bool} {dd : Bool} {x y : Operand}
/-- A drawn append whose result is told in full. -/
theorem s_appK {ts : Array TypeId} {t2 : TypeId} {u u2 : PV} {sz d1 : Nat} {rows rows2 : Pv.Rows} {tl : List Ft} {ds : List Nat} (rs ws : List Nat) (hr1 : d1 ∈ rs) (hr2 : ∀ z ∈ ds, z ∈ rs) (hw1 : d1 ∈ ws ∧ d ∈ ws) (hts : ts.toList = [t, t2]) (hx : ev r x = u) (hy : ev r y = u2) (hs : SliceAt h d1 u sz rows) (hsr : SrcAt h ds sz u2 rows2)
   (hv : validB r G (.call { callee := .builtin .append, args := #[x, y], argTypes := ts }) = true)
   (hok : (sliceOk P t && (decide (P.bytesOf (elemTy P t) < 2 ^ 15) && (decide (intKind P t2 = none) && (zeroOk P (elemTy P t) && ((P.underlying t2).isSome && decide (tySize P (elemTy P t) = sz)))))) = true) (hlen : rows.length + rows2.length < 2 ^ 32) (hne : rows2 ≠ [])
   (hk : ∀ h', h' (d, cnt d) = some (.rows sz (rows ++ rows2)) → (∀ k' : Key, k' ≠ (d, cnt d) → (∀ g, u = .ref (d1, g) sz 0 rows.length → k' ≠ (d1, g)) → h' k' = h k') → sRun P ops dd K rest (i + 1) ⟨setT r d (.ref (d, cnt d) sz 0 (rows.length + rows2.length)), h', cset cnt d⟩ (setB G d true) (tl ++ [⟨i, rs, ws⟩])) :
   sRun P ops dd K (⟨some d, .call { callee := .builtin .append, args := #[x, y], argTypes := ts }, ty, pos, aft, none⟩ :: rest) i ⟨r, h, cnt⟩ G tl := by
 simp only [Bool.and_eq_true, decide_eq_true_eq] at hok
 obtain ⟨o1, o2, o3, o4, o5, o6⟩ := hok
 subst o6
 obtain ⟨hs1, hs2, hs3⟩ := hsr
 have he : ∀ u, ev r x = u → eff P (ev r) h (d, cnt d) (.call { callee := .builtin .append, args := #[x, y], argTypes := ts }) = appendEff P h (d, cnt d) t t2 u u2 := fun u hu => by
   show builtinEff P h (d, cnt d) .append ts.toList [ev r x, ev r y] = _
   rw [hts, hu, hy]; rfl
 have hrs : ∀ k ∈ (srcRows h (tySize P (elemTy P t)) u2).2.2, k.1 ∈ rs := fun k hk' => hr2 _ (hs3 k hk')
 have hie : rows2.isEmpty = false := by cases rows2 <;> first | exact absurd rfl hne | rfl
 rcases hs with ⟨rfl, rfl⟩ | ⟨g, rfl, hg⟩
 · have hq := he _ hx
   unfold appendEff at hq
   simp only [hs2] at hq
   rw [hie] at hq
   simp only [cond_false] at hq
   have hk2 := hk (hset h (d, cnt d) (some (.rows (tySize P (elemTy P t)) rows2))) (by rw [List.nil_append]; exact hset_self _ _ _) (fun k' h1 _ => hset_ne h1)
   rw [List.length_nil, Nat.zero_add] at hk2
   exact s_any rs ws rfl rfl hrs (by simp [hw1.2]) rfl hv hq ⟨⟨o1, o2, o3, o4, o5⟩, hs1, hne, by simp at hlen; omega⟩ hk2
 · have hq := he _ hx
   unfold appendEff at hq
   simp only [hg, hs2] at hq
   refine s_any rs ws rfl rfl (by intro k hk'; rcases List.mem_cons.1 hk' with rfl | hk'; exact hr1; exact hrs k hk') (by simp [hw1.1, hw1.2]) rfl hv hq (by refine ⟨⟨o1, o2, o3, o4, o5⟩, hs1, ?_⟩; simp; omega) (hk (hset (hset h (d1, g) none) (d, cnt d) (some (.rows (tySize P (elemTy P t)) (rows.take rows.length ++ rows2)))) ?_ fun k' h1 h2 => ?_)
   · rw [hset_self]; first | rw [List.drop_zero, List.take_length] | rw [List.take_length]
   · rw [hset_ne h1, hset_ne (h2 g rfl)]
end

/-! ### Times of gangs and of places -/
def bsG (xs : List Task) (d : List Slot) (g : Int) : List Sp := (d.filter fun y => decide (y.gang = g)).map (spY xs)
def clL (cs : List Span) (p : Int) : List Sp := (cs.filter fun z => decide (z.place = p)).map fun z => ⟨z.fro, z.til⟩
section
variable {xs : List Task} {c : Crew} {d : List Slot} {x : Slot} {m z : Nat}
end

end Go.Proofs.Ytjmjiegplnfiiaa

/- The error of a schedule, as the program tells it. No conditions. -/
set_option linter.unusedSimpArgs false
set_option linter.unusedVariables false
set_option maxRecDepth 100000
namespace Go.Proofs.Ytjmjiegplnfiiaa
open Go Go.Pv
section
variable {xs : List Task} {c : Crew} {d : List Slot} {x : Slot} {t : Task} {m : Nat}
end

end Go.Proofs.Ytjmjiegplnfiiaa

/- ErectionScheduleChecks at P level. No conditions. -/
set_option linter.unusedSimpArgs false
set_option linter.unusedVariables false
set_option maxRecDepth 100000
namespace Go.Proofs.Ytjmjiegplnfiiaa
open Go Go.Pv
end Go.Proofs.Ytjmjiegplnfiiaa
