/- The network as it is built: plain laws. No conditions. -/
import Derived.Test.YtigdmkhdmbbfiaaFh
import Derived.Test.YtigdmkhdmbbfiaaPvGh
set_option linter.unusedSimpArgs false
set_option linter.unusedVariables false
set_option maxRecDepth 100000
namespace Go.Proofs.Ytigdmkhdmbbfiaa
open Go Go.Pv
section
variable {α β : Type} [DecidableEq α] {f : α → PV} {g : β → PV} {P : Program} {ρ : Operand → PV} {h : Heap} {key : Key} {x y z : Operand} {t t' : TypeId}
theorem e_msetV {kt et : TypeId} {k : Key} {l : List (α × β)} {a : α} {b : β} (hf : ∀ a b, keyEq (f a) (f b) = decide (a = b)) (hko : ∀ a, keyOk P kt (f a)) (hx : ρ x = .map k) (hy : ρ y = f a) (hz : ρ z = g b) (hc : mval (g b) = true) (hm : MapAt h k (entsOf f g l)) (ht : mapTy P t = some (kt, et)) :
   eff P ρ h key (.mapUpdate t x y z) = ⟨True, .dead, [(k, some (mSet (h k) (f a) (g b)))], [k], false⟩ := by
 obtain ⟨bs, clk, hm, _⟩ := hm
 simp only [eff, hx, hy, hz, mapUpdateEff, ht, hm, mSet, hc]
 simp [hko a]
 exact fun u w hu => ents_ok (g := g) (l := l) hko (u, w) hu
end
/-! ### The network as it is built -/
def hdL (t : Traffic) (p : Nat) : List Arc := (List.range (t.days.toNat - 1)).map (arH t p)
def alS (t : Traffic) (k : Nat) : List Arc := (t.supplies.take k).map (arS t)
def alN (t : Traffic) (k : Nat) : List Arc := t.supplies.map (arS t) ++ (t.needs.take k).map (arN t)
def alH (t : Traffic) (p d : Nat) : List Arc := t.supplies.map (arS t) ++ (t.needs.map (arN t) ++ ((List.range p).flatMap (hdL t) ++ (List.range d).map (arH t p)))
def alR (t : Traffic) (i d : Nat) : List Arc := t.supplies.map (arS t) ++ (t.needs.map (arN t) ++ (hldL t ++ ((List.range i).flatMap (rtL t) ++ (List.range d).map (arR t i (t.routes.getD i default)))))
section
variable {t : Traffic} {k p d i : Nat} {s : Supply}
theorem take_s {α : Type} {l : List α} {x : α} (hx : l[k]? = some x) : l.take (k + 1) = l.take k ++ [x] := by rw [List.take_add_one, hx]; rfl
theorem alS_s (hx : t.supplies[k]? = some s) : alS t k ++ [arS t s] = alS t (k + 1) := by rw [alS, alS, take_s hx, List.map_append]; rfl
theorem alS_e (hk : t.supplies.length ≤ k) : alS t k = alN t 0 := by rw [alS, alN, List.take_of_length_le hk]; simp
theorem alN_s (hx : t.needs[k]? = some s) : alN t k ++ [arN t s] = alN t (k + 1) := by rw [alN, alN, take_s hx, List.map_append, List.append_assoc]; rfl
theorem alN_e (hk : t.needs.length ≤ k) : alN t k = alH t 0 0 := by rw [alN, alH, List.take_of_length_le hk]; simp
theorem alH_s : alH t p d ++ [arH t p d] = alH t p (d + 1) := by
 simp only [alH, List.range_succ, List.map_append, List.append_assoc, List.map_cons, List.map_nil]
theorem alH_e (hd : d = t.days.toNat - 1) : alH t p d = alH t (p + 1) 0 := by
 subst hd
 simp only [alH, List.range_succ, List.flatMap_append, List.flatMap_cons, List.flatMap_nil, List.append_nil, List.range_zero, List.map_nil]; rfl
theorem alH_z (hp : p = t.places.toNat) : alH t p 0 = alR t 0 0 := by
 subst hp
 simp only [alH, alR, List.range_zero, List.map_nil, List.flatMap_nil, List.append_nil]; rfl
theorem alR_s {r : Route} (hr : t.routes.getD i default = r) : alR t i d ++ [arR t i r d] = alR t i (d + 1) := by
 subst hr
 simp only [alR, List.range_succ, List.map_append, List.append_assoc, List.map_cons, List.map_nil]
theorem alR_e (hd : d = (t.days - (t.routes.getD i default).days).toNat) : alR t i d = alR t (i + 1) 0 := by
 subst hd
 simp only [alR, List.range_succ, List.flatMap_append, List.flatMap_cons, List.flatMap_nil, List.append_nil, List.range_zero, List.map_nil]; rfl
theorem alR_z (hi : i = t.routes.length) : alR t i 0 = arcs t := by
 subst hi
 simp only [alR, arcs, List.range_zero, List.map_nil, List.append_nil]
theorem flat_len {α : Type} {f : α → List Arc} {m : Nat} : ∀ {l : List α}, (∀ x ∈ l, (f x).length ≤ m) → (l.flatMap f).length ≤ l.length * m
 | [], _ => by simp
 | x :: l, h => by
   rw [List.flatMap_cons, List.length_append, List.length_cons, Nat.add_mul]
   have h1 := h x (by simp)
   have h2 := flat_len (l := l) fun y hy => h y (by simp [hy])
   omega
theorem rtL_len (hT : TrOK t) (i : Nat) : (rtL t i).length ≤ 20 := by
 have hB := hT.hB
 rw [rtL, List.length_map, List.length_range]
 by_cases hi : i < t.routes.length
 · have h7 : t.routes.getD i default = t.routes[i] := by rw [List.getD_eq_getElem?_getD, List.getElem?_eq_getElem hi]; rfl
   have h8 := hT.rt _ (List.getElem_mem hi)
   rw [h7]; omega
 · have h7 : t.routes.getD i default = default := by rw [List.getD_eq_getElem?_getD, List.getElem?_eq_none (by omega)]; rfl
   have h9 : (default : Route).days = 0 := rfl
   rw [h7, h9]; omega
theorem alS_len (hT : TrOK t) : (alS t k).length ≤ 100000 := by
 have := hT.hs; rw [alS, List.length_map, List.length_take]; omega
theorem alN_len (hT : TrOK t) : (alN t k).length ≤ 100000 := by
 have := hT.hs; have := hT.hn; rw [alN, List.length_append, List.length_map, List.length_map, List.length_take]; omega
theorem alH_len (hT : TrOK t) (hp : p ≤ 8) (hd : d ≤ 20) : (alH t p d).length ≤ 100000 := by
 have h1 := hT.hs; have h2 := hT.hn; have h3 := hT.hB
 have h4 := flat_len (f := hdL t) (m := 20) (l := List.range p) (fun x _ => by rw [hdL, List.length_map, List.length_range]; omega)
 rw [List.length_range] at h4
 simp only [alH, List.length_append, List.length_map, List.length_range]; omega
theorem alR_len (hT : TrOK t) (hi : i ≤ 30) (hd : d ≤ 20) : (alR t i d).length ≤ 100000 := by
 have h1 := hT.hs; have h2 := hT.hn; have h3 := hT.hB; have h5 := hT.hA
 have h4 := flat_len (f := hdL t) (m := 20) (l := List.range t.places.toNat) (fun x _ => by rw [hdL, List.length_map, List.length_range]; omega)
 have h6 := flat_len (f := rtL t) (m := 20) (l := List.range i) (fun x _ => rtL_len hT x)
 rw [List.length_range] at h4 h6
 have h7 : (hldL t).length ≤ t.places.toNat * 20 := h4
 simp only [alR, List.length_append, List.length_map, List.length_range]; omega
end
def NetA (t : Traffic) (N : Nat) (h : Heap) (gp gF gm : Nat) (al : List Arc) : Prop := NetX t N h gp gF gm (psOf (al.map fun a => (a, 0))) al
/-- The trips of pipes. -/
def TrM (al : List Arc) (m : List (Int × Trip)) : Prop := ∀ j : Nat, aGet ((2 * j : Nat) : Int) m = ((al[j]?).bind (·.tg)).map fun z => (⟨z.1, z.2, 0⟩ : Trip)
theorem TrM.none {al : List Arc} {m : List (Int × Trip)} {x : Arc} (h : TrM al m) (hx : x.tg = .none) : TrM (al ++ [x]) m := fun j => by
 rw [h j]
 rcases Nat.lt_trichotomy j al.length with e | e | e
 · rw [List.getElem?_append_left e]
 · subst e; rw [List.getElem?_eq_none (Nat.le_refl _), List.getElem?_append_right (Nat.le_refl _), Nat.sub_self]
   simp [hx]
 · rw [List.getElem?_eq_none (by omega), List.getElem?_eq_none (by simp; omega)]
theorem TrM.some {al : List Arc} {m : List (Int × Trip)} {x : Arc} {z : Int × Int} (h : TrM al m) (hx : x.tg = .some z) : TrM (al ++ [x]) (aSet ((2 * al.length : Nat) : Int) ⟨z.1, z.2, 0⟩ m) := fun j => by
 rw [aGet_aSet, h j]
 rcases Nat.lt_trichotomy j al.length with e | e | e
 · rw [if_neg (by omega), List.getElem?_append_left e]
 · subst e; rw [if_pos rfl, List.getElem?_append_right (Nat.le_refl _), Nat.sub_self]
   simp [hx]
 · rw [if_neg (by omega), List.getElem?_eq_none (by omega), List.getElem?_eq_none (by simp; omega)]
def trV (z : Trip) : PV := .agg z.enc
def siS : List Nat := [25, 26, 47, 48, 58, 59, 23, 30]
/-- What was there ahead of a call is there still, but for some places of the text. -/
def OldS (c0 : Nat → Nat) (h0 h : Heap) (c : Nat → Nat) : Prop := (∀ k : Key, inS siS k.1 = false → k.2 < c0 k.1 → h k = h0 k) ∧ ∀ x, c0 x ≤ c x
section
variable {t : Traffic} {N : Nat} {h h' h0 : Heap} {gp gF gm : Nat} {ps : List Pipe} {al : List Arc} {x : Arc} {c0 c c' : Nat → Nat}
theorem OldS.refl : OldS c0 h0 h0 c0 := ⟨fun _ _ _ => rfl, fun _ => Nat.le_refl _⟩
theorem OldS.new {d : Nat} {o : Option PObj} (hO : OldS c0 h0 h c) : OldS c0 h0 (hset h (d, c d) o) (cset c d) :=
 ⟨fun k h1 hk => (hset_ne (fun e => by rw [e] at hk; exact absurd (Nat.lt_of_lt_of_le hk (hO.2 d)) (Nat.lt_irrefl _))).trans (hO.1 k h1 hk), fun x => Nat.le_trans (hO.2 x) (cset_le _ _ _)⟩
theorem OldS.upd {k : Key} {o : Option PObj} (hO : OldS c0 h0 h c) (hk : c0 k.1 ≤ k.2) : OldS c0 h0 (hset h k o) c :=
 ⟨fun k' h1 hk' => (hset_ne (fun e => by rw [e] at hk'; omega)).trans (hO.1 k' h1 hk'), hO.2⟩
theorem OldS.fr (hO : OldS c0 h0 h c) (hF : FrS siS h c h' c') : OldS c0 h0 h' c' :=
 ⟨fun k h1 hk => (hF.1 k h1).trans (hO.1 k h1 hk), fun x => Nat.le_trans (hO.2 x) (hF.2 x)⟩
theorem NetX.set {d e : Nat} {o : Option PObj} (h1 : Nat.beq 30 d = false) (h2 : Nat.beq 26 d = false) (h3 : Nat.beq 23 d = false) (h4 : Nat.beq 48 d = false) (h5 : Nat.beq 59 d = false) (hn : NetX t N h gp gF gm ps al) : NetX t N (hset h (d, e) o) gp gF gm ps al := by
 obtain ⟨vP, vs, hn⟩ := hn; exact ⟨vP, vs, hn.set h1 h2 h3 h4 h5⟩
theorem psOf_snoc : psOf ((al ++ [x]).map fun a => (a, 0)) = psOf (al.map fun a => (a, 0)) ++ [⟨x.b, x.cap⟩, ⟨x.a, 0⟩] := by
 rw [List.map_append, psOf_app]
 simp [psOf]
theorem psA_len : (psOf (al.map fun a => (a, 0))).length = 2 * al.length := by rw [psOf_len, List.length_map]
/-- A pipe is added. -/
theorem addA (hN : NetA t N h0 gp gF gm al) (hal : al.length ≤ 100000) (a b room : Int) (ha : 0 ≤ a ∧ a < (N : Int)) (hb : 0 ≤ b ∧ b < (N : Int)) (hab : a ≠ b) (x : Arc) (hxa : x.a = a) (hxb : x.b = b) (hxc : x.cap = room) :
   HCallsR Try.prog 92 [.ptr (30, gp) 10 0 5, .int a, .int b, .int room] h0 c0 fun v h c => v = .int ((2 * al.length : Nat) : Int) ∧ NetA t N h gp gF gm (al ++ [x]) ∧ FrS siS h0 c0 h c := by
 obtain ⟨vP, vs, hn⟩ := hN
 refine HCallsR.mono (addH t N gp gF gm vP vs _ al x a b room h0 c0 hn psA_len hal ha hb hab hxa hxb) fun v h c hR => ⟨hR.1, ?_, hR.2.2⟩
 have := hR.2.1
 rw [NetA, psOf_snoc, hxa, hxb, hxc]; exact this
theorem NetX.ex (h0 : Heap) (c0 : Nat → Nat) : ∃ h, NetX t N h gp gF gm ps al ∧ FrS siS h0 c0 h c0 := by
 let vs : List PV := (List.range N).map fun u => .ref (48, u) 1 0 ((adjF al u).map ci).length
 let h : Heap := fun k => if k = (30, gp) then some (.rows 10 [t.enc ++ [.ref (26, 0) 2 0 (ps.map Pipe.enc).length, .ref (23, gF) 1 0 N, .int (ndS t), .int (ndE t), .map (28, gm)]]) else if k = (26, 0) then some (.rows 2 (ps.map Pipe.enc)) else if k = (23, gF) then some (.rows 1 (vs.map cv)) else if k.1 = 48 then some (.rows 1 ((adjF al k.2).map ci)) else h0 k
 have hv : ∀ (u : Nat) (v : PV), vs[u]? = some v → v = .ref (48, u) 1 0 ((adjF al u).map ci).length := fun u v hv => by
   rw [List.getElem?_map, Option.map_eq_some_iff] at hv
   obtain ⟨u', h1, rfl⟩ := hv
   obtain ⟨h3, h4⟩ := List.getElem?_eq_some_iff.1 h1
   rw [List.getElem_range] at h4
   subst h4; rfl
 have h48 : ∀ u, h (48, u) = some (.rows 1 ((adjF al u).map ci)) := fun u => rfl
 refine ⟨h, ⟨.ref (26, 0) 2 0 (ps.map Pipe.enc).length, vs, if_pos rfl, .inr ⟨0, rfl, rfl⟩, ?_, by simp [vs], ⟨⟨fun i v hi => ?_, fun i j v hi hj _ => ?_⟩, fun u v hu => ?_⟩⟩, fun k hk => ?_, fun _ => Nat.le_refl _⟩
 · show (if _ then _ else if _ then _ else if _ then _ else _) = _
   rw [if_neg (key_ne rfl), if_neg (key_ne rfl), if_pos rfl]
 · exact ⟨_, .inl (.inr ⟨i, hv i v hi, h48 i⟩), by rw [List.length_map]; exact adj_len al i⟩
 · have := (hv i v hi).symm.trans (hv j v hj); cases this; rfl
 · exact ⟨.inl (.inr ⟨u, hv u v hu, h48 u⟩), adj_len al u⟩
 · have hne := inS_ne hk
   show (if _ then _ else if _ then _ else if _ then _ else if _ then _ else _) = _
   rw [if_neg (hne 30 (by simp [siS]) _), if_neg (hne 26 (by simp [siS]) _), if_neg (hne 23 (by simp [siS]) _), if_neg (fun q => hne 48 (by simp [siS]) k.2 (by rw [← q]))]
end
section
variable {P : Program} {K : PS → Prop} {d : Nat} {op : Op} {ty : TypeId} {pos : String} {aft : Array Edge} {gd : Option (Nat × Bool)} {rest : List Oper} {r : Nat → PV} {h : Heap} {cnt : Nat → Nat} {ops : Array Oper} {i : Nat} {G : Nat → Bool} {dd : Bool}
/-- A call that changes memory: all that is ahead of it is done, nothing behind it has begun. -/
theorem s_hcall {f : FuncId} {args : List PV} {R : PV → Heap → (Nat → Nat) → Prop} {ts : List Ft} (hb : (!dd || (barrierB ops i && indAll ops ts)) = true) (hg : gobB ops r G gd = true) (hgv : gval ops ⟨⟨r, h, cnt⟩, G⟩ gd = true) (hc : callOf r op = some (f, args)) (hv : validB r G op = true) (hp : HCallsR P f args h cnt R)
   (hk : ∀ v h' cnt', R v h' cnt' → sRun P ops dd K rest (i + 1) ⟨setT r d v, h', cnt'⟩ (setB G d true) []) : sRun P ops dd K (⟨some d, op, ty, pos, aft, gd⟩ :: rest) i ⟨r, h, cnt⟩ G ts := by
 intro tr ht
 unfold gOps
 refine ⟨gobB_ok hg, ?_⟩
 show match callOf r op with | none => _ | some (f, args) => _
 rw [hc]
 refine .inr (.inl ⟨hgv, validB_ok hv, fun hd => ?_, HCallsR.mono hp fun v h' cnt' hR => ?_⟩)
 · rw [hd] at hb
   simp only [Bool.not_true, Bool.false_or, Bool.and_eq_true] at hb
   exact ⟨hb.1, indAll_ok hb.2 ht⟩
 · have := hk v h' cnt' hR [] ⟨rfl, fun j x t hx => by simp at hx⟩
   simp only [putR_setT, setG_setB]
   exact this
/-- A call that reads own memory, in a region with a call that changes it. -/
theorem x_callM {f : FuncId} {args : List PV} {v : PV} {tr : List XIt} (ks : List Key) (ho : ops[i]? = some ⟨some d, op, ty, pos, aft, none⟩) (hc : callOf r op = some (f, args)) (hkl : keyless op = false) (hv : validB r G op = true)
   (hp : ∀ h' : Heap, (∀ k ∈ ks, h' k = h k) → ∀ c', HCallsR P f args h' c' fun v' h2 c2 => v' = v ∧ h2 = h' ∧ c2 = c')
   (hk : xS P ops K rest (i + 1) ⟨⟨setT r d v, h, cnt⟩, setB G d true⟩ (tr ++ [⟨i, ⟨some d, op, ty, pos, aft, none⟩, true, ⟨True, v, [], ks, false⟩, ⟨i, ks, []⟩, none, fun _ => .val True v⟩])) :
   xS P ops K (⟨some d, op, ty, pos, aft, none⟩ :: rest) i ⟨⟨r, h, cnt⟩, G⟩ tr := by
 refine XAt.next (x := ⟨i, ⟨some d, op, ty, pos, aft, none⟩, true, ⟨True, v, [], ks, false⟩, ⟨i, ks, []⟩, none, fun _ => .val True v⟩) ⟨⟨ho, rfl, trivial, rfl, .inr (.inr ⟨f, args, hc, rfl, validB_ok hv, rfl, .inr ⟨v, ks, rfl, hp⟩, rfl, rfl⟩)⟩, fun q => by rw [hkl] at q; cases q⟩ rfl ?_
 show xS P ops K rest (i + 1) ⟨⟨putR r (some d) v, _, _⟩, setG G (some d) true⟩ _
 rw [putR_setT, setG_setB]; exact hk
/-- A store, in a region with a call that changes own memory. -/
theorem x_store {ob : Prop} {v : PV} {rd : List Key} {k : Key} {o : Option PObj} {tr : List XIt} (ho : ops[i]? = some ⟨none, op, ty, pos, aft, none⟩) (hc : callOf r op = none) (hkl : keyless op = false) (hv : validB r G op = true) (he : eff P (ev r) h (999983, cnt 999983) op = ⟨ob, v, [(k, o)], rd, false⟩) (hob : ob)
   (hk : xS P ops K rest (i + 1) ⟨⟨r, hset h k o, cnt⟩, G⟩ (tr ++ [⟨i, ⟨none, op, ty, pos, aft, none⟩, true, ⟨ob, v, [(k, o)], rd, false⟩, ⟨i, rd, [k]⟩, none, fun _ => .val True .dead⟩])) :
   xS P ops K (⟨none, op, ty, pos, aft, none⟩ :: rest) i ⟨⟨r, h, cnt⟩, G⟩ tr := by
 refine XAt.next (x := ⟨i, ⟨none, op, ty, pos, aft, none⟩, true, ⟨ob, v, [(k, o)], rd, false⟩, ⟨i, rd, [k]⟩, none, fun _ => .val True .dead⟩) ⟨⟨ho, rfl, trivial, rfl, .inl ⟨hc, fun _ => ⟨validB_ok hv, hob⟩, (fun h => by cases h), ?_, rfl, rfl⟩⟩, fun q => by rw [hkl] at q; cases q⟩ rfl ?_
 · show _ = effG true _
   simp only [siteOf, Option.getD_none, effG, if_true]
   exact he.symm
 · exact hk
/-- Pairs that wait are told by sets of numbers. -/
theorem xw {R : List Nat} {x y : XIt} {i j : Nat} (hR : okR ops R = true) (hx : x.i = i) (hy : y.i = j) (h : (Nat.blt j ops.size && (R.getD j 0).testBit i) = true) : XIndep ops x y := by
 rw [Bool.and_eq_true] at h
 subst hx; subst hy
 have h1 : y.i < ops.size := by simpa using h.1
 exact .inl (okR_waits hR ops.size y.i x.i h1 h1 h.2)
end

end Go.Proofs.Ytigdmkhdmbbfiaa
