import Derived.Test.YtigdmkhdmbbfiaaPvGg
import Derived.Test.YtigdmkhdmbbfiaaPvGu
set_option linter.unusedSimpArgs false
set_option linter.unusedVariables false
namespace Go.Pv
open Go Go.RowKit
section
variable {P : Program} {K : PS → Prop} {d : Nat} {op : Op} {ty : TypeId} {pos : String} {aft : Array Edge} {gd : Option (Nat × Bool)} {rest : List Oper} {r : Nat → PV} {h : Heap} {cnt : Nat → Nat} {ops : Array Oper} {i : Nat} {G : Nat → Bool} {dd : Bool}
theorem zGQ {f : FuncId} {args : List PV} {ts : List Ft} (rs : List Nat) (hrd : ∀ k ∈ args.flatMap zBS, k.1 ∈ rs) (hg : gobB ops r G gd = true) (hgv : gval ops ⟨⟨r, h, cnt⟩, G⟩ gd = false) (hc : zAO r op = some (f, args))
   (hk : sRun P ops dd K rest (i + 1) ⟨setT r d .dead, h, cnt⟩ (setB G d false) (ts ++ [⟨i, rs, []⟩])) : sRun P ops dd K (⟨some d, op, ty, pos, aft, gd⟩ :: rest) i ⟨r, h, cnt⟩ G ts := by
 intro tr ht;unfold gOps;refine ⟨zCZ hg, ?_⟩;show match zAO r op with | none => _ | some (f, args) => _
 rw [hc];refine .inl ⟨.dead, (fun h => by rw [hgv] at h; cases h), ?_⟩;rw [hgv];have := hk (tr ++ [⟨i, args.flatMap zBS, []⟩]) (ht.snoc rfl hrd (by simp));simp only [stepG, stepS, zAY, zBu];exact this
end
end Go.Pv
namespace Go.Pv
open Go Go.Proofs Go.RowKit Go.Maps Go.Sort
section
variable {P : Program}
end
end Go.Pv
namespace Go.Pv
open Go
section
variable {P : Program} {ρ : Operand → PV} {h : Heap} {key : Key} {x y : Operand} {t : TypeId}
theorem e_cutR {k : Key} {sz len n : Nat} (hx : ρ x = .ref k sz 0 len) (hy : ρ y = .int (n : Int)) (hn : n ≤ len) (ht : zAJ P t = true) (hz : zAn P (zAq P t) = sz) :
   eff P ρ h key (.slice t x none (some y) none) = ⟨True, .ref k sz 0 n, [], [], false⟩ := by
 simp only [eff, Option.map_none, Option.map_some, hx, hy, zC2, bound, ht, hz]; simp; omega
theorem e_cutL {k : Key} {sz len n : Nat} (hx : ρ x = .ref k sz 0 len) (hy : ρ y = .int (n : Int)) (hn : n ≤ len) (ht : zAJ P t = true) (hz : zAn P (zAq P t) = sz) :
   eff P ρ h key (.slice t x (some y) none none) = ⟨True, .ref k sz n (len - n), [], [], false⟩ := by
 simp only [eff, Option.map_none, Option.map_some, hx, hy, zC2, bound, ht, hz]; simp; omega
end
end Go.Pv
namespace Go.Pv
open Go Go.RowKit
section
variable {P : Program} {K : PS → Prop} {d : Nat} {op : Op} {ty : TypeId} {pos : String} {aft : Array Edge} {gd : Option (Nat × Bool)} {rest : List Oper} {r : Nat → PV} {h : Heap} {cnt : Nat → Nat} {ops : Array Oper} {i : Nat} {G : Nat → Bool} {dd : Bool}
end
theorem PNew.of_calls {P : Program} {f : FuncId} {args : List PV} {sz d : Nat} {rows : Rows} (hsz : 1 ≤ sz) (hw : ∀ row ∈ rows, row.length = sz) (hpl : ∀ row ∈ rows, ∀ p ∈ row, ∃ x, p = .sc x ∧ zCj x = true)
   (hc : zAA P f args (fun _ => none) (fun _ => 0) fun v h _ => ∃ g, v = .ref (d, g) sz 0 rows.length ∧ h (d, g) = some (.rows sz rows)) : PNew P f args sz rows := by
 refine ⟨hc.1, hsz, hw, fun w M vs hM hgw hvs hrep => ?_⟩;refine (hc.2 (zBa w M true) vs (zFE hM hgw true) rfl rfl rfl hvs hrep).mono ?_
 rintro e w' ⟨u, v, E', rfl, ⟨g, rfl, hg⟩, rfl, gE, hle, hbl, hu⟩
 obtain ⟨c, T, h5, h6, h7, h8, h9, h10, h11⟩ := gE.obj _ _ hg
 have hown : w.heap.size ≤ E'.blk (d, g) := by
   rcases hle.own (E'.blk (d, g)) ⟨_, _, hg, rfl⟩ with ⟨k, o, h1, _⟩ | h1
   · exact absurd h1 (by simp [zBa])
   · exact h1
 refine ⟨u, E'.blk (d, g), (E'.cap (d, g)).1, (E'.cap (d, g)).2, c, T, rfl, hbl, hown, h5, h6, h7, fun i j row p h1 h2 => ?_, ?_⟩
 · obtain ⟨x, rfl, hx⟩ := hpl row (List.mem_of_getElem? h1) p (List.mem_of_getElem? h2);obtain ⟨v, h3, h4⟩ := h11 i j row _ h1 h2;exact ⟨x, rfl, hx, by rw [h3, h4.sc_inv]⟩
 · generalize hn : rows.length = n at hu h7;cases hu with
   | ref hk hlen hl =>
     obtain ⟨⟨hb, ha⟩, hcap, _⟩ := hl _ hg;subst hb; subst ha;refine .inl ⟨_, ?_, hlen, by simpa using hcap⟩;rw [Nat.zero_mul, Nat.add_zero]
   | refE hk hl => exact .inr ⟨_, rfl, rfl⟩
end Go.Pv
namespace Go.Pv
open Go Go.RowKit
section
variable {P : Program} {K : PS → Prop} {d : Nat} {op : Op} {ty : TypeId} {pos : String} {aft : Array Edge} {gd : Option (Nat × Bool)} {rest : List Oper} {r : Nat → PV} {h : Heap} {cnt : Nat → Nat} {ops : Array Oper} {i : Nat} {G : Nat → Bool} {dd : Bool} {vs : Key → Nat}
variable {x y : Operand} {t : TypeId}
end
end Go.Pv
namespace Go.Pv
open Go Go.RowKit
def zJR (ops : Array Oper) (R : List Nat) : Bool := okR ops R && (List.range ops.size).all fun j => (List.range j).all fun i =>
 (R.getD j 0).testBit i || (((do let a ← ops[i]?; let b ← ops[j]?; pure (a.apart ops b && (zAC a != zAC b || (a.dst.isNone && b.dst.isNone)))) : Option Bool).getD false)
theorem staticR_ok {ops : Array Oper} {R : List Nat} (h : zJR ops R = true) : zIL ops = true := by
 unfold zJR at h;rw [Bool.and_eq_true] at h;refine List.all_eq_true.2 fun j hj => List.all_eq_true.2 fun i hi => ?_;have h1 := List.all_eq_true.1 (List.all_eq_true.1 h.2 j hj) i hi;unfold pairB;rw [Bool.or_eq_true] at h1 ⊢;rcases h1 with h1 | h1
 · left; exact zFn h.1 ops.size j i (List.mem_range.1 hj) (List.mem_range.1 hj) h1
 · right; exact h1
theorem zKX {P : Program} {K : PS → Prop} {r : Nat → PV} {h : Heap} {cnt : Nat → Nat} {ops : Array Oper} {i : Nat} {G : Nat → Bool} {dr : Bool} {ds : List Nat} (R : List Nat) (hs : zJR ops R = true) (hd : zCB ops.toList = ds) (hk : K ⟨deadT r ds, h, cnt⟩) : gRun P ops dr K [] i ⟨r, h, cnt⟩ G :=
 g_end (by rw [staticR_ok hs]; simp) hd hk
end Go.Pv
namespace Go.Pv
open Go
section
variable {P : Program} {h : Heap} {key : Key} {x y z : Operand} {t t' : TypeId} {v : PV} {K : PS → Prop} {d : Nat} {ty : TypeId} {pos : String} {aft : Array Edge} {gd : Option (Nat × Bool)} {rest : List Oper} {r : Nat → PV} {cnt : Nat → Nat}
end
section
variable {P : Program} {K : PS → Prop} {d : Nat} {op : Op} {ty : TypeId} {pos : String} {aft : Array Edge} {rest : List Oper} {r : Nat → PV} {h : Heap} {cnt : Nat → Nat} {ops : Array Oper} {i : Nat} {G : Nat → Bool} {dd : Bool} {x y : Operand} {t : TypeId}
end
end Go.Pv
namespace Go.Pv
open Go Go.RowKit
def cbo (b : Bool) : List PV := [.bool b]
section
variable {P : Program} {ρ : Operand → PV} {h : Heap} {key : Key} {x y : Operand} {t : TypeId}
theorem e_mkB {l c : Operand} {L : Int} {n : Nat} (hx : ρ l = .int L) (hy : ρ c = .int L) (hn : L = (n : Int)) (hz : zAN P (zAq P t) = some [.bool false]) (ho : zAJ P t = true) (hs : zAn P (zAq P t) = 1) (hb : P.bytesOf (zAq P t) < 2 ^ 15) (hl : n < 2 ^ 32) :
   eff P ρ h key (.makeSlice t l c) = ⟨True, .ref key 1 0 n, [(key, some (.rows 1 ((List.replicate n false).map cbo)))], [], true⟩ := by
 subst hn;have h1 : (List.replicate n false).map cbo = List.replicate n [PV.bool false] := by simp [cbo]
 simp only [eff, hx, hy, zBC, hz, ho, hs, hb, h1];simp [PV.cell]; omega
theorem zIA {k : Key} {zs : List Bool} {i : Nat} {a : Bool} (hx : ρ x = .ptr k 1 i 0) (hk : h k = some (.rows 1 (zs.map cbo))) (hy : ρ y = .bool a) (hi : i < zs.length) (hs : zAn P t = 1) (ht : tyOk P t = true) :
   eff P ρ h key (.store t x y) = ⟨True, .dead, [(k, some (.rows 1 ((zs.set i a).map cbo)))], [k], false⟩ := by
 have h1 : setRow (zs.map cbo) i 0 [.bool a] = (zs.set i a).map cbo := by
   unfold setRow setAt;rw [List.map_set];congr 1;simp [List.getD_eq_getElem?_getD, hi, cbo]
 simp only [eff, zCn, hx, hk, hy, hs, ht, zA4];rw [h1];simp [hi, PV.cell]
end
section
variable {α β : Type} [DecidableEq α] {f : α → PV} {g : β → PV}
def zJt (h : Heap) (k : Key) (f : α → PV) (g : β → PV) (l : List (α × β)) (a : α) (s : Nat) : Prop :=
 ∃ bs clk, h k = some (.map (zAQ f g l) bs clk) ∧ bs.length = (zAQ f g l).length ∧ bs.Nodup ∧ (∀ b ∈ bs, b < clk) ∧ ∀ v, zCg (s : Int) (g v) (zAQ f g l) bs = some (zAQ f g (aSet a v l))
theorem zIh {a : α} {u : β} {e : α × β} {l : List (α × β)} (h : a = e.1) : aSet a u (e :: l) = (a, u) :: l := by simp [aSet, h]
theorem zIg {a : α} {u : β} {e : α × β} {l : List (α × β)} (h : ¬ a = e.1) : aSet a u (e :: l) = e :: aSet a u l := by simp [aSet, h]
theorem zFu {a : α} {u v : β} : ∀ l : List (α × β), aSet a v (aSet a u l) = aSet a v l
 | [] => by simp [aSet]
 | e :: l => by
   by_cases he : a = e.1
   · rw [zIh he, zIh he, zIh (e := (a, u)) rfl]
   · rw [zIg he, zIg he, zIg he, zFu l]
theorem zKF {a : α} {u v : β} : ∀ l : List (α × β), (aSet a u l).length = (aSet a v l).length
 | [] => by simp [aSet]
 | e :: l => by
   by_cases he : a = e.1
   · rw [zIh he, zIh he]; rfl
   · rw [zIg he, zIg he, List.length_cons, List.length_cons, zKF l]
theorem zGi {k : PV} : ∀ (es : List (PV × PV)) (bs : List Nat) (clk : Nat), zBg k es bs clk ∈ bs ∨ zBg k es bs clk = clk
 | [], _, _ => .inr (by simp [zBg])
 | _ :: _, [], _ => .inr (by simp [zBg])
 | e :: es, b :: bs, clk => by
   unfold zBg;split
   · exact .inl List.mem_cons_self
   · exact (zGi es bs clk).imp_left (List.mem_cons_of_mem _)
theorem zGh (hf : ∀ a b, keyEq (f a) (f b) = decide (a = b)) (a : α) (u : β) : ∀ (l : List (α × β)) (bs : List Nat) (clk : Nat), bs.length = l.length → bs.Nodup → (∀ b ∈ bs, b < clk) →
   ∀ v, zCg (zBg (f a) (zAQ f g l) bs clk : Int) (g v) (zAQ f g (aSet a u l)) (stB (f a) (zAQ f g l) bs clk) = some (zAQ f g (aSet a v l))
 | [], bs, clk, hl, _, _, v => by
   have : bs = [] := List.length_eq_zero_iff.1 hl;subst this;simp [zAQ, aSet, zBg, stB, zCg, zAS]
 | e :: l, [], clk, hl, _, _, v => by simp at hl
 | e :: l, b :: bs, clk, hl, hn, hb, v => by
   have hn' := List.nodup_cons.1 hn;have hfe := hf a e.1;show zCg (zBg (f a) ((f e.1, g e.2) :: zAQ f g l) (b :: bs) clk : Int) (g v) (zAQ f g (aSet a u (e :: l))) (stB (f a) ((f e.1, g e.2) :: zAQ f g l) (b :: bs) clk) = some (zAQ f g (aSet a v (e :: l)));by_cases he : a = e.1
   · subst he;simp only [decide_true] at hfe;simp [zBg, hfe, stB, zAS, aSet, zAQ, zCg]
   · rw [decide_eq_false he] at hfe;have ih := zGh hf a u l bs clk (by simpa using hl) hn'.2 (fun x hx => hb x (List.mem_cons_of_mem _ hx)) v;have hs : zBg (f a) ((f e.1, g e.2) :: zAQ f g l) (b :: bs) clk = zBg (f a) (zAQ f g l) bs clk := by simp [zBg, hfe]
     have hB : stB (f a) ((f e.1, g e.2) :: zAQ f g l) (b :: bs) clk = b :: stB (f a) (zAQ f g l) bs clk := by
       unfold stB;have : zAS (f a) ((f e.1, g e.2) :: zAQ f g l) = zAS (f a) (zAQ f g l) := by simp [zAS, hfe]
       rw [this]; split <;> rfl
     have hne : ¬ (b : Int) = (zBg (f a) (zAQ f g l) bs clk : Int) := fun h => by
       have h' : b = zBg (f a) (zAQ f g l) bs clk := by omega
       rcases zGi (k := f a) (zAQ f g l) bs clk with h2 | h2
       · rw [← h'] at h2; exact hn'.1 h2
       · have := hb b List.mem_cons_self; omega
     rw [hs, hB];have e1 : zAQ f g (aSet a u (e :: l)) = (f e.1, g e.2) :: zAQ f g (aSet a u l) := by simp [aSet, he, zAQ]
     have e2 : zAQ f g (aSet a v (e :: l)) = (f e.1, g e.2) :: zAQ f g (aSet a v l) := by simp [aSet, he, zAQ]
     rw [e1, e2];unfold zCg;rw [if_neg (by simpa using hne), ih]; rfl
theorem e_mentry {P : Program} {ρ : Operand → PV} {h : Heap} {key : Key} {x y : Operand} {t : TypeId} {kt et : TypeId} {k : Key} {l : List (α × β)} {a : α} {z : β} (hf : ∀ a b, keyEq (f a) (f b) = decide (a = b)) (hko : ∀ a, keyOk P kt (f a)) (hx : ρ x = .map k) (hy : ρ y = f a) (hm : MapAt h k (zAQ f g l)) (ht : mapTy P t = some (kt, et)) (hz : zC7 P et = true) (hzv : zCe P et = g z) (hmv : ∀ b, mval (g b) = true) :
   ∃ (s : Nat) (o : PObj), eff P ρ h key (.mapEntry t x y) = ⟨True, .tup [g ((aGet a l).getD z), .int s], [(k, some o)], [k], false⟩ ∧ ∀ h' : Heap, h' k = some o → zJt h' k f g (aSet a ((aGet a l).getD z) l) a s := by
 obtain ⟨bs, clk, h1, h2, h3, h4⟩ := hm;have hl : bs.length = l.length := by rw [h2]; simp [zAQ]
 have hv : (zAS (f a) (zAQ f g l)).getD (zCe P et) = g ((aGet a l).getD z) := by
   rw [zEv hf, hzv]; cases aGet a l <;> rfl
 refine ⟨zBg (f a) (zAQ f g l) bs clk, .map (zAQ f g (aSet a ((aGet a l).getD z) l)) (stB (f a) (zAQ f g l) bs clk) (stC (f a) (zAQ f g l) clk), ?_, fun h' hh => ?_⟩
 · simp only [eff, zA5, hx, hy, ht, h1, hv, zEu hf];simp [hko a, hz, hmv];exact fun u w hu => zIa (g := g) (l := l) hko (u, w) hu
 · have hq := MapAt.set (f := f) (g := g) (h := h) (k := k) (l := l) hf ⟨bs, clk, h1, h2, h3, h4⟩ a ((aGet a l).getD z);obtain ⟨bs', clk', q1, q2, q3, q4⟩ := hq;simp only [hset, if_true, h1, mSet, zEu hf, Option.some.injEq, PObj.map.injEq] at q1;obtain ⟨_, rfl, rfl⟩ := q1;refine ⟨_, _, hh, q2, q3, q4, fun v => ?_⟩;rw [zGh hf a _ l bs clk hl h3 h4 v, zFu]
theorem e_estore {P : Program} {ρ : Operand → PV} {h : Heap} {key : Key} {x y w : Operand} {t : TypeId} {k : Key} {l : List (α × β)} {a : α} {b : β} {s : Nat} (hx : ρ x = .map k) (hy : ρ y = .int s) (hw : ρ w = g b) (hm : zJt h k f g l a s) (hmv : mval (g b) = true) :
   ∃ o : PObj, eff P ρ h key (.entryStore t x y w) = ⟨True, .dead, [(k, some o)], [k], false⟩ ∧ ∀ h' : Heap, h' k = some o → (l.map (·.1)).length = ((aSet a b l).map (·.1)).length → MapAt h' k (zAQ f g (aSet a b l)) := by
 obtain ⟨bs, clk, h1, h2, h3, h4, h5⟩ := hm;refine ⟨.map (zAQ f g (aSet a b l)) bs clk, ?_, fun h' hh hl => ⟨bs, clk, hh, ?_, h3, h4⟩⟩
 · simp only [eff, zBy, hx, hy, hw, h1, h5 b];simp [hmv]
 · rw [h2]; simpa [zAQ] using hl
end
section
variable {α β : Type} [DecidableEq α] {f : α → PV} {g : β → PV}
variable {P : Program} {K : PS → Prop} {d : Nat} {ty : TypeId} {pos : String} {aft : Array Edge} {gd : Option (Nat × Bool)} {rest : List Oper} {r : Nat → PV} {h : Heap} {cnt : Nat → Nat} {ops : Array Oper} {i : Nat} {G : Nat → Bool} {dd : Bool} {x y w : Operand} {t : TypeId}
theorem s_mentry {kt et : TypeId} {m q : Nat} {l : List (α × β)} {a : α} {z : β} {ts : List Ft} (hf : ∀ a b, keyEq (f a) (f b) = decide (a = b)) (hko : ∀ a, keyOk P kt (f a)) (hg : gobB ops r G gd = true) (hgv : gval ops ⟨⟨r, h, cnt⟩, G⟩ gd = true) (hv : zB5 r G (.mapEntry t x y) = true) (hx : ev r x = .map (m, q)) (hy : ev r y = f a) (hm : MapAt h (m, q) (zAQ f g l)) (ht : mapTy P t = some (kt, et)) (hz : zC7 P et = true) (hzv : zCe P et = g z) (hmv : ∀ b, mval (g b) = true)
   (hk : ∀ (h' : Heap) (s : Nat), zJt h' (m, q) f g (aSet a ((aGet a l).getD z) l) a s → (∀ k' : Key, k' ≠ (m, q) → h' k' = h k') → sRun P ops dd K rest (i + 1) ⟨setT r d (.tup [g ((aGet a l).getD z), .int s]), h', cnt⟩ (setB G d true) (ts ++ [⟨i, [m], [m]⟩])) :
   sRun P ops dd K (⟨some d, .mapEntry t x y, ty, pos, aft, gd⟩ :: rest) i ⟨r, h, cnt⟩ G ts := by
 obtain ⟨s, o, he, hS⟩ := e_mentry (key := (d, cnt d)) hf hko hx hy hm ht hz hzv hmv
 exact s_any [m] [m] hg hgv (by rw [he]; simp) (by rw [he]; simp) rfl hv rfl (by rw [he]; trivial) (by
   rw [he];exact hk (hset h (m, q) (some o)) s (hS _ (zAd _ _ _)) fun k' hk' => zAb hk')
theorem s_estore {m q : Nat} {l : List (α × β)} {a : α} {b u : β} {s : Nat} {ts : List Ft} (hv : zB5 r G (.entryStore t x y w) = true) (hx : ev r x = .map (m, q)) (hy : ev r y = .int s) (hw : ev r w = g b) (hm : zJt h (m, q) f g (aSet a u l) a s) (hmv : mval (g b) = true)
   (hk : ∀ h' : Heap, MapAt h' (m, q) (zAQ f g (aSet a b l)) → (∀ k' : Key, k' ≠ (m, q) → h' k' = h k') → sRun P ops dd K rest (i + 1) ⟨r, h', cnt⟩ G (ts ++ [⟨i, [m], [m]⟩])) :
   sRun P ops dd K (⟨none, .entryStore t x y w, ty, pos, aft, none⟩ :: rest) i ⟨r, h, cnt⟩ G ts := by
 obtain ⟨o, he, hM⟩ := e_estore (P := P) (key := (999983, cnt 999983)) (t := t) hx hy hw hm hmv;refine zCa [m] (by simp) rfl hv he trivial ?_
 refine hk _ (by
   have := hM (hset h (m, q) (some o)) (zAd _ _ _) (by rw [zFu, List.length_map, List.length_map]; exact zKF l);rw [zFu] at this; exact this) fun k' hk' => zAb hk'
end
end Go.Pv
namespace Go.Pv
open Go Go.RowKit
section
variable {P : Program} {K : PS → Prop} {d : Nat} {op : Op} {ty : TypeId} {pos : String} {aft : Array Edge} {rest : List Oper} {r : Nat → PV} {h : Heap} {cnt : Nat → Nat} {ops : Array Oper} {i : Nat} {G : Nat → Bool}
def xS (P : Program) (ops : Array Oper) (K : PS → Prop) (rest : List Oper) (i : Nat) (σ : GS) (tr : List XIt) : Prop :=
 ∃ (L : List XIt) (σ' : GS), XRun P ops L σ σ' ∧ L.map (·.i) = List.range' i rest.length ∧ (tr ++ L).Pairwise (zHo ops) ∧ K (fin ops.toList σ'.s)
theorem keyless_key {ρ : Operand → PV} {h : Heap} {k k' : Key} {op : Op} (hk : zCV op = true) : eff P ρ h k op = eff P ρ h k' op := by
 cases op <;> first | rfl | (simp [zCV] at hk)
theorem x_end {tr : List XIt} (hp : tr.Pairwise (zHo ops)) (hd : zCB ops.toList = []) (hk : K ⟨r, h, cnt⟩) : xS P ops K [] i ⟨⟨r, h, cnt⟩, G⟩ tr := by
 refine ⟨[], _, .nil _, rfl, by simpa using hp, ?_⟩;unfold fin;rw [zFr, hd];have : deadT r [] = r := by funext j; simp [deadT]
 rw [this]; exact hk
theorem XAt.next {x : XIt} {σ : GS} {tr : List XIt} (hx : XAt P ops x σ) (hi : x.i = i) {o : Oper} (hk : xS P ops K rest (i + 1) (stepX σ x) (tr ++ [x])) : xS P ops K (o :: rest) i σ tr := by
 obtain ⟨L, σ', h1, h2, h3, h4⟩ := hk;refine ⟨x :: L, σ', .cons hx h1, ?_, by simpa using h3, h4⟩;rw [List.map_cons, h2, hi, List.length_cons, List.range'_succ]
theorem zB4 {ob : Prop} {v : PV} {rd : List Key} {tr : List XIt} (ho : ops[i]? = some ⟨some d, op, ty, pos, aft, none⟩) (hc : zAO r op = none) (hv : zB5 r G op = true) (he : eff P (ev r) h (d, cnt d) op = ⟨ob, v, [], rd, false⟩) (hob : ob)
   (hk : xS P ops K rest (i + 1) ⟨⟨setT r d v, h, cnt⟩, setB G d true⟩ (tr ++ [⟨i, ⟨some d, op, ty, pos, aft, none⟩, true, ⟨ob, v, [], rd, false⟩, ⟨i, rd, []⟩, none, fun h' => eff P (ev r) h' (0, 0) op⟩])) :
   xS P ops K (⟨some d, op, ty, pos, aft, none⟩ :: rest) i ⟨⟨r, h, cnt⟩, G⟩ tr := by
 refine XAt.next (x := ⟨i, ⟨some d, op, ty, pos, aft, none⟩, true, ⟨ob, v, [], rd, false⟩, ⟨i, rd, []⟩, none, fun h' => eff P (ev r) h' (0, 0) op⟩) ⟨⟨ho, rfl, trivial, rfl, .inl ⟨hc, fun _ => ⟨zBe hv, hob⟩, (fun h => by cases h), ?_, rfl, rfl⟩⟩, fun hkl _ h' key => keyless_key hkl⟩ rfl ?_
 · show _ = effG true _;simp only [zAC, Option.getD_some, effG, if_true];exact he.symm
 · show xS P ops K rest (i + 1) ⟨⟨putR r (some d) v, _, _⟩, setG G (some d) true⟩ _;rw [zAY, zBu]; exact hk
theorem zK1 {f : FuncId} {args : List PV} {v : PV} {ha : Heap} {ca : Nat → Nat} {tr : List XIt} (ho : ops[i]? = some ⟨some d, op, ty, pos, aft, none⟩) (hc : zAO r op = some (f, args)) (hv : zB5 r G op = true) (hp : zAA P f args h cnt fun v' h' c' => v' = v ∧ h' = ha ∧ c' = ca)
   (hk : xS P ops K rest (i + 1) ⟨⟨setT r d v, ha, ca⟩, setB G d true⟩ (tr ++ [⟨i, ⟨some d, op, ty, pos, aft, none⟩, true, .val True v, ⟨i, [], []⟩, some (h, ha, ca), fun _ => .val True v⟩])) :
   xS P ops K (⟨some d, op, ty, pos, aft, none⟩ :: rest) i ⟨⟨r, h, cnt⟩, G⟩ tr := by
 refine XAt.next (x := ⟨i, ⟨some d, op, ty, pos, aft, none⟩, true, .val True v, ⟨i, [], []⟩, some (h, ha, ca), fun _ => .val True v⟩) ⟨ho, trivial, rfl, zBe hv, rfl, f, args, hc, hp⟩ rfl ?_;show xS P ops K rest (i + 1) ⟨⟨putR r (some d) v, ha, ca⟩, setG G (some d) true⟩ _;rw [zAY, zBu]; exact hk
theorem zCf {x y : XIt} (hx : x.hc = none) (hy : y.hc = none) (ha : x.o.apart ops y.o = true) (hs0 : Nat.beq (zAC x.o) (zAC y.o) = false) (h1 : x.ft.wr = []) (h2 : y.ft.wr = []) : XFree ops x y := by
 refine ⟨ha, ?_⟩;rw [hx, hy];exact ⟨.inl (Nat.ne_of_beq_eq_false hs0), by rw [h1]; exact fun k hk => by simp at hk, .inr (by rw [h2]; exact fun k hk => by simp at hk), by rw [h1]; exact fun k hk => by simp at hk⟩
theorem zGK {x y : XIt} {hb ha : Heap} {c : Nat → Nat} (hx : x.hc = some (hb, ha, c)) (hy : y.hc = none) (hap : x.o.apart ops y.o = true) (hc : Calm y hb ha) : XFree ops x y := by
 refine ⟨hap, ?_⟩;rw [hx, hy];exact hc
theorem zI9 {ρ : Operand → PV} {x : Operand} {t : TypeId} {k k' : Key} {sz i j : Nat} {hb ha : Heap} (hx : ρ x = .ptr k sz i j) (hk : ha k = hb k) : eff P ρ hb k' (.load t x) = eff P ρ ha k' (.load t x) := by
 simp only [eff, hx, zBV, hk]
theorem pwp_seq_x {Q : Exit → PS → Prop} {b : Code} {id : Nat} {ops : Array Oper} (hx : ∀ K : PS → Prop, (∀ s', pwp P b Q s' → K s') → xS P ops K ops.toList 0 ⟨⟨r, h, cnt⟩, fun _ => true⟩ []) : pwp P (.seq (.region id ops true) b) Q ⟨r, h, cnt⟩ :=
 zCU fun K hK => by
   show zBb P ops true K _;unfold zBb;intro _;rw [show (zCx ops && !true) = false by simp];obtain ⟨L, σ', h1, h2, h3, h4⟩ := hx K hK;exact .inr ⟨rfl, L, σ', h1, by rw [h2, List.range_eq_range']; simp, by simpa using h3, h4⟩
end
end Go.Pv
namespace Go.Pv
open Go
section
variable {P : Program} {K : PS → Prop} {d : Nat} {ty t : TypeId} {pos : String} {aft : Array Edge} {gd : Option (Nat × Bool)} {rest : List Oper} {r : Nat → PV} {h : Heap} {cnt : Nat → Nat} {op : Op} {x y : Operand}
def cv (v : PV) : List PV := [v]
structure NP {α : Type} (h : Heap) (d : Nat) (sz : Nat) (f : α → List PV) (vs : List PV) (ls : List (List α)) : Prop where
 len : vs.length = ls.length
 at_ : ∀ (i : Nat) (v : PV) (l : List α), vs[i]? = some v → ls[i]? = some l → zAE h d v sz (l.map f)
 one : ∀ (i j : Nat) (v : PV), vs[i]? = some v → vs[j]? = some v → v ≠ .nil → i = j
variable {α : Type} {f : α → List PV} {sz : Nat} {vs : List PV} {ls : List (List α)}
def Fresh (h : Heap) (c : Nat → Nat) (d : Nat) : Prop := ∀ g o, h (d, g) = some o → g < c d
theorem Known.fresh {s : PS} (hk : Known s) (d : Nat) : Fresh s.h s.cnt d := fun g o h1 => hk (d, g) o h1
theorem zHJ {ts : Array TypeId} {t2 : TypeId} {u u2 : PV} {sz d1 : Nat} {rows rows2 : Rows} (hts : ts.toList = [t, t2]) (hx : ev r x = u) (hy : ev r y = u2) (hs : zAE h d1 u sz rows) (hsr : (zAP h sz u2).1 ∧ (zAP h sz u2).2.1 = rows2)
   (hok : (zAJ P t && (decide (P.bytesOf (zAq P t) < 2 ^ 15) && (decide (zBI P t2 = none) && (zF9 P (zAq P t) && ((P.underlying t2).isSome && decide (zAn P (zAq P t) = sz)))))) = true) (hlen : rows.length + rows2.length < 2 ^ 32) (hne : rows2 ≠ [])
   (hk : ∀ h', h' (d, cnt d) = some (.rows sz (rows ++ rows2)) → (∀ k' : Key, k' ≠ (d, cnt d) → (∀ g, u = .ref (d1, g) sz 0 rows.length → k' ≠ (d1, g)) → h' k' = h k') → pOps P K rest ⟨setT r d (.ref (d, cnt d) sz 0 (rows.length + rows2.length)), h', cset cnt d⟩) :
   pOps P K (⟨some d, .call { callee := .builtin .append, args := #[x, y], argTypes := ts }, ty, pos, aft, gd⟩ :: rest) ⟨r, h, cnt⟩ := by
 simp only [Bool.and_eq_true, decide_eq_true_eq] at hok;obtain ⟨o1, o2, o3, o4, o5, o6⟩ := hok;subst o6
 have he : ∀ u, ev r x = u → eff P (ev r) h (d, cnt d) (.call { callee := .builtin .append, args := #[x, y], argTypes := ts }) = zBj P h (d, cnt d) t t2 u u2 := fun u hu => by
   show zAW P h (d, cnt d) .append ts.toList [ev r x, ev r y] = _;rw [hts, hu, hy]; rfl
 have hie : rows2.isEmpty = false := by cases rows2 <;> first | exact absurd rfl hne | rfl
 rcases hs with ⟨rfl, rfl⟩ | ⟨g, rfl, hg⟩
 · have hq := he _ hx;unfold zBj at hq;simp only [hsr.2] at hq;rw [hie] at hq;simp only [cond_false] at hq;refine p_new rfl hq ⟨⟨o1, o2, o3, o4, o5⟩, hsr.1, hne, by simp at hlen; omega⟩ ?_;have := hk (hset h (d, cnt d) (some (.rows (zAn P (zAq P t)) rows2))) (by rw [List.nil_append]; exact zAd _ _ _) (fun k' h1 _ => zAb h1);simpa using this
 · have hq := he _ hx;unfold zBj at hq;simp only [hg, hsr.2] at hq;refine zJ2 rfl hq (by refine ⟨⟨o1, o2, o3, o4, o5⟩, hsr.1, ?_⟩; simp; omega) ?_;refine hk _ ?_ fun k' h1 h2 => ?_
   · rw [zAd, List.drop_zero, List.take_length]
   · rw [zAb h1, zAb (h2 g rfl)]
end
section
variable {P : Program} {K : PS → Prop} {d : Nat} {op : Op} {ty : TypeId} {pos : String} {aft : Array Edge} {gd : Option (Nat × Bool)} {rest : List Oper} {r : Nat → PV} {h : Heap} {cnt : Nat → Nat} {ops : Array Oper} {i : Nat} {G : Nat → Bool} {dd : Bool}
end
end Go.Pv
namespace Go.Pv
open Go
section
variable {P : Program} {K : PS → Prop} {d : Nat} {op : Op} {ty : TypeId} {pos : String} {aft : Array Edge} {gd : Option (Nat × Bool)} {rest : List Oper} {r : Nat → PV} {h : Heap} {cnt : Nat → Nat} {x y z : Operand} {v : PV} {a : Value}
theorem p_e {rd : List Key} (hc : zAO r op = none) (he : eff P (ev r) h (d, cnt d) op = ⟨True, v, [], rd, false⟩) (hk : pOps P K rest ⟨setT r d v, h, cnt⟩) : pOps P K (⟨some d, op, ty, pos, aft, gd⟩ :: rest) ⟨r, h, cnt⟩ := zJy hc he trivial hk
theorem p_mv (hx : ev r x = v) (hk : pOps P K rest ⟨setT r d v, h, cnt⟩) : pOps P K (⟨some d, .move x, ty, pos, aft, gd⟩ :: rest) ⟨r, h, cnt⟩ := zJy rfl (zAi hx) trivial hk
theorem p_as (hx : ev r x = v) (hk : pOps P K rest ⟨setT r d v, h, cnt⟩) : pOps P K (⟨some d, .assign x, ty, pos, aft, gd⟩ :: rest) ⟨r, h, cnt⟩ := zJy rfl (zAt hx) trivial hk
theorem p_mS (hx : ev r x = .sc a) (hk : pOps P K rest ⟨setT r d (.sc a), h, cnt⟩) : pOps P K (⟨some d, .move x, ty, pos, aft, gd⟩ :: rest) ⟨r, h, cnt⟩ := p_mv hx hk
theorem p_aS (hx : ev r x = .sc a) (hk : pOps P K rest ⟨setT r d (.sc a), h, cnt⟩) : pOps P K (⟨some d, .assign x, ty, pos, aft, gd⟩ :: rest) ⟨r, h, cnt⟩ := p_as hx hk
variable {ops : Array Oper} {dr : Bool} {G : Nat → Bool} {i : Nat} {ts : List Ft}
def wantB (ops : Array Oper) (r : Nat → PV) (h : Heap) (cnt : Nat → Nat) (G : Nat → Bool) (gd : Option (Nat × Bool)) (op : Op) : Bool := (zAO r op).isNone && (gobB ops r G gd && (gval ops ⟨⟨r, h, cnt⟩, G⟩ gd && zB5 r G op))
theorem zE4 (hb : wantB ops r h cnt G gd op = true) : zAO r op = none ∧ gobB ops r G gd = true ∧ gval ops ⟨⟨r, h, cnt⟩, G⟩ gd = true ∧ zB5 r G op = true := by
 simp only [wantB, Bool.and_eq_true, Option.isNone_iff_eq_none] at hb; exact hb
theorem g_e {rd : List Key} (hb : wantB ops r h cnt G gd op = true) (he : eff P (ev r) h (d, cnt d) op = ⟨True, v, [], rd, false⟩) (hk : gRun P ops dr K rest (i + 1) ⟨setT r d v, h, cnt⟩ (setB G d true)) : gRun P ops dr K (⟨some d, op, ty, pos, aft, gd⟩ :: rest) i ⟨r, h, cnt⟩ G :=
 zCO (zE4 hb).2.1 (zE4 hb).2.2.1 (zE4 hb).1 (zE4 hb).2.2.2 he trivial hk
theorem g_mS (hb : wantB ops r h cnt G gd (.move x) = true) (hx : ev r x = .sc a) (hk : gRun P ops dr K rest (i + 1) ⟨setT r d (.sc a), h, cnt⟩ (setB G d true)) : gRun P ops dr K (⟨some d, .move x, ty, pos, aft, gd⟩ :: rest) i ⟨r, h, cnt⟩ G := g_e hb (zAi hx) hk
theorem g_aS (hb : wantB ops r h cnt G gd (.assign x) = true) (hx : ev r x = .sc a) (hk : gRun P ops dr K rest (i + 1) ⟨setT r d (.sc a), h, cnt⟩ (setB G d true)) : gRun P ops dr K (⟨some d, .assign x, ty, pos, aft, gd⟩ :: rest) i ⟨r, h, cnt⟩ G := g_e hb (zAt hx) hk
theorem g_pT (hb : wantB ops r h cnt G gd (.pick x y z) = true) (hx : ev r x = .bool true) (hy : ev r y = .sc a) (hk : gRun P ops dr K rest (i + 1) ⟨setT r d (.sc a), h, cnt⟩ (setB G d true)) : gRun P ops dr K (⟨some d, .pick x y z, ty, pos, aft, gd⟩ :: rest) i ⟨r, h, cnt⟩ G := g_e hb (zDR hx hy) hk
theorem g_pF (hb : wantB ops r h cnt G gd (.pick x y z) = true) (hx : ev r x = .bool false) (hy : ev r z = .sc a) (hk : gRun P ops dr K rest (i + 1) ⟨setT r d (.sc a), h, cnt⟩ (setB G d true)) : gRun P ops dr K (⟨some d, .pick x y z, ty, pos, aft, gd⟩ :: rest) i ⟨r, h, cnt⟩ G := g_e hb (zEE hx hy) hk
theorem s_e (hb : wantB ops r h cnt G gd op = true) (he : eff P (ev r) h (d, cnt d) op = ⟨True, v, [], [], false⟩) (hk : sRun P ops dr K rest (i + 1) ⟨setT r d v, h, cnt⟩ (setB G d true) (ts ++ [⟨i, [], []⟩])) : sRun P ops dr K (⟨some d, op, ty, pos, aft, gd⟩ :: rest) i ⟨r, h, cnt⟩ G ts :=
 zAu [] (by simp) (zE4 hb).2.1 (zE4 hb).2.2.1 (zE4 hb).1 (zE4 hb).2.2.2 he trivial hk
end
section
variable {P : Program} {ρ : Operand → PV} {h : Heap} {key : Key} {x y z : Operand} {t t' : TypeId} {v : PV}
abbrev pl2 : List (Nat × Nat × Bool) := [(0, 1, false), (1, 1, false)]
abbrev pl3 : List (Nat × Nat × Bool) := [(0, 1, false), (1, 1, false), (2, 1, false)]
abbrev pl4 : List (Nat × Nat × Bool) := [(0, 1, false), (1, 1, false), (2, 1, false), (3, 1, false)]
abbrev pl5 : List (Nat × Nat × Bool) := [(0, 1, false), (1, 1, false), (2, 1, false), (3, 1, false), (4, 1, false)]
theorem e_faQ {k : Key} {sz i j f : Nat} (pl : List (Nat × Nat × Bool)) (hx : ρ x = .ptr k sz i j) (ht : zBX P t = true := by kernel_rfl) (hp : places P t = pl := by kernel_rfl) (hf : f < pl.length := by decide) :
   eff P ρ h key (.fieldAddr t x f) = ⟨True, .ptr k sz i (j + (pl.getD f (0, 0, false)).1), [], [], false⟩ := e_faP hx ht hp hf rfl
theorem e_fb {tt : Bool} {sz : Nat} {rows : Rows} {i j f : Nat} (pl : List (Nat × Nat × Bool)) (hx : ρ x = .lptr tt sz rows i j) (ht : zBX P t = true := by kernel_rfl) (hp : places P t = pl := by kernel_rfl) (hf : f < pl.length := by decide) :
   eff P ρ h key (.fieldAddr t x f) = ⟨True, .lptr tt sz rows i (j + (pl.getD f (0, 0, false)).1), [], [], false⟩ := e_fa hx ht hp hf rfl
theorem e_ixL {tt : Bool} {sz : Nat} {rows : Rows} {k : IntKind} {i : Int} (hx : ρ x = .lit tt sz rows) (hy : ρ y = .sc (.int k i)) (hi : 0 ≤ i ∧ i < rows.length := by first | omega | (simp only [List.length_map]; omega)) (ht : zAJ P t = true := by kernel_rfl) (hs : zAn P (zAq P t) = sz := by kernel_rfl) :
   eff P ρ h key (.indexAddr t x y) = ⟨True, .lptr tt sz rows i.toNat 0, [], [], false⟩ := e_ixa hx hy ht hs hi
theorem e_lH {k : Key} {sz i j : Nat} {rs : Rows} (hx : ρ x = .ptr k sz i j) (hk : h k = some (.rows sz rs)) (hv : zEk rs i j = v) (hg : tyAgg P t = false := by kernel_rfl) (hs : zAn P t = 1 := by kernel_rfl) (ht : tyOk P t = true := by kernel_rfl) (hi : i < rs.length := by exact Nat.zero_lt_one) (hj : j < sz := by decide) :
   eff P ρ h key (.load t x) = ⟨True, v, [], [k], false⟩ := zBw hx hk hg hs ht hi hj hv
theorem e_adL {a b : Int} (hx : ρ x = .int a) (hy : ρ y = .int b) (h1 : -9223372036854775808 ≤ a + b ∧ a + b ≤ 9223372036854775807 := by first | omega | (simp only [List.length_map] at *; omega)) : eff P ρ h key (.binOp .add t x y t') = ⟨True, .int (a + b), [], [], false⟩ := e_add hx hy h1
end
theorem zz : (∀ (p : Prop) [Decidable p], (decide p = true) = p) ∧ (∀ (p : Prop) [Decidable p], decide p = false ↔ ¬ p) ∧ (∀ b : Bool, ((!b) = true) = (b = false)) ∧ (∀ b : Bool, ((!b) = false) = (b = true)) ∧ (∀ a b : Int, ¬ a < b ↔ b ≤ a) ∧ (∀ a b : Int, ¬ a ≤ b ↔ b < a) ∧
   (∀ (α : Type) (a b : α), (a ≠ b) = ¬ (a = b)) ∧ (∀ (p : Prop) [Decidable p], ¬ ¬ p ↔ p) ∧ (∀ (α β : Type) (l : List α) (f : α → β), (l.map f).length = l.length) ∧ (∀ a b : Bool, ((a || b) = true) = (a = true ∨ b = true)) ∧ (∀ a b : Bool, ((a && b) = true) = (a = true ∧ b = true)) ∧
   (∀ a b : Bool, (a || b) = false ↔ a = false ∧ b = false) ∧ (∀ a b : Bool, (a && b) = false ↔ a = false ∨ b = false) :=
 ⟨fun _ _ => decide_eq_true_eq, fun _ _ => decide_eq_false_iff_not, Bool.not_eq_true', Bool.not_eq_false', fun _ _ => Int.not_lt, fun _ _ => Int.not_le, fun _ _ _ => rfl, fun _ _ => Decidable.not_not, fun _ _ l f => List.length_map f, Bool.or_eq_true, Bool.and_eq_true, fun _ _ => Bool.or_eq_false_iff, fun _ _ => Bool.and_eq_false_iff⟩
end Go.Pv
namespace Go.Pv
open Go
variable {P : Program}
section
variable {K : PS → Prop} {d : Nat} {op : Op} {ty : TypeId} {pos : String} {aft : Array Edge} {gd : Option (Nat × Bool)} {rest : List Oper} {r : Nat → PV} {h : Heap} {cnt : Nat → Nat} {ops : Array Oper} {i : Nat} {G : Nat → Bool} {dd dr : Bool}
theorem zIQ {f : FuncId} {args : List PV} {v : PV} {ts : List Ft} (ks : List Key) (rs : List Nat) (hrd : ∀ k ∈ ks, k.1 ∈ rs) (hg : gobB ops r G gd = true) (hgv : gval ops ⟨⟨r, h, cnt⟩, G⟩ gd = true) (hc : zAO r op = some (f, args)) (hv : zB5 r G op = true)
   (hp : ∀ h' : Heap, (∀ k ∈ ks, h' k = h k) → ∀ c', zAA P f args h' c' fun v' h2 c2 => v' = v ∧ h2 = h' ∧ c2 = c')
   (hk : sRun P ops dd K rest (i + 1) ⟨setT r d v, h, cnt⟩ (setB G d true) (ts ++ [⟨i, rs, []⟩])) : sRun P ops dd K (⟨some d, op, ty, pos, aft, gd⟩ :: rest) i ⟨r, h, cnt⟩ G ts := by
 intro tr ht;unfold gOps;refine ⟨zCZ hg, ?_⟩;show match zAO r op with | none => _ | some (f, args) => _
 rw [hc];refine .inr (.inr ⟨hgv, zBe hv, rfl, _, .inr ⟨v, ks, rfl, hp⟩, ?_⟩);have := hk (tr ++ [⟨i, ks, []⟩]) (ht.snoc rfl hrd (by simp));simp only [stepG, stepS, zAY, zBu];rw [hgv];exact this
end
end Go.Pv
namespace Go.Pv
open Go Go.RowKit
def detOp : Op → Bool
 | .call c => (match c.callee with | .value _ => false | _ => true)
 | .next _ _ => false
 | .binOp .eql _ _ y _ => !zIv y
 | _ => true
def detC : Code → Bool
 | .region _ ops _ => ops.toList.all fun o => detOp o.op
 | .seq a b => detC a && detC b
 | .cond _ a b => detC a && detC b
 | .block _ c => detC c
 | .loop c => detC c
 | .rangeFunc _ _ _ _ => false
 | _ => true
section
variable {P : Program} {K : PS → Prop}
theorem zKr {r : Nat → PV} {o : Op} (h : detOp o = true) : zAO r o = none := by
 cases hc : zAO r o with
 | none => rfl
 | some q =>
   obtain ⟨x, as1, ts, first, cap1, rfl, _⟩ := zE2 (f := q.1) (args := q.2) hc;simp [detOp] at h
theorem zGW : ∀ (l : List Oper) (s : PS), (∀ o ∈ l, detOp o.op = true) → pOps P K l s → ∃ s', K s' ∧ ∀ K' : PS → Prop, K' s' → pOps P K' l s
 | [], s, _, h => ⟨s, h, fun _ h => h⟩
 | o :: l, s, hd, h => by
   have hdo := hd o (by simp);have hdl : ∀ o ∈ l, detOp o.op = true := fun o ho => hd o (by simp [ho]);have hc : zAO s.r o.op = none := zKr hdo;unfold pOps at h;rw [hc] at h
   have fold : ∀ K' : PS → Prop, (((eff P (ev s.r) s.h (zAC o, s.cnt (zAC o)) o.op).ob ∧ pOps P K' l (stepS s o (eff P (ev s.r) s.h (zAC o, s.cnt (zAC o)) o.op))) ∨ (NextP (pOps P K' l) o s ∨ (RenP (pOps P K' l) o s ∨ NilP P (pOps P K' l) o s))) → pOps P K' (o :: l) s := fun K' h' => by
     unfold pOps; rw [hc]; exact h'
   rcases h with ⟨h1, h2⟩ | h1 | h1 | h1 | h1
   · obtain ⟨s', h3, h4⟩ := zGW l _ hdl h2;exact ⟨s', h3, fun K' h5 => fold K' (.inl ⟨h1, h4 K' h5⟩)⟩
   · obtain ⟨x, _, _, _, _, _, _, ho, _⟩ := h1;rw [ho] at hdo; simp [detOp] at hdo
   · obtain ⟨x, d, e, k, sz, len, rs, g1, g2, g3, g4, g5⟩ := h1;obtain ⟨s', h3, h4⟩ := zGW l _ hdl g5;exact ⟨s', h3, fun K' h5 => fold K' (.inr (.inr (.inl ⟨x, d, e, k, sz, len, rs, g1, g2, g3, g4, h4 K' h5⟩)))⟩
   · obtain ⟨x, y, t, t', d, tt, sz, ho, _, hny, _⟩ := h1;rw [ho] at hdo; simp [detOp, hny] at hdo
   · obtain ⟨u, k, sz, rs, i, j, g1, g2, g3, g4, g5, g6⟩ := h1;obtain ⟨s', h3, h4⟩ := zGW l _ hdl g6;exact ⟨s', h3, fun K' h5 => fold K' (.inr (.inr (.inr (.inr ⟨u, k, sz, rs, i, j, g1, g2, g3, g4, g5, h4 K' h5⟩))))⟩
theorem zKh {ops : Array Oper} {d : Bool} : ∀ (l : List Oper) (i : Nat) (σ : GS) (tr : List Foot), (∀ o ∈ l, detOp o.op = true) → gOps P ops d K l i σ tr → ∃ s', K s' ∧ ∀ K' : PS → Prop, K' s' → gOps P ops d K' l i σ tr
 | [], _, σ, tr, _, h => ⟨_, h.2, fun _ h' => ⟨h.1, h'⟩⟩
 | o :: l, i, σ, tr, hd, h => by
   have hc : zAO σ.s.r o.op = none := zKr (hd o (by simp));unfold gOps at h;rw [hc] at h;obtain ⟨h1, h2, h3, h4⟩ := h;obtain ⟨s', h5, h6⟩ := zKh l _ _ _ (fun o ho => hd o (by simp [ho])) h4;refine ⟨s', h5, fun K' h7 => ?_⟩;unfold gOps;rw [hc];exact ⟨h1, h2, h3, h6 K' h7⟩
theorem pRegion_det {ops : Array Oper} {draw : Bool} {s : PS} (hd : ∀ o ∈ ops.toList, detOp o.op = true) (h : zBb P ops draw K s) : (∃ s', K s' ∧ ∀ K' : PS → Prop, K' s' → zBb P ops draw K' s) ∨ ∀ K' : PS → Prop, zBb P ops draw K' s := by
 by_cases hk : Known s
 · left;unfold zBb at h;have h := h hk;split at h
   · rename_i hg;obtain ⟨s', h1, h2⟩ := zGW _ _ hd h;refine ⟨s', h1, fun K' h3 => ?_⟩;unfold zBb;intro _;rw [if_pos hg]; exact h2 K' h3
   · rename_i hg;rcases h with h | ⟨hdr, L, σ', h1, h2, h3, h4⟩
     · obtain ⟨s', h1, h2⟩ := zKh _ _ _ _ hd h;refine ⟨s', h1, fun K' h3 => ?_⟩;unfold zBb;intro _;rw [if_neg hg]; exact .inl (h2 K' h3)
     · refine ⟨_, h4, fun K' h5 => ?_⟩;unfold zBb;intro _;rw [if_neg hg]; exact .inr ⟨hdr, L, σ', h1, h2, h3, h5⟩
 · right;intro K';unfold zBb;exact fun h => absurd h hk
theorem zGy {c : Code} {Q : Exit → PS → Prop} {s s' : PS} (hall : ∀ Q' : Exit → PS → Prop, Q' .normal s' → pwp P c Q' s) (h : pwp P (.loop c) Q s') : pwp P (.loop c) Q s := by
 obtain ⟨I, n, hI, hb⟩ := h;refine ⟨fun m t => (m = n + 1 ∧ t = s) ∨ I m t, n + 1, .inl ⟨rfl, rfl⟩, fun m t ht => ?_⟩;rcases ht with ⟨rfl, rfl⟩ | ht
 · exact hall _ ⟨n, Nat.lt_succ_self _, .inr hI⟩
 · refine zBE c (fun e s2 he => ?_) (hb m t ht);cases e <;> first | exact he | (obtain ⟨n', h1, h2⟩ := he; exact ⟨n', h1, .inr h2⟩)
theorem zI8 {c : Code} {Q : Exit → PS → Prop} {s : PS} (h : pwp P c (fun e s' => match e with | .normal => False | e => Q e s') s) : pwp P (.loop c) Q s :=
 ⟨fun _ t => t = s, 0, rfl, fun _ t ht => by subst ht; exact zBE c (fun e s2 he => by cases e <;> first | exact he | exact he.elim) h⟩
theorem zFD : ∀ (c : Code) (Q : Exit → PS → Prop) (s : PS), detC c = true → pwp P c Q s → (∃ e s', Q e s' ∧ ∀ Q' : Exit → PS → Prop, Q' e s' → pwp P c Q' s) ∨ ∀ Q' : Exit → PS → Prop, pwp P c Q' s
 | .skip, Q, s, _, h => .inl ⟨.normal, s, h, fun _ h => h⟩
 | .exit id, Q, s, _, h => .inl ⟨.exit id, s, h, fun _ h => h⟩
 | .ret, Q, s, _, h => .inl ⟨.ret, s, h, fun _ h => h⟩
 | .region _ ops draw, Q, s, hd, h => by
   simp only [detC, List.all_eq_true] at hd;rcases pRegion_det (K := Q .normal) hd h with ⟨s', h1, h2⟩ | h1
   · exact .inl ⟨.normal, s', h1, fun Q' h3 => h2 _ h3⟩
   · exact .inr fun Q' => h1 _
 | .seq a b, Q, s, hd, h => by
   simp only [detC, Bool.and_eq_true] at hd;rcases zFD a _ s hd.1 h with ⟨e, s', h1, h2⟩ | h1
   · cases e with
     | normal =>
       rcases zFD b _ s' hd.2 h1 with ⟨e2, s2, h3, h4⟩ | h3
       · exact .inl ⟨e2, s2, h3, fun Q' h5 => h2 _ (h4 Q' h5)⟩
       · exact .inr fun Q' => h2 _ (h3 Q')
     | _ => exact .inl ⟨_, s', h1, fun Q' h5 => h2 _ h5⟩
   · exact .inr fun Q' => h1 _
 | .cond c x y, Q, s, hd, h => by
   simp only [detC, Bool.and_eq_true] at hd;obtain ⟨b, h1, h2, h3⟩ := h;cases b with
   | true =>
     rcases zFD x _ s hd.1 (h2 rfl) with ⟨e, s', h4, h5⟩ | h4
     · exact .inl ⟨e, s', h4, fun Q' h6 => ⟨true, h1, fun _ => h5 Q' h6, fun h => by cases h⟩⟩
     · exact .inr fun Q' => ⟨true, h1, fun _ => h4 Q', fun h => by cases h⟩
   | false =>
     rcases zFD y _ s hd.2 (h3 rfl) with ⟨e, s', h4, h5⟩ | h4
     · exact .inl ⟨e, s', h4, fun Q' h6 => ⟨false, h1, fun h => (by cases h), fun _ => h5 Q' h6⟩⟩
     · exact .inr fun Q' => ⟨false, h1, fun h => (by cases h), fun _ => h4 Q'⟩
 | .block id c, Q, s, hd, h => by
   rcases zFD c _ s hd h with ⟨e, s', h1, h2⟩ | h1
   · by_cases hi : e = .exit id
     · subst hi;refine .inl ⟨.normal, s', by simpa using h1, fun Q' h3 => h2 _ (by simpa using h3)⟩
     · refine .inl ⟨e, s', ?_, fun Q' h3 => h2 _ ?_⟩
       · cases e <;> first | exact h1 | (rename_i i; simp only at h1; rwa [if_neg (fun q => hi (by rw [q]))] at h1)
       · cases e <;> first | exact h3 | (rename_i i; simp only; rwa [if_neg (fun q => hi (by rw [q]))])
   · exact .inr fun Q' => h1 _
 | .loop c, Q, s, hd, h => by
   obtain ⟨I, n, hI, hb⟩ := h
   have main : ∀ (n : Nat) (s : PS), I n s → (∃ e s', Q e s' ∧ ∀ Q' : Exit → PS → Prop, Q' e s' → pwp P (.loop c) Q' s) ∨ ∀ Q' : Exit → PS → Prop, pwp P (.loop c) Q' s := fun n => by
     induction n using Nat.strongRecOn with
     | ind n ih =>
       intro s hI;rcases zFD c _ s hd (hb n s hI) with ⟨e, s', h1, h2⟩ | h1
       · cases e with
         | normal =>
           obtain ⟨n', h3, h4⟩ := h1;rcases ih n' h3 s' h4 with ⟨e2, s2, h5, h6⟩ | h5
           · exact .inl ⟨e2, s2, h5, fun Q' h7 => zGy h2 (h6 Q' h7)⟩
           · exact .inr fun Q' => zGy h2 (h5 Q')
         | _ => exact .inl ⟨_, s', h1, fun Q' h3 => zI8 (h2 _ h3)⟩
       · exact .inr fun Q' => zI8 (h1 _)
   exact main n s hI
 | .rangeFunc _ _ _ _, _, _, hd, _ => by simp [detC] at hd
 | .scope _, _, _, _, h => h.elim
 | .label _, _, _, _, h => h.elim
 | .goto _, _, _, _, h => h.elim
 | .refuse _, _, _, _, h => h.elim
theorem zAA.of_codeX {f : FuncId} {fn : Func} {c : Code} {rs : List ResultVar} {args : List PV} {h : Heap} {cnt : Nat → Nat} {R : PV → Heap → (Nat → Nat) → Prop} (hf : P.funcs[f]? = some fn) (hb : fn.body = some c) (hrs : fn.results = rs.toArray)
   (hB : hasBody P f = true) (hm : P.follows .mixedOrders = true) (hfr : (zAK fn.ntmps c && rs.all (zAL fn.ntmps)) = true) (hfr3 : args.length ≤ fn.ntmps) (hd : detC c = true)
   (hp : pwp P c (endQ P rs R) ⟨fun i => args.getD i .dead, h, cnt⟩) : (∃ v ha ca, R v ha ca ∧ zAA P f args h cnt fun v' h' c' => v' = v ∧ h' = ha ∧ c' = ca) ∨ zAA P f args h cnt fun _ _ _ => False := by
 rcases zFD c _ _ hd hp with ⟨e, s', h1, h2⟩ | h1
 · left;cases e with
   | normal => exact ⟨_, _, _, h1.2, zAA.of_code hf hb hrs hB hm hfr hfr3 (h2 _ ⟨h1.1, rfl, rfl, rfl⟩)⟩
   | ret => exact ⟨_, _, _, h1.2, zAA.of_code hf hb hrs hB hm hfr hfr3 (h2 _ ⟨h1.1, rfl, rfl, rfl⟩)⟩
   | _ => exact h1.elim
 · exact .inr (zAA.of_code hf hb hrs hB hm hfr hfr3 (h1 _))
end
end Go.Pv
namespace Go.Pv
section
variable {P : Program} {ρ : Operand → PV} {h : Heap} {key : Key} {x y z : Operand} {t t' : TypeId} {v : PV}
theorem xI {ops : Array Oper} {x y : XIt} (hx : x.hc = none := by exact rfl) (hy : y.hc = none := by exact rfl) (ha : x.o.apart ops y.o = true := by kernel_rfl) (hs0 : Nat.beq (zAC x.o) (zAC y.o) = false := by exact rfl) (h1 : x.ft.wr = [] := by exact rfl) (h2 : y.ft.wr = [] := by exact rfl) : zHo ops x y := .inr (zCf hx hy ha hs0 h1 h2)
theorem hzM {a b x y : Nat} {o o' : Option PObj} (hn : Nat.beq a b = false) (e : h (a, x) = o') : hset h (b, y) o (a, x) = o' := (zAb (zAc hn)).trans e
theorem e_ixR {k : Key} {sz len : Nat} {kd : IntKind} {i : Int} (hx : ρ x = .ref k sz 0 len) (hy : ρ y = .sc (.int kd i)) (ht : zAJ P t = true := by kernel_rfl) (hs : zAn P (zAq P t) = sz := by kernel_rfl) (hi : 0 ≤ i ∧ i < len := by omega) : eff P ρ h key (.indexAddr t x y) = ⟨True, .ptr k sz i.toNat 0, [], [], false⟩ := zAv hx hy ht hs hi
theorem e_lL {tt : Bool} {sz : Nat} {rows : Rows} {i j : Nat} (hx : ρ x = .lptr tt sz rows i j) (hv : zEk rows i j = v) (hg : tyAgg P t = false := by kernel_rfl) (hs : zAn P t = 1 := by kernel_rfl) (ht : tyOk P t = true := by kernel_rfl) (hi : i < rows.length := by first | omega | (simp only [List.length_map]; omega)) (hj : j < sz := by decide) : eff P ρ h key (.load t x) = ⟨True, v, [], [], false⟩ := zBi hx hg hs ht hi hj hv
theorem e_lA {k : Key} {sz i j n : Nat} {rs : Rows} {cs : List PV} (hx : ρ x = .ptr k sz i j) (hk : h k = some (.rows sz rs)) (hg : tyAgg P t = true := by kernel_rfl) (hs : zAn P t = n := by kernel_rfl) (ht : tyOk P t = true := by kernel_rfl) (hi : i < rs.length := by exact Nat.zero_lt_one) (hj : j + n ≤ sz := by decide) (hv : aggAt rs i j n = cs := by exact rfl) : eff P ρ h key (.load t x) = ⟨True, .agg cs, [], [k], false⟩ := zA2 hx hk hg hs ht hi hj hv
theorem s_eR {K : PS → Prop} {d : Nat} {op : Op} {ty : TypeId} {pos : String} {aft : Array Edge} {gd : Option (Nat × Bool)} {rest : List Oper} {r : Nat → PV} {cnt : Nat → Nat} {ops : Array Oper} {i : Nat} {G : Nat → Bool} {dd : Bool} {rd : List Key} {ts : List Ft} (rs : List Nat) (hb : wantB ops r h cnt G gd op = true) (he : eff P (ev r) h (d, cnt d) op = ⟨True, v, [], rd, false⟩) (hk : sRun P ops dd K rest (i + 1) ⟨setT r d v, h, cnt⟩ (setB G d true) (ts ++ [⟨i, rs, []⟩])) (hrd : ∀ k ∈ rd, k.1 ∈ rs := by simp) : sRun P ops dd K (⟨some d, op, ty, pos, aft, gd⟩ :: rest) i ⟨r, h, cnt⟩ G ts :=
  zAu rs hrd (zE4 hb).2.1 (zE4 hb).2.2.1 (zE4 hb).1 (zE4 hb).2.2.2 he trivial hk
theorem lM {α β : Type _} {l : List α} (f : α → β) : (l.map f).length = l.length := List.length_map f
end
end Go.Pv
