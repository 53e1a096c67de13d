/- The relation between the model's values and worlds and the P level: what a pure value stands for in a world; how it is carried along. -/
import Derived.Test.YtjmjiegplnfiiaaPvA
namespace Go.Pv
open Go Go.RowKit

/-- Pure values: no own key in them. -/
inductive Pure : PV → Prop where
 | sc (x : Value) : Pure (.sc x)
 | nil : Pure .nil
 | lit (t : Bool) (sz : Nat) (rows : Rows) (h : ∀ row ∈ rows, ∀ p ∈ row, Pure p) : Pure (.lit t sz rows)
 | lptr (t : Bool) (sz : Nat) (rows : Rows) (i j : Nat) (h : ∀ row ∈ rows, ∀ p ∈ row, Pure p) : Pure (.lptr t sz rows i j)
 | agg (cs : List PV) (h : ∀ p ∈ cs, Pure p) : Pure (.agg cs)
 | tup (cs : List PV) (h : ∀ p ∈ cs, Pure p) : Pure (.tup cs)
 | func (f : Fn) (a c : List PV) (h : ∀ p ∈ a, Pure p) (h' : ∀ p ∈ c, Pure p) : Pure (.func f a c)

/-! GLOBALS -/
theorem gpv_pure (g : Nat) : gpv g = .dead ∨ Pure (gpv g) := .inl rfl
/-! GLOBALS END -/
structure Env where
 w : World
 h : Heap
 cnt : Nat → Nat
 blk : Key → Nat
 cap : Key → Nat × Nat
 M : Nat → Prop
 tt : Bool
 B0 : Nat

def Env.own (E : Env) (b : Nat) : Prop := ∃ k o, E.h k = some o ∧ E.blk k = b
def Env.known (E : Env) (k : Key) : Prop := k.2 < E.cnt k.1

/-- Rows of cells at a place in memory that does not change. -/
structure MemAt (E : Env) (t : Bool) (sz : Nat) (rows : Rows) (b off : Nat) (f : Nat → Nat → Value) : Prop where
 own : ¬ E.own b
 out : t = false → ¬ E.M b
 tt : t = true → E.tt = true
 lt : b < E.w.heap.size
 width : ∀ row ∈ rows, row.length = sz
 cell : ∀ (i j : Nat) (row : List PV) (p : PV), rows[i]? = some row → row[j]? = some p → E.w.cell? ⟨b, off + i * sz + j, none⟩ = some (f i j)
 pure : ∀ row ∈ rows, ∀ p ∈ row, Pure p
 one : ∀ row ∈ rows, ∀ p ∈ row, p.cell = true

inductive Rep (E : Env) : Value → PV → Prop where
 | sc {x : Value} (hx : isScalar x = true) : Rep E x (.sc x)
 | nil {a : Option Addr} : Rep E (.slice a 0 0) .nil
 | litE {a : Option Addr} {c : Nat} {t : Bool} {sz : Nat} : Rep E (.slice a 0 c) (.lit t sz [])
 | lit {b off c : Nat} {t : Bool} {sz : Nat} {rows : Rows} {f : Nat → Nat → Value} (hm : MemAt E t sz rows b off f) (hc : rows.length ≤ c)
     (hr : ∀ (i j : Nat) (row : List PV) (p : PV), rows[i]? = some row → row[j]? = some p → Rep E (f i j) p) :
     Rep E (.slice (some ⟨b, off, none⟩) rows.length c) (.lit t sz rows)
 | lptr {b off : Nat} {t : Bool} {sz : Nat} {rows : Rows} {f : Nat → Nat → Value} (i j : Nat) (hm : MemAt E t sz rows b off f)
     (hr : ∀ (i j : Nat) (row : List PV) (p : PV), rows[i]? = some row → row[j]? = some p → Rep E (f i j) p) :
     Rep E (.pointer (some ⟨b, off + i * sz + j, none⟩)) (.lptr t sz rows i j)
 | ref {b a : Nat} {k : Key} {sz off len c : Nat} (hk : E.known k) (hlen : len ≤ c) (hl : ∀ o, E.h k = some o → (b = E.blk k ∧ a = (E.cap k).2 + off * sz) ∧ off + c ≤ (E.cap k).1 ∧ ∃ rs, o = .rows sz rs) :
     Rep E (.slice (some ⟨b, a, none⟩) len c) (.ref k sz off len)
 | refE {a : Option Addr} {k : Key} {sz off : Nat} (hk : E.known k) (hl : ∀ o, E.h k = some o → ∃ rs, o = .rows sz rs) : Rep E (.slice a 0 0) (.ref k sz off 0)
 | ptr {b a : Nat} {k : Key} {sz i j : Nat} (hk : E.known k) (hl : ∀ o, E.h k = some o → (b = E.blk k ∧ a = (E.cap k).2 + i * sz + j) ∧ ∃ rs, o = .rows sz rs) :
     Rep E (.pointer (some ⟨b, a, none⟩)) (.ptr k sz i j)
 | agg {vs : Array Value} {cs : List PV} (hl : vs.size = cs.length) (h : ∀ (i : Nat) (v : Value) (p : PV), vs[i]? = some v → cs[i]? = some p → Rep E v p) : Rep E (.agg vs) (.agg cs)
 | tup {vs : Array Value} {cs : List PV} (hl : vs.size = cs.length) (h : ∀ (i : Nat) (v : Value) (p : PV), vs[i]? = some v → cs[i]? = some p → Rep E v p) : Rep E (.tuple vs) (.tup cs)
 | func {f : Fn} {as cs : Array Value} {pa pc : List PV} (hl : as.size = pa.length) (hl' : cs.size = pc.length)
     (h : ∀ (i : Nat) (v : Value) (p : PV), as[i]? = some v → pa[i]? = some p → Rep E v p)
     (h' : ∀ (i : Nat) (v : Value) (p : PV), cs[i]? = some v → pc[i]? = some p → Rep E v p) : Rep E (.func f as cs) (.func f pa pc)
 | map {b : Nat} {k : Key} (hk : E.known k) (hl : ∀ o, E.h k = some o → b = E.blk k ∧ o.kd = 1) : Rep E (.map (some b)) (.map k)
 | iter {b : Nat} {k : Key} (hk : E.known k) (hl : ∀ o, E.h k = some o → b = E.blk k ∧ o.kd = 2) : Rep E (.pointer (some ⟨b, 0, none⟩)) (.iter k)
 | dead {v : Value} : Rep E v .dead

/-- The stamps and keys of a map's entries. -/
def Stamps (ents : Array MapEntry) (clk : Nat) : Prop := (∀ x ∈ ents.toList, x.born < clk) ∧ (ents.toList.map (·.born)).Nodup ∧ (ents.toList.map (·.key)).Nodup

/-- An own object in memory. -/
def ObjOK (E : Env) (k : Key) : PObj → Prop
 | .rows sz rs => ∃ (c : Array Value) (T : TypeId), E.w.heap[E.blk k]? = some (.cells c T (0, 0)) ∧ c.size = (E.cap k).2 + (E.cap k).1 * sz ∧ rs.length ≤ (E.cap k).1 ∧ 1 ≤ sz ∧
     (∀ row ∈ rs, row.length = sz) ∧ (∀ row ∈ rs, ∀ p ∈ row, p.cell = true) ∧
     ∀ (i j : Nat) (row : List PV) (p : PV), rs[i]? = some row → row[j]? = some p → ∃ v, c[(E.cap k).2 + i * sz + j]? = some v ∧ Rep E v p
 | .map es bs clk => ∃ (ents : Array MapEntry), E.w.heap[E.blk k]? = some (.map ents clk) ∧ ents.size = es.length ∧
     (∀ p ∈ es, mval p.2 = true) ∧
     (∀ (i : Nat) (e : MapEntry) (p : PV × PV), ents[i]? = some e → es[i]? = some p → Rep E e.key p.1 ∧ Rep E e.val p.2) ∧ Stamps ents clk ∧ bs = ents.toList.map (·.born)
 | .iter km since seen => ∃ b : Nat, E.w.heap[E.blk k]? = some (.mapIter (some b) since seen.toArray since) ∧ E.known km ∧ ∀ o, E.h km = some o → b = E.blk km ∧ o.kd = 1

/-- The memory below n, alone. -/
def gEnv (w : World) (n : Nat) : Env := { w := { w with heap := w.heap.extract 0 n }, h := fun _ => none, cnt := fun _ => 0, blk := fun _ => 0, cap := fun _ => (0, 0), M := fun _ => True, tt := true, B0 := 0 }
/-- The memory below n holds what the package-level variables are to hold. -/
def gw (w : World) (n : Nat) : Prop := ∀ g : Nat, Rep (gEnv w n) (.pointer (some ⟨g, 0, none⟩)) (gpv g)
structure Good (E : Env) : Prop where
 inj : ∀ (k k' : Key) (o o' : PObj), E.h k = some o → E.h k' = some o' → E.blk k = E.blk k' → k = k'
 known : ∀ (k : Key) (o : PObj), E.h k = some o → E.known k
 base : ∀ (k : Key) (o : PObj), E.h k = some o → E.B0 ≤ E.blk k
 obj : ∀ (k : Key) (o : PObj), E.h k = some o → ObjOK E k o
 out : ∀ b, E.M b → b < E.B0
 size : E.B0 ≤ E.w.heap.size
 glob : gw E.w E.B0

/-- What becomes of the environment by a step: old values stay what they are. -/
structure EnvLe (E E' : Env) : Prop where
 blk : ∀ b, b < E.w.heap.size → ¬ E.own b → E'.w.heap[b]? = E.w.heap[b]?
 size : E.w.heap.size ≤ E'.w.heap.size
 own : ∀ b, E'.own b → E.own b ∨ E.w.heap.size ≤ b
 M : E'.M = E.M
 tt : E'.tt = E.tt
 B0 : E'.B0 = E.B0
 cnt : ∀ s, E.cnt s ≤ E'.cnt s
 nokey : ∀ k, E.known k → E.h k = none → E'.h k = none
 rows : ∀ k sz rs, E.h k = some (.rows sz rs) → E'.h k = none ∨ ∃ rs', E'.h k = some (.rows sz rs') ∧ E'.blk k = E.blk k ∧ E'.cap k = E.cap k
 map : ∀ k o, E.h k = some o → o.kd ≠ 0 → E'.h k = none ∨ ∃ o', E'.h k = some o' ∧ o'.kd = o.kd ∧ E'.blk k = E.blk k

theorem EnvLe.refl (E : Env) : EnvLe E E where
 blk := fun _ _ _ => rfl
 size := Nat.le_refl _
 own := fun _ h => .inl h
 M := rfl
 tt := rfl
 B0 := rfl
 cnt := fun _ => Nat.le_refl _
 nokey := fun _ _ h => h
 rows := fun _ _ rs h => .inr ⟨rs, h, rfl, rfl⟩
 map := fun _ o h _ => .inr ⟨o, h, rfl, rfl⟩

theorem EnvLe.known {E E' : Env} (h : EnvLe E E') {k : Key} (hk : E.known k) : E'.known k := Nat.lt_of_lt_of_le hk (h.cnt k.1)

theorem EnvLe.trans {E E' E'' : Env} (h : EnvLe E E') (h' : EnvLe E' E'') (g : ∀ k o, E.h k = some o → E.known k) : EnvLe E E'' where
 blk := fun b hb ho => by
   have hb' : b < E'.w.heap.size := Nat.lt_of_lt_of_le hb h.size
   have ho' : ¬ E'.own b := fun hn => by
     rcases h.own b hn with h1 | h1
     · exact ho h1
     · omega
   rw [h'.blk b hb' ho', h.blk b hb ho]
 size := Nat.le_trans h.size h'.size
 own := fun b hb => by
   rcases h'.own b hb with h1 | h1
   · exact h.own b h1
   · exact .inr (Nat.le_trans h.size h1)
 M := h'.M.trans h.M
 tt := h'.tt.trans h.tt
 B0 := h'.B0.trans h.B0
 cnt := fun s => Nat.le_trans (h.cnt s) (h'.cnt s)
 nokey := fun k hk hn => h'.nokey k (h.known hk) (h.nokey k hk hn)
 rows := fun k sz rs hk => by
   rcases h.rows k sz rs hk with h1 | ⟨rs', h1, h2, h3⟩
   · exact .inl (h'.nokey k (h.known (g k _ hk)) h1)
   · rcases h'.rows k sz rs' h1 with h4 | ⟨rs'', h4, h5, h6⟩
     · exact .inl h4
     · exact .inr ⟨rs'', h4, h5.trans h2, h6.trans h3⟩
 map := fun k o hk hd => by
   rcases h.map k o hk hd with h1 | ⟨o', h1, h2, h3⟩
   · exact .inl (h'.nokey k (h.known (g k _ hk)) h1)
   · rcases h'.map k o' h1 (by rw [h2]; exact hd) with h4 | ⟨o'', h4, h5, h6⟩
     · exact .inl h4
     · exact .inr ⟨o'', h4, h5.trans h2, h6.trans h3⟩

theorem cell?_of_block {w w' : World} {b : Nat} (h : w'.heap[b]? = w.heap[b]?) (o : Nat) : w'.cell? ⟨b, o, none⟩ = w.cell? ⟨b, o, none⟩ := by
 simp only [World.cell?, h]

theorem MemAt.le {E E' : Env} (h : EnvLe E E') {t : Bool} {sz : Nat} {rows : Rows} {b off : Nat} {f : Nat → Nat → Value} (m : MemAt E t sz rows b off f) : MemAt E' t sz rows b off f where
 own := fun hn => by
   rcases h.own b hn with h1 | h1
   · exact m.own h1
   · have := m.lt; omega
 out := fun ht => by rw [h.M]; exact m.out ht
 tt := fun ht => by rw [h.tt]; exact m.tt ht
 lt := Nat.lt_of_lt_of_le m.lt h.size
 width := m.width
 cell := fun i j row p h1 h2 => by rw [cell?_of_block (h.blk b m.lt m.own)]; exact m.cell i j row p h1 h2
 pure := m.pure
 one := m.one


theorem Rep.le {E E' : Env} (h : EnvLe E E') {v : Value} {p : PV} (r : Rep E v p) : Rep E' v p := by
 induction r with
 | sc hx => exact .sc hx
 | nil => exact .nil
 | litE => exact .litE
 | lit hm hc hr ih => exact .lit (hm.le h) hc ih
 | lptr i j hm hr ih => exact .lptr i j (hm.le h) ih
 | ref hk hlen hl =>
   refine .ref (h.known hk) hlen fun o' ho' => ?_
   cases hq : E.h _ with
   | none => rw [h.nokey _ hk hq] at ho'; cases ho'
   | some o =>
     obtain ⟨h1, h2, rs, rfl⟩ := hl o hq
     rcases h.rows _ _ _ hq with h3 | ⟨rs', h3, h4, h5⟩
     · rw [h3] at ho'; cases ho'
     · rw [h3] at ho'; cases ho'; exact ⟨⟨h1.1.trans h4.symm, by rw [h5]; exact h1.2⟩, by rw [h5]; exact h2, rs', rfl⟩
 | refE hk hl =>
   refine .refE (h.known hk) fun o' ho' => ?_
   cases hq : E.h _ with
   | none => rw [h.nokey _ hk hq] at ho'; cases ho'
   | some o =>
     obtain ⟨rs, rfl⟩ := hl o hq
     rcases h.rows _ _ _ hq with h3 | ⟨rs', h3, h4, h5⟩
     · rw [h3] at ho'; cases ho'
     · rw [h3] at ho'; cases ho'; exact ⟨rs', rfl⟩
 | ptr hk hl =>
   refine .ptr (h.known hk) fun o' ho' => ?_
   cases hq : E.h _ with
   | none => rw [h.nokey _ hk hq] at ho'; cases ho'
   | some o =>
     obtain ⟨h1, rs, rfl⟩ := hl o hq
     rcases h.rows _ _ _ hq with h3 | ⟨rs', h3, h4, h5⟩
     · rw [h3] at ho'; cases ho'
     · rw [h3] at ho'; cases ho'; exact ⟨⟨h1.1.trans h4.symm, by rw [h5]; exact h1.2⟩, rs', rfl⟩
 | agg hl _ ih => exact .agg hl ih
 | tup hl _ ih => exact .tup hl ih
 | func hl hl' _ _ ih ih' => exact .func hl hl' ih ih'
 | map hk hl =>
   refine .map (h.known hk) fun o' ho' => ?_
   cases hq : E.h _ with
   | none => rw [h.nokey _ hk hq] at ho'; cases ho'
   | some o =>
     obtain ⟨h1, h2⟩ := hl o hq
     rcases h.map _ _ hq (by rw [h2]; decide) with h3 | ⟨o1, h3, h4, h5⟩
     · rw [h3] at ho'; cases ho'
     · rw [h3] at ho'; cases ho'; exact ⟨h1.trans h5.symm, h4.trans h2⟩
 | iter hk hl =>
   refine .iter (h.known hk) fun o' ho' => ?_
   cases hq : E.h _ with
   | none => rw [h.nokey _ hk hq] at ho'; cases ho'
   | some o =>
     obtain ⟨h1, h2⟩ := hl o hq
     rcases h.map _ _ hq (by rw [h2]; decide) with h3 | ⟨o1, h3, h4, h5⟩
     · rw [h3] at ho'; cases ho'
     · rw [h3] at ho'; cases ho'; exact ⟨h1.trans h5.symm, h4.trans h2⟩
 | dead => exact .dead

theorem Rep.one {E : Env} {v : Value} {p : PV} (r : Rep E v p) (h : p.cell = true) : v.oneCell' = true := by
 cases r <;> first | rfl | assumption | (simp [PV.cell] at h; done) | skip
 case sc hx => cases v <;> first | rfl | (simp [isScalar] at hx)

/-- A pure value read in another environment: as a callee's argument, or as a callee's result. -/
theorem Rep.pure_env {E E' : Env} {v : Value} {p : PV} (r : Rep E v p) (hp : Pure p)
   (hown : ∀ b, b < E.w.heap.size → ¬ E.own b → (E.tt = false → ¬ E.M b) → ¬ E'.own b) (hM : ∀ b, b < E.w.heap.size → ¬ E.own b → ¬ E.M b → ¬ E'.M b) (htt : E.tt = true → E'.tt = true)
   (hsz : E.w.heap.size ≤ E'.w.heap.size) (hb : ∀ b, b < E.w.heap.size → ¬ E.own b → E'.w.heap[b]? = E.w.heap[b]?) : Rep E' v p := by
 have hm' : ∀ {t : Bool} {sz : Nat} {rows : Rows} {b off : Nat} {f : Nat → Nat → Value}, MemAt E t sz rows b off f → MemAt E' t sz rows b off f := fun m => {
   own := hown _ m.lt m.own fun htf => m.out (Bool.eq_false_iff.2 fun ht => by rw [m.tt ht] at htf; cases htf)
   out := fun ht => hM _ m.lt m.own (m.out ht)
   tt := fun ht => htt (m.tt ht)
   lt := Nat.lt_of_lt_of_le m.lt hsz
   width := m.width
   cell := fun i j row p h1 h2 => by rw [cell?_of_block (hb _ m.lt m.own)]; exact m.cell i j row p h1 h2
   pure := m.pure
   one := m.one }
 induction r with
 | sc hx => exact .sc hx
 | nil => exact .nil
 | litE => exact .litE
 | lit hm hc hr ih => exact .lit (hm' hm) hc fun i j row p h1 h2 => ih i j row p h1 h2 (hm.pure row (List.mem_of_getElem? h1) p (List.mem_of_getElem? h2))
 | lptr i j hm hr ih => exact .lptr i j (hm' hm) fun i j row p h1 h2 => ih i j row p h1 h2 (hm.pure row (List.mem_of_getElem? h1) p (List.mem_of_getElem? h2))
 | agg hl _ ih => cases hp with | agg _ h => exact .agg hl fun i v p h1 h2 => ih i v p h1 h2 (h p (List.mem_of_getElem? h2))
 | tup hl _ ih => cases hp with | tup _ h => exact .tup hl fun i v p h1 h2 => ih i v p h1 h2 (h p (List.mem_of_getElem? h2))
 | func hl hl' _ _ ih ih' => cases hp with | func _ _ _ h h' => exact .func hl hl' (fun i v p h1 h2 => ih i v p h1 h2 (h p (List.mem_of_getElem? h2))) (fun i v p h1 h2 => ih' i v p h1 h2 (h' p (List.mem_of_getElem? h2)))
 | ref => cases hp
 | refE => cases hp
 | ptr => cases hp
 | map => cases hp
 | iter => cases hp
 | dead => cases hp

theorem ext_get {w : World} {n b : Nat} (h : b < (w.heap.extract 0 n).size) : b < n ∧ b < w.heap.size ∧ (w.heap.extract 0 n)[b]? = w.heap[b]? := by
 have h1 : (w.heap.extract 0 n).size = min n w.heap.size := by simp
 refine ⟨by omega, by omega, ?_⟩
 rw [Array.getElem?_extract, if_pos (by omega), Nat.zero_add]
theorem gw_keep {w w' : World} {n m : Nat} (h : gw w n) (hnm : n ≤ m) (hb : ∀ b, b < n → w'.heap[b]? = w.heap[b]?) : gw w' m := fun g => (h g).le (E' := gEnv w' m) (by
 have hlt : ∀ b, b < (w.heap.extract 0 n).size → b < (w'.heap.extract 0 m).size := fun b h1 => by
   obtain ⟨h2, h3, _⟩ := ext_get h1
   have h4 := hb b h2
   have h5 : b < w'.heap.size := by
     rw [Array.getElem?_eq_getElem h3] at h4
     exact (Array.getElem?_eq_some_iff.1 h4).1
   have : (w'.heap.extract 0 m).size = min m w'.heap.size := by simp
   omega
 refine ⟨fun b h1 _ => ?_, ?_, fun b h1 => .inl h1, rfl, rfl, rfl, fun _ => Nat.le_refl _, fun _ _ h => h, fun _ _ rs h => by simp [gEnv] at h, fun _ o h _ => by simp [gEnv] at h⟩
 · show (w'.heap.extract 0 m)[b]? = (w.heap.extract 0 n)[b]?
   rw [(ext_get h1).2.2, (ext_get (hlt b h1)).2.2, hb b (ext_get h1).1]
 · show (w.heap.extract 0 n).size ≤ (w'.heap.extract 0 m).size
   cases hq : (w.heap.extract 0 n).size with
   | zero => exact Nat.zero_le _
   | succ q => exact hlt q (by omega))
theorem gw_rep {E : Env} (h : gw E.w E.B0) (hbase : ∀ (k : Key) (o : PObj), E.h k = some o → E.B0 ≤ E.blk k) (ht : E.tt = true) (g : Nat) : Rep E (.pointer (some ⟨g, 0, none⟩)) (gpv g) := by
 rcases gpv_pure g with h1 | h1
 · rw [h1]; exact .dead
 · refine (h g).pure_env h1 (fun b h2 _ _ ⟨k, o, h3, h4⟩ => ?_) (fun _ _ _ h2 => absurd trivial h2) (fun _ => ht) ?_ fun b h2 _ => ?_
   · have := hbase k o h3; have := (ext_get h2).1; omega
   · show (E.w.heap.extract 0 E.B0).size ≤ _
     have : (E.w.heap.extract 0 E.B0).size = min E.B0 E.w.heap.size := by simp
     omega
   · exact (ext_get h2).2.2.symm
end Go.Pv
