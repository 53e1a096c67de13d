/- One operation that is no call of a function, second part: the other operations that write nothing. -/
import Derived.Test.YtjmjiegplnfiiaaPvC
namespace Go.Pv
open Go Go.RowKit
section
variable {P : Program} {E : Env}

theorem ro_field {t : TypeId} {f : Nat} {x : Value} {p : PV} (hx : Rep E x p) (hob : (fieldEff P t p f).ob) : RO P E (Instr.field t x f) (fieldEff P t p f) := by
 unfold fieldEff at hob ⊢
 split at hob
 · rename_i cs
   obtain ⟨h1, h2, h4⟩ := hob
   cases hx with
   | agg hl hp =>
     rename_i vs
     obtain ⟨fs, fd, hu, hfd, hok, hpl⟩ := struct_places h1 h2
     rw [hpl] at h4 ⊢
     obtain ⟨h5, h3⟩ := tyOk_spec hok
     obtain ⟨v, h6, h7⟩ := run_part (P := P) (t := fd.type) (o := fd.offset) h5 (.agg hl hp) rfl h3 h4
     exact ⟨v, by simp [Instr.field, run_under hu, hfd, asAgg, h6], h7, rfl, rfl⟩
 · exact hob.elim

theorem run_indexSlice {t : TypeId} (h : sliceOk P t = true) {b o len c : Nat} {k : IntKind} {i : Int} (h1 : 0 ≤ i) (h2 : i < len) (w : World) :
   (Instr.indexAt t (.slice (some ⟨b, o, none⟩) len c) (.int k i)).run P w = .ok (.pointer (some ⟨b, o + i.toNat * tySize P (elemTy P t), none⟩)) w := by
 obtain ⟨hu, hok⟩ := sliceOk_spec h
 have hs := run_sizeOf (P := P) (t := elemTy P t) rfl (by have := (tyOk_spec hok).2; omega) w
 simp only [Instr.indexAt, asIntOf, Sem.run_bind, Sem.run_pure, Result.andThen_ok, run_under hu]
 simp [h1, h2, hs, Addr.add_at]

theorem run_indexArr {t : TypeId} {n : Nat} {e : TypeId} (h : arrOk P t = some (n, e)) {b o : Nat} {k : IntKind} {i : Int} (h1 : 0 ≤ i) (h2 : i < n) (w : World) :
   (Instr.indexAt t (.pointer (some ⟨b, o, none⟩)) (.int k i)).run P w = .ok (.pointer (some ⟨b, o + i.toNat * tySize P e, none⟩)) w := by
 obtain ⟨hu, hok⟩ := arrOk_spec h
 have hs := run_sizeOf (P := P) (t := e) rfl (by have := (tyOk_spec hok).2; omega) w
 simp only [Instr.indexAt, asIntOf, Sem.run_bind, Sem.run_pure, Result.andThen_ok, run_under hu, Instr.sureAddr]
 simp [h1, h2, hs, Addr.add_at]

theorem ro_indexAddr {t : TypeId} {x ix : Value} {p q : PV} (hx : Rep E x p) (hi : Rep E ix q) (hob : (indexAddrEff P t p q).ob) : RO P E (Instr.indexAt t x ix) (indexAddrEff P t p q) := by
 unfold indexAddrEff at hob ⊢
 split at hob
 · rename_i k i
   obtain rfl := hi.int_inv
   split at hob
   · rename_i tt sz rs
     obtain ⟨h1, h2, h3, h4⟩ := hob
     cases hx with
     | litE => simp at h4; omega
     | lit hm hc hr => exact ⟨_, run_indexSlice h1 h3 h4 E.w, by rw [h2]; exact .lptr i.toNat 0 hm hr, rfl, rfl⟩
   · rename_i key sz off len
     obtain ⟨h1, h2, h3, h4⟩ := hob
     cases hx with
     | refE hk hl => simp at h4; omega
     | ref hk hlen hl =>
       refine ⟨_, run_indexSlice h1 h3 h4 E.w, ?_, rfl, rfl⟩
       rw [h2]
       exact .ptr (j := 0) hk fun o ho => ⟨⟨(hl o ho).1.1, by rw [(hl o ho).1.2, Nat.add_mul]; omega⟩, (hl o ho).2.2⟩
   · rename_i key sz a b
     split at hob
     · rename_i n e ha
       obtain ⟨h3, h4⟩ := hob
       cases hx with
       | ptr hk hl => exact ⟨_, run_indexArr ha h3 h4 E.w, .ptr hk fun o ho => ⟨⟨(hl o ho).1.1, by rw [(hl o ho).1.2]; omega⟩, (hl o ho).2⟩, rfl, rfl⟩
     · exact hob.elim
   · rename_i tt sz rs a b
     split at hob
     · rename_i n e ha
       obtain ⟨h3, h4⟩ := hob
       cases hx with
       | lptr _ _ hm hr => exact ⟨_, run_indexArr ha h3 h4 E.w, by rw [Nat.add_assoc]; exact .lptr _ _ hm hr, rfl, rfl⟩
     · exact hob.elim
   · exact hob.elim
 · exact hob.elim

theorem ro_index {t : TypeId} {x ix : Value} {p q : PV} (hx : Rep E x p) (hi : Rep E ix q) (hob : (indexEff P t p q).ob) : RO P E (Instr.index t x ix) (indexEff P t p q) := by
 unfold indexEff at hob ⊢
 split at hob
 · rename_i k i
   obtain rfl := hi.int_inv
   split at hob
   · rename_i s
     obtain ⟨h1, h2, h3⟩ := hob
     obtain rfl := hx.sc_inv
     have hlt : i.toNat < s.size := by omega
     refine ⟨.int .u8 ((s.data.toList.getD i.toNat 0).toNat), ?_, .sc rfl, rfl, rfl⟩
     simp only [Instr.index, asIntOf, Sem.run_bind, Sem.run_pure, Result.andThen_ok, run_under (isStringTy_spec h1), h2, if_true]
     have hg : s[i.toNat]? = some (s.data.toList.getD i.toNat 0) := by
       rw [getElem?_pos s i.toNat hlt, List.getD_eq_getElem?_getD, List.getElem?_eq_getElem (by simpa using hlt)]
       rfl
     rw [hg]
     rfl
   · rename_i cs
     split at hob
     · rename_i n e ha
       obtain ⟨h3, h4, h5⟩ := hob
       cases hx with
       | agg hl hp =>
         obtain ⟨hu, hok⟩ := arrOk_spec ha
         obtain ⟨h6, h7⟩ := tyOk_spec hok
         have hs := run_sizeOf (P := P) (t := e) rfl (by omega) E.w
         have hle : i.toNat * tySize P e + tySize P e ≤ cs.length := by
           rw [h5, ← Nat.succ_mul]; exact Nat.mul_le_mul_right _ (by omega)
         obtain ⟨v, h8, h9⟩ := run_part (P := P) (t := e) (o := i.toNat * tySize P e) h6 (.agg hl hp) rfl h7 hle
         refine ⟨v, ?_, h9, rfl, rfl⟩
         simp only [Instr.index, asIntOf, Sem.run_bind, Sem.run_pure, Result.andThen_ok, run_under hu, h3, h4, and_self, if_true, hs, h8]
     · exact hob.elim
   · exact hob.elim
 · exact hob.elim

theorem ro_extract {x : Value} {p : PV} {i : Nat} (hx : Rep E x p) (hob : (extractEff p i).ob) : RO P E (Instr.extract x i) (extractEff p i) := by
 unfold extractEff at hob ⊢
 split at hob
 · rename_i cs
   cases hx with
   | tup hl hp =>
     rename_i vs
     have h1 : i < cs.length := hob
     have h2 : i < vs.size := by omega
     exact ⟨vs[i], by simp [Instr.extract, h2], hp i _ _ (by simp [h2]) (by rw [List.getD_eq_getElem?_getD, List.getElem?_eq_getElem h1]; rfl), rfl, rfl⟩
 · exact hob.elim

def lenBody (t : TypeId) (x : Value) : Sem Value := do match ← underlying t, x with
   | .string, .string s => pure (goInt s.size)
   | .array n _, _ => pure (goInt n)
   | .pointer arr, _ =>
     let .array n _ ← underlying arr | stuck "len: pointer to array expected"
     pure (goInt n)
   | .slice _, .slice _ n _ => pure (goInt n)
   | .map _ _, .map none | .chan _ _, .chan none => pure (goInt 0)
   | .map _ _, .map (some r) =>
     let .map entries _ ← getObj r | stuck "len: map expected"
     pure (goInt entries.size)
   | .chan _ _, .chan (some r) =>
     let .chan _ buf _ _ _ timer ← getObj r | stuck "len: channel expected"
     pure (goInt (if timer then 0 else buf.size))
   | _, _ => stuck "len: string, array, pointer to array, slice, map or channel expected"

theorem run_lenSlice {t : TypeId} (h : sliceOk P t = true) (a : Option Addr) (n c : Nat) (w : World) : (lenBody t (.slice a n c)).run P w = .ok (.int .i64 n) w := by
 simp only [lenBody, Sem.run_bind, run_under (sliceOk_spec h).1, Result.andThen_ok]
 rfl

theorem ro_len (g : Good E) {t ty : TypeId} {x : Value} {p : PV} {ts : Array TypeId} {as : Array Value} (ht : ts[0]? = some t) (ha : as[0]? = some x) (hx : Rep E x p) (hob : (lenEff P E.h t p).ob) :
   RO P E (Builtin.len_ ts ty as) (lenEff P E.h t p) := by
 have key : Builtin.len_ ts ty as = lenBody t x := by
   unfold Builtin.len_ lenBody; rw [ht, ha]; rfl
 unfold lenEff at hob ⊢
 rw [key]
 split at hob
 · obtain rfl := hx.sc_inv
   exact ⟨_, by simp only [lenBody, Sem.run_bind, run_under (isStringTy_spec hob), Result.andThen_ok]; rfl, .sc rfl, rfl, rfl⟩
 · cases hx with
   | nil => exact ⟨_, run_lenSlice hob _ _ _ E.w, .sc rfl, rfl, rfl⟩
 · cases hx with
   | litE => exact ⟨_, run_lenSlice hob _ _ _ E.w, .sc rfl, rfl, rfl⟩
   | lit hm hc hr => exact ⟨_, run_lenSlice hob _ _ _ E.w, .sc rfl, rfl, rfl⟩
 · cases hx with
   | refE hk hl => exact ⟨_, run_lenSlice hob _ _ _ E.w, .sc rfl, rfl, rfl⟩
   | ref hk hlen hl => exact ⟨_, run_lenSlice hob _ _ _ E.w, .sc rfl, rfl, rfl⟩
 · split at hob
   · rename_i key' es bs clk0 hk
     obtain ⟨⟨kt, et⟩, hm⟩ := Option.isSome_iff_exists.1 hob
     cases hx with
     | map hkn hl =>
       obtain ⟨hb, _⟩ := hl _ hk
       obtain ⟨ents, h1, h2, _⟩ := g.obj _ _ hk
       refine ⟨.int .i64 ents.size, ?_, by rw [h2]; exact .sc rfl, rfl, rfl⟩
       simp only [lenBody, Sem.run_bind, run_under (mapTy_spec hm), Result.andThen_ok, getObj, Sem.run, hb, h1]
       rfl
   · exact hob.elim
 · exact hob.elim

end
end Go.Pv
