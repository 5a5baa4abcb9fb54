/- A run of closed code, reckoned over plain data: more of what only looks. No statement of the seat is proved here. -/
import Derived.Test.YtmgnkohlfbjjnaaGreatREvS3
namespace Go.Ev
open Go.Fw
set_option linter.unusedSimpArgs false
set_option linter.unusedVariables false
section
variable {I : Ip} {env : Env} {lo k n : Nat} {w : World} {g : Look} {F : Fm} {a : Act} {dd : List Deferred} {P : Program}

theorem asNat_ok {v : AV} {i : Nat} (h : asNat v = some i) : ∃ q, I.g v = .int q (i : Int) := by
  cases v <;> simp only [asNat] at h <;> try (cases h; done)
  rename_i q m
  split at h
  · cases h; exact ⟨q, by simp only [gam, Ip.g]; congr 1; omega⟩
  · cases h

theorem v_indexAddr (hg : GK I env lo k w g) (hF : FR I k n F a dd) {o : Oper} {t : Nat} {x y : Operand} {v : AV} (ho : o.op = .indexAddr t x y) (h : aval (tabOf P) g F o.op = some v) : Good P I k w a o v := by
  rw [ho] at h
  simp only [aval, Option.bind_eq_bind, Option.bind_eq_some_iff] at h
  obtain ⟨u, hu, i, hi, d, (hd : P.underlying t = some d), ux, hx, h⟩ := h
  obtain ⟨h1, h2⟩ := hF.eval hu
  obtain ⟨h3, h4⟩ := hF.eval hx
  obtain ⟨q, hq⟩ := asNat_ok (I := I) hi
  have fin : ∀ {base ln e z : Nat} {ad : Addr} {off' : Nat}, P.underlying t = some (.slice e) → (P.info? e).map (·.size) = some z → (∃ cap, I.g ux = .slice (some ad) ln cap) → i < ln → ad.add (i * z) = ⟨(I.sv base).blk, off', none⟩ → base < k →
      Good P I k w a o (.p base off') := by
    intro base ln e z ad off' hd hz ⟨cap, hs⟩ hlt had hb
    refine ⟨?_, hb⟩
    have hz' := run_sizeOf' (P := P) hz w
    have hlt' : (0 : Int) ≤ (i : Int) ∧ (i : Int) < (ln : Int) := by omega
    simp [execOp, ho, h1, h3, hq, hs, Instr.indexAt, asIntOf, run_underlying hd, hlt, hz', had, gam]
  cases d <;> cases ux <;> simp only at h <;> try (cases h; done)
  case array.p len e m off =>
    obtain ⟨z, hz, h⟩ := Option.bind_eq_some_iff.1 h
    split at h
    · rename_i hlt
      cases h
      refine ⟨?_, h4⟩
      have hz' := run_sizeOf' (P := P) hz w
      have hlt' : (0 : Int) ≤ (i : Int) ∧ (i : Int) < (len : Int) := by omega
      simp [execOp, ho, h1, h3, hq, gam, Instr.indexAt, asIntOf, run_underlying hd, Instr.sureAddr, hlt, hz', addr_add]
    · cases h
  case slice.sl e m off len cap =>
    obtain ⟨z, hz, h⟩ := Option.bind_eq_some_iff.1 h
    split at h
    · rename_i hlt
      cases h
      exact fin (ad := ⟨(I.sv m).blk, off, none⟩) hd hz ⟨cap, rfl⟩ hlt (addr_add _ _ _) h4
    · cases h
  case slice.row e m cuts =>
    obtain ⟨z, hz, h⟩ := Option.bind_eq_some_iff.1 h
    obtain ⟨l, hl, h⟩ := Option.bind_eq_some_iff.1 h
    split at h
    · rename_i hlt
      cases h
      exact fin (ad := ⟨(I.sv m).blk, startOf cuts * z, none⟩) hd hz (row_addr hg hl hlt) hlt (by rw [addr_add, Nat.add_mul]) h4
    · cases h

theorem v_index (hF : FR I k n F a dd) {o : Oper} {t : Nat} {x y : Operand} {v : AV} (ho : o.op = .index t x y) (h : aval (tabOf P) g F o.op = some v) : Good P I k w a o v := by
  rw [ho] at h
  simp only [aval, Option.bind_eq_bind, Option.bind_eq_some_iff] at h
  obtain ⟨u, hu, i, hi, d, (hd : P.underlying t = some d), ux, hx, h⟩ := h
  obtain ⟨h1, h2⟩ := hF.eval hu
  obtain ⟨h3, h4⟩ := hF.eval hx
  obtain ⟨q, hq⟩ := asNat_ok (I := I) hi
  cases d <;> cases ux <;> simp only at h <;> try (cases h; done)
  case string.s l =>
    obtain ⟨b, hb, h⟩ := Option.bind_eq_some_iff.1 h
    cases h
    refine ⟨?_, trivial⟩
    have : (⟨l.toArray⟩ : ByteArray)[i]? = some b := by
      have := List.getElem?_eq_some_iff.1 hb
      obtain ⟨hlt, hb⟩ := this
      rw [getElem?_pos (⟨l.toArray⟩ : ByteArray) i (by show i < l.toArray.size; simpa using hlt)]
      exact congrArg some hb
    simp [execOp, ho, h1, h3, hq, gam, Instr.index, asIntOf, run_underlying hd, this]
  case array.agg len e m l =>
    obtain ⟨z, hz, h⟩ := Option.bind_eq_some_iff.1 h
    split at h
    · rename_i hlt
      obtain ⟨q1, q2, q3⟩ := okV_agg.1 h4
      refine ⟨?_, (part_ok h q1 q2 q3).1⟩
      have hz' := run_sizeOf' (P := P) hz w
      have hlt' : (0 : Int) ≤ (i : Int) ∧ (i : Int) < (len : Int) := by omega
      have hp := part_part (P := P) (w := w) (I := I) h q1
      simp [execOp, ho, h1, h3, hq, gam, gams_eq, Instr.index, asIntOf, run_underlying hd, hlt, hz', hp]
    · cases h

theorem mapM_u8 {l : List AV} {r : List UInt8} (h : (l.mapM fun c => match c with | .i .u8 n => if 0 ≤ n ∧ n < 256 then some (UInt8.ofNat n.toNat) else none | _ => none) = some r) : l = r.map fun b => AV.i .u8 (b.toNat : Int) := by
  induction l generalizing r with
  | nil => simp at h; subst h; rfl
  | cons x l ih =>
    simp only [List.mapM_cons, Option.pure_def, Option.bind_eq_bind, Option.bind_eq_some_iff] at h
    obtain ⟨u, hu, us, hus, h⟩ := h
    cases h
    have h1 := ih hus
    cases x <;> (try simp only at hu) <;> try (cases hu; done)
    rename_i q m
    cases q <;> (try simp only at hu) <;> try (cases hu; done)
    split at hu
    · rename_i hm
      cases hu
      have : ((UInt8.ofNat m.toNat).toNat : Int) = m := by rw [UInt8.toNat_ofNat']; omega
      rw [h1, List.map_cons, this]
    · cases hu

theorem run_conv_bytes {s : SV} {t t' e : Nat} {r : List UInt8} (hs : SlU w s r.length 1 (r.map fun b => Value.int .u8 (b.toNat : Int))) (h1 : P.underlying t = some (.slice e)) (h2 : P.underlying e = some (.int .u8)) (h3 : P.underlying t' = some .string) :
    (convert t t' s.v).run P w = .ok (.string ⟨r.toArray⟩) w := by
  have hl := hs.len
  have hc := hs.cells
  obtain ⟨sa, sl, sc⟩ := s
  simp only at hl; subst hl
  cases sa with
  | none =>
    have : r = [] := List.eq_nil_of_length_eq_zero hc.1
    subst this
    rw [show SV.v ⟨none, ([] : List UInt8).length, sc⟩ = .slice none 0 sc from rfl, run_convert_bytes_string w t t' e none 0 sc h1 h2 h3]
    simp [Conv.bytesToString]
    rfl
  | some ad =>
    obtain ⟨b, off, sp⟩ := ad
    obtain ⟨h4, h5⟩ := hc
    simp only at h4; subst h4
    refine run_convert_bytes_back (P := P) w t t' e ⟨b, off, none⟩ sc r h1 h2 h3 fun j hj => ?_
    rw [addr_add]
    exact h5 j _ (by simp [hj])

theorem v_convert (hg : GK I env lo k w g) (hF : FR I k n F a dd) {o : Oper} {t t' : Nat} {x : Operand} {v : AV} (ho : o.op = .convert t t' x) (h : aval (tabOf P) g F o.op = some v) : Good P I k w a o v := by
  rw [ho] at h
  simp only [aval, Option.bind_eq_bind, Option.bind_eq_some_iff] at h
  obtain ⟨d, (hd : P.underlying t = some d), d', (hd' : P.underlying t' = some d'), u, hu, h⟩ := h
  obtain ⟨h1, h2⟩ := hF.eval hu
  have hint : ∀ {q q' : IntKind} {m : Int}, d' = .int q → u = .i q' m → v = .i q (q.wrap m) → Good P I k w a o v := by
    intro q q' m e1 e2 e3
    subst e1 e2 e3
    refine ⟨?_, trivial⟩
    simp [execOp, ho, h1, gam, convert, run_underlying hd, run_underlying hd', Conv.intToInt]
  have hstr : ∀ {e : Nat}, d = .slice e → d' = .string → ((tabOf P).und e).bind (fun d => match d with
      | .int .u8 => (sliceOf g 1 u).bind fun l => (l.2.mapM fun (c : AV) => match c with | .i .u8 n => if 0 ≤ n ∧ n < 256 then some (UInt8.ofNat n.toNat) else none | _ => none).bind fun r => some (AV.s r)
      | _ => none) = some v → Good P I k w a o v := by
    intro e e1 e2 hh
    subst e1 e2
    obtain ⟨de, (hde : P.underlying e = some de), hh⟩ := Option.bind_eq_some_iff.1 hh
    split at hh
    · obtain ⟨l, hl, hh⟩ := Option.bind_eq_some_iff.1 hh
      obtain ⟨r, hr, hh⟩ := Option.bind_eq_some_iff.1 hh
      cases hh
      obtain ⟨s, hs, hsl, _⟩ := sliceOf_ok hg hl
      have hn1 := mapM_u8 hr
      refine ⟨?_, trivial⟩
      rw [hn1] at hsl
      have e3 : l.1 = r.length := by have := hsl.n; simp at this; omega
      rw [e3, List.map_map] at hsl
      have e5 := run_conv_bytes (P := P) (t := t) (t' := t') (e := e) (w := w) (s := s) (r := r) hsl hd hde hd'
      rw [← hs] at e5
      simp only [execOp, ho, h1, Sem.run_bind, e5, Result.andThen_ok, Sem.run_pure]
      rfl
    · cases hh
  split at h
  · exact hint rfl rfl (Option.some.inj h).symm
  · exact hstr rfl rfl h
  · cases h
end
end Go.Ev
