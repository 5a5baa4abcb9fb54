/- Ground for this claim: The call of TraceDiffs returns true. Condition: the arguments are of bulk at most 1048576. -/
import Derived.RangeFuncRecord
import Derived.RangeFuncIn
import Derived.Test.YtmgnkohlfbjjnaaGreatRTdf3
section
namespace Go.Ev
open Go.Fw
set_option linter.unusedSimpArgs false
set_option linter.unusedVariables false
theorem Upd.putObj {w : World} {b : Nat} {o o' : Obj} (hb : w.heap[b]? = some o) : Upd (.obj b o) (.obj b o') w (w.putObj b o') := by
  have hlt : b < w.heap.size := (Array.getElem?_eq_some_iff.1 hb).1
  refine ⟨⟨rfl, rfl, rfl⟩, by simp [World.putObj], fun k _ hf => ?_, ?_, fun _ hk => .inl hk⟩
  · exact World.putObj_heap_other (fun e => hf e)
  · exact World.putObj_heap_same hlt
section
variable {I : Ip} {env : Env} {n : Nat} {w0 w : World} {s s' : St} {F : Fm} {a : Act} {dd : List Deferred} {P : Program}
theorem a_mapUpdate (h : SR I env w0 s w) (hF : FR I s.nx n F a dd) {call : CallT} {o : Oper} {t : Nat} {m k x : Operand} {v : AV} (ho : o.op = .mapUpdate t m k x) (hh : aact (tabOf P) call s F o.op = some (v, s')) : Yd P o a.eval w (Left I env w0 s s' v) := by
  rw [ho] at hh
  simp only [aact, Option.bind_eq_bind, Option.bind_eq_some_iff] at hh
  obtain ⟨d, (hd : P.underlying t = some d), um, hm, hh⟩ := hh
  obtain ⟨h1, h2⟩ := hF.eval hm
  split at hh
  · rename_i kt et b
    rw [Option.bind_eq_some_iff] at hh
    obtain ⟨dk, (hdk : P.underlying kt = some dk), hh⟩ := hh
    split at hh
    · rename_i kd es c hb
      rw [Option.bind_eq_some_iff] at hh
      obtain ⟨uk, hk, hh⟩ := hh
      rw [Option.bind_eq_some_iff] at hh
      obtain ⟨ux, hx, hh⟩ := hh
      rw [Option.bind_eq_some_iff] at hh
      obtain ⟨⟨es', c'⟩, hp, hh⟩ := hh
      simp only [Option.some.injEq, Prod.mk.injEq] at hh
      obtain ⟨rfl, rfl⟩ := hh
      obtain ⟨h3, h4⟩ := hF.eval hk
      obtain ⟨h5, h6⟩ := hF.eval hx
      simp only [mapPut] at hp
      split at hp
      · rename_i q y hfind
        simp only [Option.some.injEq, Prod.mk.injEq, appR_eq] at hp
        obtain ⟨rfl, rfl⟩ := hp
        obtain ⟨r', hf, hv⟩ := mapFind_ok (I := I) kd 0 hfind ⟨q, y, rfl⟩
        have hr' : r' = none := by cases r' <;> simp at hv ⊢
        subst hr'
        have hfk : (Instr.findKey kt (I.g (.i q y)) (es.map fun e => (⟨I.g e.1, I.g e.2.1, e.2.2⟩ : MapEntry))).run P w = .ok none w := by
          simp [Instr.findKey, run_underlying hdk, hf]
        have hck : ∀ b, (Instr.checkKey b 10000 kt (I.g (.i q y))).run P w = .ok () w := fun b => run_checkKey_int hdk b q y
        have hobj := h.holds _ _ hb
        have hobj' : w.heap[(I.sv b).blk]? = some (.map (es.map fun e => (⟨I.g e.1, I.g e.2.1, e.2.2⟩ : MapEntry)).toArray c) := hobj
        have hset : ∀ ob, (setObj (I.sv b).blk ob).run P w = .ok () (w.putObj (I.sv b).blk ob) := fun ob => by simp [setObj, Sem.run, hobj', World.putObj]
        have hU := Upd.putObj (o' := .map ((es ++ [(AV.i q y, ux, c)]).map fun e => (⟨I.g e.1, I.g e.2.1, e.2.2⟩ : MapEntry)).toArray (c + 1)) hobj'
        refine Yd.skip' (w' := w.putObj (I.sv b).blk (.map ((es ++ [(AV.i q y, ux, c)]).map fun e => (⟨I.g e.1, I.g e.2.1, e.2.2⟩ : MapEntry)).toArray (c + 1))) ?_
          (h.left (v := .und) (o' := .map (es ++ [(AV.i q y, ux, c)]) (c + 1)) hb (fun e he => ?_) hU trivial)
        · have hmv : I.g (.mp b) = .map (some (I.sv b).blk) := by simp [gam]
          simp only [execOp, ho, h1, h3, h5, hmv, Instr.mapUpdate, Sem.run_bind, run_underlying hd, Result.andThen_ok, MapKept.run_getObj_map hobj', hck, hfk, hset, Sem.run_pure]
          simp
        · rcases List.mem_append.1 he with he | he
          · exact (h.ok _ _ hb).2 e he
          · simp only [List.mem_singleton] at he; subst he; exact ⟨h4, h6⟩
      · cases hp
    · cases hh
  · cases hh
theorem a_convert (h : SR I env w0 s w) (hF : FR I s.nx n F a dd) {call : CallT} {o : Oper} {t t' : Nat} {x : Operand} {v : AV} (ho : o.op = .convert t t' x) (hh : aact (tabOf P) call s F o.op = some (v, s')) : Yd P o a.eval w (Left I env w0 s s' v) := by
  rw [ho] at hh
  simp only [aact, Option.bind_eq_bind] at hh
  split at hh
  · cases hh
  · rename_i htt
    simp only [ne_eq, Decidable.not_not] at htt
    subst htt
    rw [Option.bind_eq_some_iff] at hh
    obtain ⟨d, (hd : P.underlying t = some d), hh⟩ := hh
    rw [Option.bind_eq_some_iff] at hh
    obtain ⟨u, hu, hh⟩ := hh
    obtain ⟨h1, h2⟩ := hF.eval hu
    split at hh
    · rename_i e m off len cap
      rw [Option.bind_eq_some_iff] at hh
      obtain ⟨de, (hde : P.underlying e = some de), hh⟩ := hh
      split at hh
      · rename_i N l q hm
        simp only [Option.some.injEq, Prod.mk.injEq] at hh
        obtain ⟨rfl, rfl⟩ := hh
        obtain ⟨hk, hok⟩ := h.ok m _ hm
        have hN : l.length = N := hok.1
        have hb : w.heap[(I.sv m).blk]? = some (.cells (l.map I.g).toArray q (0, 0)) := h.holds _ _ hm
        have hlt := (Array.getElem?_eq_some_iff.1 hb).1
        have hsh : w.shape? (I.sv m).blk = some (q, N) := by simp [World.shape?, hb, hN]
        have hU : Upd (res I env w0.heap.size m (.pt N l q)) (res I env w0.heap.size m (.fz N l q)) w (w.freeze ⟨(I.sv m).blk, N, none⟩ 1) := by
          refine ⟨⟨rfl, rfl, rfl⟩, by simp [World.freeze], fun j _ hf => ?_, ?_, fun _ hk => .inl hk⟩
          · simp only [World.freeze]
            rw [if_neg (by decide)]
            simp only [Array.getElem?_modify]
            rw [if_neg (fun e => hf (by simp only [res, Res.fp]; exact e.symm))]
          · show (w.freeze ⟨(I.sv m).blk, N, none⟩ 1).heap[(I.sv m).blk]? = _
            simp only [World.freeze]
            rw [if_neg (by decide)]
            simp only [Array.getElem?_modify, if_true, hb, Option.map_some]
            rfl
        refine Yd.ok' (w' := w.freeze ⟨(I.sv m).blk, N, none⟩ 1) ?_ (h.left (v := .sl m off len cap) (o' := .fz N l q) hm hok hU h2)
        simp only [execOp, ho, h1, Sem.run_bind]
        have : (convert t t (I.g (.sl m off len cap))).run P w = .ok (I.g (.sl m off len cap)) (w.freeze ⟨(I.sv m).blk, N, none⟩ 1) := by
          simp [gam, convert, run_underlying hd, run_underlying hde, markStringish, shape, freeze, Sem.run, hsh]
        rw [this]; rfl
      · cases hh
    · cases hh
theorem app_own {e lo m k z : Nat} {sv sy : SV} {xs ys : List Value} {t ty : Nat} {i : TypeInfo} {zv : Value} (ht : P.underlying t = some (.slice e)) (hi : P.info? e = some i) (hz : i.zero = some zv)
    (hsize : i.size = z) (hzs : zv.cells.size = z) (hpos : 0 < z) (hown : w.ownsRow lo e z sv.v m xs) (hy : SlU w sy k z ys) (h1 : ∀ u ∈ ys, u.oneCell' = true)
    (h63 : m + k ≤ maxLen) (hbytes : (m + k) * i.bytes ≤ 140737488355328) (hlo : lo ≤ w.heap.size) :
    ∃ (s' : SV) (w' : World), (Builtin.append_ #[t, t] ty #[sv.v, sy.v]).run P w = .ok s'.v w' ∧ Upd (.row lo sv.v e z m xs) (.row lo s'.v e z (m + k) (xs ++ ys)) w w' := by
  have fin : ∀ v' w', (Builtin.append_ #[t, t] ty #[sv.v, sy.v]).run P w = .ok v' w' → w'.ownsRow lo e z v' (m + k) (xs ++ ys) → w.grownBy w' sv.v.ownBlock →
      (∀ j, v'.ownBlock = some j → sv.v.ownBlock = some j ∨ w.heap.size ≤ j) → ∃ (s' : SV) (w' : World), (Builtin.append_ #[t, t] ty #[sv.v, sy.v]).run P w = .ok s'.v w' ∧ Upd (.row lo sv.v e z m xs) (.row lo s'.v e z (m + k) (xs ++ ys)) w w' := by
    intro v' w' hr h2 h3 h4
    have hv : ∃ s' : SV, v' = s'.v := by
      rcases h2.2 with ⟨rfl, h0⟩ | ⟨g, cap, cur, rfl, _⟩
      · exact ⟨SV.nil, rfl⟩
      · exact ⟨⟨some ⟨g, 0, none⟩, _, cap⟩, rfl⟩
    obtain ⟨s', rfl⟩ := hv
    exact ⟨s', w', hr, ⟨⟨h3.os, h3.tape, h3.output⟩, h3.size, fun k hk hf => h3.block k hk fun e' => hf (by simpa [Res.fp] using e'.symm), h2, h4⟩⟩
  have hc := hy.cells
  have hln := hy.len
  have hn := hy.n
  obtain ⟨sa, sl, sc⟩ := sy
  cases sa with
  | some ad =>
    obtain ⟨h2, h3⟩ := hc
    obtain ⟨b, off, sp⟩ := ad
    simp only at h2 h3 hln
    subst h2 hln
    have hcell : ∀ j u, ys[j]? = some u → w.cell? ((⟨b, off, none⟩ : Addr).add j) = some u := fun j u hu => by rw [addr_add]; exact h3 j u hu
    obtain ⟨v', w', hr, h4, h5, _⟩ := run_append_own (P := P) w lo t ty e i zv z i.bytes ht hi hz hsize rfl hzs hpos sv.v m xs hown ⟨b, off, none⟩ sl sc ys hn hcell h1 h63 hbytes hlo
    exact fin v' w' hr h4 h5 (append_block ht hi hz hsize rfl hown hn hcell h1 h63 hbytes hr)
  | none =>
    obtain ⟨h2, h3⟩ := hc
    simp only at h2 h3 hln
    subst h2 h3
    subst hln
    have hys : ys = [] := List.eq_nil_of_length_eq_zero (by simpa using hn)
    subst hys
    refine fin sv.v w ?_ (by simpa using hown) ⟨rfl, rfl, rfl, Nat.le_refl _, fun _ _ _ => rfl⟩ fun j hj => .inl hj
    have hcap : sv.len ≤ sv.cap := by
      rcases hown.2 with ⟨h, _⟩ | ⟨g, cap, cur, h, _, _, h', _⟩
      · obtain ⟨sa, sl, sc⟩ := sv; cases h; exact Nat.le_refl _
      · obtain ⟨sa, sl, sc⟩ := sv; cases h; exact h'
    obtain ⟨sa, sl, sc⟩ := sv
    have hcap' : sl ≤ sc := hcap
    cases sa <;> simp [Builtin.append_, run_underlying ht, sizeOf, typeInfo, hi, Builtin.lenOf, Builtin.firstCells, storeCells, hcap']
theorem app_grow {e lo k z b off len cap : Nat} {sy : SV} {xs ys : List Value} {t ty : Nat} {i : TypeInfo} {zv : Value} (ht : P.underlying t = some (.slice e)) (hi : P.info? e = some i) (hz : i.zero = some zv)
    (hsize : i.size = z) (hzs : zv.cells.size = z) (hx : SlU w ⟨some ⟨b, off, none⟩, len, cap⟩ len z xs) (hy : SlU w sy k z ys) (hg : cap < len + k)
    (h63 : len + k ≤ maxLen) (hbytes : (len + k) * i.bytes ≤ 140737488355328) (hlo : lo ≤ w.heap.size) :
    ∃ (s' : SV) (w' : World), (Builtin.append_ #[t, t] ty #[.slice (some ⟨b, off, none⟩) len cap, sy.v]).run P w = .ok s'.v w' ∧ Added (.row lo s'.v e z (len + k) (xs ++ ys)) w w' := by
  subst hsize
  have hroom := hx.room
  simp only at hroom
  have hc := hy.cells
  have hln := hy.len
  have hn := hy.n
  obtain ⟨sa, sl, sc⟩ := sy
  cases sa with
  | none => have := hc.1; omega
  | some ad =>
    obtain ⟨h2, h3⟩ := hc
    obtain ⟨b', off', sp⟩ := ad
    simp only at h2 h3 hln
    subst h2 hln
    have hcell : ∀ j u, ys[j]? = some u → w.cell? ((⟨b', off', none⟩ : Addr).add j) = some u := fun j u hu => by rw [addr_add]; exact h3 j u hu
    have hcellx : ∀ j u, xs[j]? = some u → w.cell? ((⟨b, off, none⟩ : Addr).add j) = some u := fun j u hu => by rw [addr_add]; exact hx.cells.2 j u hu
    have hm : (len + sl : Nat) ≤ 9223372036854775807 := by simp only [maxLen] at h63; omega
    have hr := run_append_grow (P := P) w t ty e i zv ht hi hz ⟨b, off, none⟩ len cap xs hx.n hcellx ⟨b', off', none⟩ sl sc ys hn hcell hg (by omega) (growslice_fits (by omega) hbytes)
    have hge := grownCap_ge w (len + sl) cap e
    have hcm : grownCap w (len + sl) cap e ≤ maxLen := grownCap_le_maxLen w (len + sl) cap e h63
    have hlen : (xs ++ ys).length = (len + sl) * i.size := by rw [List.length_append, hx.n, hn, Nat.add_mul]
    refine ⟨⟨some ⟨w.heap.size, 0, none⟩, len + sl, grownCap w (len + sl) cap e⟩, _, hr, ?_⟩
    refine ⟨⟨⟨rfl, rfl, rfl⟩, by simp, fun j hj _ => heap_alloc_old (w := w.drew) _ hj⟩, ⟨hlen, .inr ⟨w.heap.size, _, _, rfl, hlo, heap_alloc_new w.drew _, hge, hcm, ?_, ?_⟩⟩, fun j hj => ?_⟩
    · simp only [Array.size_append, List.size_toArray, size_zeroCells, hzs, hx.n, hn, ← Nat.add_mul]
      congr 1
      omega
    · simp only [Array.toList_append, List.append_assoc]
      rw [← List.append_assoc, ← hlen]
      exact List.take_left
    · simp [Res.fp, SV.v, Value.ownBlock] at hj; omega
end
end Go.Ev
end
section
namespace Go.Fw
set_option linter.unusedVariables false
set_option linter.unusedSimpArgs false
structure Full (e lo : Nat) (s : SV) (l : List UInt8) (w : World) : Prop where
  ex : ∃ g fz, s = ⟨some ⟨g, 0, none⟩, l.length, l.length⟩ ∧ lo ≤ g ∧ w.heap[g]? = some (.cells (encs l).toArray e fz)
structure Wr (T e lo wb : Nat) (c : Bool) (l : List UInt8) (fp : Nat → Prop) (w : World) : Prop where
  ge : lo ≤ wb
  ex : ∃ s : SV, w.heap[wb]? = some (.cells #[s.v] T (0, 0)) ∧ (Own lo w e s l ∨ (c = false ∧ Full e lo s l w)) ∧ ∀ k, fp k ↔ (k = wb ∨ s.v.ownBlock = some k)
abbrev wrR (T e lo wb : Nat) (c : Bool) (l : List UInt8) (fp : Nat → Prop) : Res := .gen fp (Wr T e lo wb c l fp)
section
variable {T e lo wb : Nat} {c c' : Bool} {l l' : List UInt8} {fp fp' : Nat → Prop} {w w' w0 wb0 : World} {L : List Res}
theorem Wr.lt (h : Wr T e lo wb c l fp w) {k : Nat} (hk : fp k) : lo ≤ k ∧ k < w.heap.size := by
  obtain ⟨s, h1, h2, h3⟩ := h.ex
  rcases (h3 k).1 hk with rfl | h4
  · exact ⟨h.ge, (Array.getElem?_eq_some_iff.1 h1).1⟩
  · rcases h2 with h2 | ⟨_, ⟨g, fz, rfl, hg, hh⟩⟩
    · exact World.ownsRow.lt h2 k h4
    · simp only [SV.v, Value.ownBlock, Option.some.injEq] at h4
      subst h4
      exact ⟨hg, (Array.getElem?_eq_some_iff.1 hh).1⟩
theorem Wr.keep (h : Wr T e lo wb c l fp w) (hio : Io w w') (hs : w.heap.size ≤ w'.heap.size) (hk : ∀ k, fp k → w'.heap[k]? = w.heap[k]?) : Wr T e lo wb c l fp w' := by
  obtain ⟨s, h1, h2, h3⟩ := h.ex
  refine ⟨h.ge, s, by rw [hk wb ((h3 wb).2 (.inl rfl))]; exact h1, ?_, h3⟩
  rcases h2 with h2 | ⟨hc, ⟨g, fz, rfl, hg, hh⟩⟩
  · exact .inl (Res.keep (r := .row lo s.v e (Enc.sz UInt8) l.length (encs l)) h2 hio hs fun k hk' => hk k ((h3 k).2 (.inr hk')))
  · exact .inr ⟨hc, ⟨g, fz, rfl, hg, by rw [hk g ((h3 g).2 (.inr rfl))]; exact hh⟩⟩
theorem Wr.holds (h : Wr T e lo wb c l fp w) : (wrR T e lo wb c l fp).holds w := ⟨fun k hk => (h.lt hk).2, fun w' a b d => h.keep a b d⟩
end
section
variable {P : Program} {n : Nat} {F : List (Nat × Value)} {a : Act} {dd : List Deferred} {w : World} {o : Oper} {J : Value → World → Prop}
end
end Go.Fw
end
section
namespace Go.Fx
open Go Go.Fw
set_option linter.unusedVariables false
set_option linter.unusedSimpArgs false
def Ext (e : Nat) (s : SV) (l : List UInt8) (w : World) : Prop := Own 0 w e s l ∨ Full e 0 s l w
abbrev fowL (e : Nat) (s : SV) (l : List UInt8) : Res := .gen (fun k => s.v.ownBlock = some k) (Ext e s l)
section
variable {e : Nat} {s : SV} {l : List UInt8} {w w' : World} {L : List Res}
theorem full_slice (h : Full e 0 s l w) : SliceOf 0 w s l := by
  obtain ⟨g, fz, rfl, _, hh⟩ := h.ex
  exact ⟨rfl, Nat.le_refl _, .inr rfl, Nat.zero_le _, cells_pt (n := (encs l).length) hh (cut_all rfl)⟩
theorem full_keep (h : Full e 0 s l w) (hk : ∀ k, s.v.ownBlock = some k → w'.heap[k]? = w.heap[k]?) : Full e 0 s l w' := by
  obtain ⟨g, fz, rfl, h0, hh⟩ := h.ex
  exact ⟨g, fz, rfl, h0, by rw [hk g rfl]; exact hh⟩
theorem Ext.slice (h : Ext e s l w) : SliceOf 0 w s l := h.elim Own.slice full_slice
theorem Ext.holds (h : Ext e s l w) : (fowL e s l).holds w := by
  refine ⟨fun k hk => ?_, fun w' hio hs hk => ?_⟩
  · rcases h with h | h
    · exact (World.ownsRow.lt h k hk).2
    · obtain ⟨g, fz, rfl, _, hh⟩ := h.ex
      simp only [SV.v, Value.ownBlock, Option.some.injEq] at hk; subst hk
      exact (Array.getElem?_eq_some_iff.1 hh).1
  · rcases h with h | h
    · exact .inl (Res.keep (r := .row 0 s.v e (Enc.sz UInt8) l.length (encs l)) h hio hs hk)
    · exact .inr (full_keep h hk)
end
section
variable {P : Program} {n : Nat} {F : List (Nat × Value)} {a : Act} {dd : List Deferred} {w : World} {o : Oper} {J : Value → World → Prop}
end
end Go.Fx
end
section
namespace Go.Proofs
open Go.Fw
set_option maxRecDepth 20000
def LVal.zero : LVal := ⟨0, 0, 0, 0⟩
def LSlot.zero : LSlot := ⟨LVal.zero, ⟨List.replicate 8 0, rfl⟩, 0⟩
def LTurn.zero : LTurn := ⟨0, LVal.zero, LVal.zero⟩
def LCell.zero : LCell := ⟨0, LSlot.zero, LSlot.zero⟩
def RPiece.zero : RPiece := ⟨0, 0, SV.nil, SV.nil⟩
def RMark.zero : RMark := ⟨0, 0, false, SV.nil, SV.nil, SV.nil, SV.nil⟩
def RInput.zero : RInput := ⟨SV.nil, SV.nil⟩
def RRecord.zero : RRecord := ⟨RInput.zero, SV.nil, 0⟩
def LTbl.zero : LTbl := ⟨0, 0⟩
def LIns.zero : LIns := ⟨0, false, false, 0, 0, 0, 0, 0⟩
def RProgram.zero : RProgram := ⟨0, 0, SV.nil, SV.nil, SV.nil⟩
def RState.zero : RState := ⟨⟨List.replicate 11 LVal.zero, rfl⟩, ⟨List.replicate 32 LSlot.zero, rfl⟩, SV.nil, SV.nil, SV.nil, 0, 0, false⟩
def ROutput.zero : ROutput := ⟨0, SV.nil, SV.nil, SV.nil⟩
def RWriter.zero : RWriter := ⟨SV.nil⟩
def RReader.zero : RReader := ⟨SV.nil, 0, 0, 0⟩
def RCursor.zero : RCursor := ⟨SV.nil, 0, 0, 0⟩
def RMemory.zero : RMemory := ⟨⟨List.replicate 32 LSlot.zero, rfl⟩, SV.nil, SV.nil, SV.nil, SV.nil⟩
def RMachine.zero : RMachine := ⟨RMemory.zero, SV.nil, SV.nil, none, ⟨List.replicate 11 LVal.zero, rfl⟩, SV.nil, 0, 0, false⟩
def LCl.zero : LCl := ⟨false, 0, 0, 0⟩
def RM.zero : RM := ⟨RProgram.zero, SV.nil, ⟨List.replicate 11 LVal.zero, rfl⟩, ⟨List.replicate 256 LCl.zero, rfl⟩, SV.nil, SV.nil, SV.nil, SV.nil, 0, 0, false⟩
def LRw.zero : LRw := ⟨0, 0, 0, false, false, 0, 0, 0, 0, 0, false⟩
def LSpan.zero : LSpan := ⟨0, 0, false, false⟩
def RSig.zero : RSig := ⟨SV.nil, LSpan.zero⟩
def RLender.zero : RLender := ⟨SV.nil⟩
def LOrdU.zero : LOrdU := ⟨0, 0⟩
def LOrdI.zero : LOrdI := ⟨0, 0⟩
end Go.Proofs
end
section
namespace Go.Fx
open Go Go.Fw
set_option linter.unusedVariables false
structure QPiece where
  table : Int
  from_ : Int
  old : List UInt8
  new : List UInt8
deriving DecidableEq
def QPieceIn (L : World → Prop) (x : RPiece) (p : QPiece) : Prop := ∃ (s_old : SV) (s_new : SV), x = (RPiece.mk p.table p.from_ s_old s_new) ∧ LIn L s_old p.old ∧ LIn L s_new p.new
theorem QPieceIn.mono {L L' : World → Prop} {x : RPiece} {p : QPiece} (h : QPieceIn L x p) (k : ∀ w, L' w → L w) : QPieceIn L' x p := by
  obtain ⟨s_old, s_new, e, h0, h1⟩ := h
  exact ⟨s_old, s_new, e, h0.mono k, h1.mono k⟩
structure QMark where
  at_ : Int
  next : Int
  done : Bool
  regs : List LTurn
  slots : List LCell
  pieces : List QPiece
  sent : List Int
deriving DecidableEq
def QMarkIn (L : World → Prop) (x : RMark) (p : QMark) : Prop := ∃ (s_regs : SV) (s_slots : SV) (s_pieces : SV) (h_pieces : List RPiece) (s_sent : SV), x = (RMark.mk p.at_ p.next p.done s_regs s_slots s_pieces s_sent) ∧ LIn L s_regs p.regs ∧ LIn L s_slots p.slots ∧ LIn L s_pieces h_pieces ∧ Each (QPieceIn L) h_pieces p.pieces ∧ LIn L s_sent p.sent
theorem QMarkIn.mono {L L' : World → Prop} {x : RMark} {p : QMark} (h : QMarkIn L x p) (k : ∀ w, L' w → L w) : QMarkIn L' x p := by
  obtain ⟨s_regs, s_slots, s_pieces, h_pieces, s_sent, e, h0, h1, h2, h3, h4⟩ := h
  exact ⟨s_regs, s_slots, s_pieces, h_pieces, s_sent, e, h0.mono k, h1.mono k, h2.mono k, h3.mono fun _ _ q => q.mono k, h4.mono k⟩
structure QInput where
  ctx : List UInt8
  tables : List (List UInt8)
deriving DecidableEq
def QInputIn (L : World → Prop) (x : RInput) (p : QInput) : Prop := ∃ (s_ctx : SV) (s_tables : SV) (h_tables : List SV), x = (RInput.mk s_ctx s_tables) ∧ LIn L s_ctx p.ctx ∧ LIn L s_tables h_tables ∧ Each (LIn (X := UInt8) L) h_tables p.tables
theorem QInputIn.mono {L L' : World → Prop} {x : RInput} {p : QInput} (h : QInputIn L x p) (k : ∀ w, L' w → L w) : QInputIn L' x p := by
  obtain ⟨s_ctx, s_tables, h_tables, e, h0, h1, h2⟩ := h
  exact ⟨s_ctx, s_tables, h_tables, e, h0.mono k, h1.mono k, h2.mono fun _ _ q => q.mono k⟩
structure QRecord where
  in_ : QInput
  marks : List QMark
  end_ : Int
deriving DecidableEq
def QRecordIn (L : World → Prop) (x : RRecord) (p : QRecord) : Prop := ∃ (s_in__ctx : SV) (s_in__tables : SV) (h_in__tables : List SV) (s_marks : SV) (h_marks : List RMark), x = (RRecord.mk (RInput.mk s_in__ctx s_in__tables) s_marks p.end_) ∧ LIn L s_in__ctx p.in_.ctx ∧ LIn L s_in__tables h_in__tables ∧ Each (LIn (X := UInt8) L) h_in__tables p.in_.tables ∧ LIn L s_marks h_marks ∧ Each (QMarkIn L) h_marks p.marks
theorem QRecordIn.mono {L L' : World → Prop} {x : RRecord} {p : QRecord} (h : QRecordIn L x p) (k : ∀ w, L' w → L w) : QRecordIn L' x p := by
  obtain ⟨s_in__ctx, s_in__tables, h_in__tables, s_marks, h_marks, e, h0, h1, h2, h3, h4⟩ := h
  exact ⟨s_in__ctx, s_in__tables, h_in__tables, s_marks, h_marks, e, h0.mono k, h1.mono k, h2.mono fun _ _ q => q.mono k, h3.mono k, h4.mono fun _ _ q => q.mono k⟩
structure QProgram where
  lo : Int
  hi : Int
  data : List UInt8
  tables : List LTbl
  code : List LIns
deriving DecidableEq
def QProgramIn (L : World → Prop) (x : RProgram) (p : QProgram) : Prop := ∃ (s_data : SV) (s_tables : SV) (s_code : SV), x = (RProgram.mk p.lo p.hi s_data s_tables s_code) ∧ LIn L s_data p.data ∧ LIn L s_tables p.tables ∧ LIn L s_code p.code
theorem QProgramIn.mono {L L' : World → Prop} {x : RProgram} {p : QProgram} (h : QProgramIn L x p) (k : ∀ w, L' w → L w) : QProgramIn L' x p := by
  obtain ⟨s_data, s_tables, s_code, e, h0, h1, h2⟩ := h
  exact ⟨s_data, s_tables, s_code, e, h0.mono k, h1.mono k, h2.mono k⟩
structure QState where
  regs : Vec LVal 11
  stack : Vec LSlot 32
  ctx : List UInt8
  tables : List (List UInt8)
  sent : List Int
  at_ : Int
  steps : Int
  done : Bool
deriving DecidableEq
def QStateIn (L : World → Prop) (x : RState) (p : QState) : Prop := ∃ (s_ctx : SV) (s_tables : SV) (h_tables : List SV) (s_sent : SV), x = (RState.mk p.regs p.stack s_ctx s_tables s_sent p.at_ p.steps p.done) ∧ LIn L s_ctx p.ctx ∧ LIn L s_tables h_tables ∧ Each (LIn (X := UInt8) L) h_tables p.tables ∧ LIn L s_sent p.sent
theorem QStateIn.mono {L L' : World → Prop} {x : RState} {p : QState} (h : QStateIn L x p) (k : ∀ w, L' w → L w) : QStateIn L' x p := by
  obtain ⟨s_ctx, s_tables, h_tables, s_sent, e, h0, h1, h2, h3⟩ := h
  exact ⟨s_ctx, s_tables, h_tables, s_sent, e, h0.mono k, h1.mono k, h2.mono fun _ _ q => q.mono k, h3.mono k⟩
structure QOutput where
  r0 : Int
  ctx : List UInt8
  tables : List (List UInt8)
  sent : List Int
deriving DecidableEq
def QOutputIn (L : World → Prop) (x : ROutput) (p : QOutput) : Prop := ∃ (s_ctx : SV) (s_tables : SV) (h_tables : List SV) (s_sent : SV), x = (ROutput.mk p.r0 s_ctx s_tables s_sent) ∧ LIn L s_ctx p.ctx ∧ LIn L s_tables h_tables ∧ Each (LIn (X := UInt8) L) h_tables p.tables ∧ LIn L s_sent p.sent
theorem QOutputIn.mono {L L' : World → Prop} {x : ROutput} {p : QOutput} (h : QOutputIn L x p) (k : ∀ w, L' w → L w) : QOutputIn L' x p := by
  obtain ⟨s_ctx, s_tables, h_tables, s_sent, e, h0, h1, h2, h3⟩ := h
  exact ⟨s_ctx, s_tables, h_tables, s_sent, e, h0.mono k, h1.mono k, h2.mono fun _ _ q => q.mono k, h3.mono k⟩
structure QWriter where
  b : List UInt8
deriving DecidableEq
def QWriterIn (L : World → Prop) (x : RWriter) (p : QWriter) : Prop := ∃ (s_b : SV), x = (RWriter.mk s_b) ∧ LIn L s_b p.b
theorem QWriterIn.mono {L L' : World → Prop} {x : RWriter} {p : QWriter} (h : QWriterIn L x p) (k : ∀ w, L' w → L w) : QWriterIn L' x p := by
  obtain ⟨s_b, e, h0⟩ := h
  exact ⟨s_b, e, h0.mono k⟩
structure QReader where
  b : List UInt8
  at_ : Int
  place : Int
  e : Int
deriving DecidableEq
def QReaderIn (L : World → Prop) (x : RReader) (p : QReader) : Prop := ∃ (s_b : SV), x = (RReader.mk s_b p.at_ p.place p.e) ∧ LIn L s_b p.b
theorem QReaderIn.mono {L L' : World → Prop} {x : RReader} {p : QReader} (h : QReaderIn L x p) (k : ∀ w, L' w → L w) : QReaderIn L' x p := by
  obtain ⟨s_b, e, h0⟩ := h
  exact ⟨s_b, e, h0.mono k⟩
structure QCursor where
  b : List UInt8
  at_ : Int
  place : Int
  e : Int
deriving DecidableEq
def QCursorIn (L : World → Prop) (x : RCursor) (p : QCursor) : Prop := ∃ (s_b : SV), x = (RCursor.mk s_b p.at_ p.place p.e) ∧ LIn L s_b p.b
theorem QCursorIn.mono {L L' : World → Prop} {x : RCursor} {p : QCursor} (h : QCursorIn L x p) (k : ∀ w, L' w → L w) : QCursorIn L' x p := by
  obtain ⟨s_b, e, h0⟩ := h
  exact ⟨s_b, e, h0.mono k⟩
structure QMemory where
  stack : Vec LSlot 32
  ctx : List UInt8
  tables : List (List UInt8)
  data : List UInt8
  sizes : List LTbl
deriving DecidableEq
def QMemoryIn (L : World → Prop) (x : RMemory) (p : QMemory) : Prop := ∃ (s_ctx : SV) (s_tables : SV) (h_tables : List SV) (s_data : SV) (s_sizes : SV), x = (RMemory.mk p.stack s_ctx s_tables s_data s_sizes) ∧ LIn L s_ctx p.ctx ∧ LIn L s_tables h_tables ∧ Each (LIn (X := UInt8) L) h_tables p.tables ∧ LIn L s_data p.data ∧ LIn L s_sizes p.sizes
theorem QMemoryIn.mono {L L' : World → Prop} {x : RMemory} {p : QMemory} (h : QMemoryIn L x p) (k : ∀ w, L' w → L w) : QMemoryIn L' x p := by
  obtain ⟨s_ctx, s_tables, h_tables, s_data, s_sizes, e, h0, h1, h2, h3, h4⟩ := h
  exact ⟨s_ctx, s_tables, h_tables, s_data, s_sizes, e, h0.mono k, h1.mono k, h2.mono fun _ _ q => q.mono k, h3.mono k, h4.mono k⟩
structure QM where
  p : QProgram
  units : List Int
  regs : Vec LVal 11
  cells : Vec LCl 256
  ptrs : List LVal
  ctx : List UInt8
  tables : List (List UInt8)
  sent : List Int
  at_ : Int
  steps : Int
  done : Bool
deriving DecidableEq
def QMIn (L : World → Prop) (x : RM) (p : QM) : Prop := ∃ (s_p_data : SV) (s_p_tables : SV) (s_p_code : SV) (s_units : SV) (s_ptrs : SV) (s_ctx : SV) (s_tables : SV) (h_tables : List SV) (s_sent : SV), x = (RM.mk (RProgram.mk p.p.lo p.p.hi s_p_data s_p_tables s_p_code) s_units p.regs p.cells s_ptrs s_ctx s_tables s_sent p.at_ p.steps p.done) ∧ LIn L s_p_data p.p.data ∧ LIn L s_p_tables p.p.tables ∧ LIn L s_p_code p.p.code ∧ LIn L s_units p.units ∧ LIn L s_ptrs p.ptrs ∧ LIn L s_ctx p.ctx ∧ LIn L s_tables h_tables ∧ Each (LIn (X := UInt8) L) h_tables p.tables ∧ LIn L s_sent p.sent
theorem QMIn.mono {L L' : World → Prop} {x : RM} {p : QM} (h : QMIn L x p) (k : ∀ w, L' w → L w) : QMIn L' x p := by
  obtain ⟨s_p_data, s_p_tables, s_p_code, s_units, s_ptrs, s_ctx, s_tables, h_tables, s_sent, e, h0, h1, h2, h3, h4, h5, h6, h7, h8⟩ := h
  exact ⟨s_p_data, s_p_tables, s_p_code, s_units, s_ptrs, s_ctx, s_tables, h_tables, s_sent, e, h0.mono k, h1.mono k, h2.mono k, h3.mono k, h4.mono k, h5.mono k, h6.mono k, h7.mono fun _ _ q => q.mono k, h8.mono k⟩
structure QSig where
  args : List Int
  ret : LSpan
deriving DecidableEq
def QSigIn (L : World → Prop) (x : RSig) (p : QSig) : Prop := ∃ (s_args : SV), x = (RSig.mk s_args p.ret) ∧ LIn L s_args p.args
theorem QSigIn.mono {L L' : World → Prop} {x : RSig} {p : QSig} (h : QSigIn L x p) (k : ∀ w, L' w → L w) : QSigIn L' x p := by
  obtain ⟨s_args, e, h0⟩ := h
  exact ⟨s_args, e, h0.mono k⟩
structure QLender where
  room : List UInt8
deriving DecidableEq
def QLenderIn (L : World → Prop) (x : RLender) (p : QLender) : Prop := ∃ (s_room : SV), x = (RLender.mk s_room) ∧ LIn L s_room p.room
theorem QLenderIn.mono {L L' : World → Prop} {x : RLender} {p : QLender} (h : QLenderIn L x p) (k : ∀ w, L' w → L w) : QLenderIn L' x p := by
  obtain ⟨s_room, e, h0⟩ := h
  exact ⟨s_room, e, h0.mono k⟩
end Go.Fx
end
section
namespace Go.Proofs
open Go Go.Fw Go.Fx
set_option maxRecDepth 10000
set_option linter.unusedVariables false
set_option linter.unusedSimpArgs false
def Sh.law23_known : Option Bool := some true
end Go.Proofs
end
section
namespace Go.Proofs
open Go Go.Fw Go.Fx
set_option maxRecDepth 10000
set_option linter.unusedVariables false
set_option linter.unusedSimpArgs false
noncomputable def Sh.trace_reader_fault (x0 : QReader) (x1 : Int) (x2 : Int) : Option QReader :=
  (bif (decide (x0.e = 0)) then (some (QReader.mk x0.b x0.at_ x1 x2)) else (some x0))
noncomputable def Sh.trace_reader_take_j1 (x1 : Int) (v40 : QReader) : Option ((List UInt8 × QReader)) :=
  (bif (!decide (v40.e = 0)) then (some ([], v40)) else ((Fx.slc v40.b (IntKind.i64.wrap ((IntKind.i64.wrap (v40.at_ + x1)) - x1)) (IntKind.i64.wrap (v40.at_ + x1))).bind fun x52 => (some (x52, (QReader.mk v40.b (IntKind.i64.wrap (v40.at_ + x1)) v40.place v40.e)))))
noncomputable def Sh.trace_reader_take (x0 : QReader) (x1 : Int) : Option ((List UInt8 × QReader)) :=
  (Fx.seq (bif (decide ((IntKind.i64.wrap ((x0.b.length : Int) - x0.at_)) < x1)) then ((Sh.trace_reader_fault x0 (x0.b.length : Int) 236).bind fun y45 => (some (Sum.inl y45))) else (some (Sum.inl x0))) fun v40 => Sh.trace_reader_take_j1 x1 v40)
noncomputable def Sh.trace_reader_number_l2 (y154 : (List UInt8 × QReader)) (v173 : Int) (v174 : Int) : Option (((Int × Int) ⊕ ((QReader × Int) ⊕ (Int × QReader)))) :=
  (bif (decide (v173 < (y154.1.length : Int))) then ((Fx.get y154.1 v173).bind fun x179 => (Fx.must (decide (0 ≤ (IntKind.i64.wrap (8 * v173)))) (some (Sum.inl ((IntKind.i64.wrap (v173 + 1)), (bor .i64 v174 (shl .i64 (x179.toNat : Int) ((IntKind.i64.wrap (8 * v173))).toNat))))))) else (some (Sum.inr (Sum.inl (y154.2, v174)))))
noncomputable def Sh.trace_reader_number_j1 (v149 : QReader) (v152 : Int) : Option ((Int × QReader)) :=
  (some (v152, v149))
noncomputable def Sh.trace_reader_number (x0 : QReader) (x1 : Int) : Option ((Int × QReader)) :=
  (Fx.seq ((Sh.trace_reader_take x0 x1).bind fun y154 => (Fx.loop (fun (v173, v174) => Sh.trace_reader_number_l2 y154 v173 v174) (0, 0))) fun (v149, v152) => Sh.trace_reader_number_j1 v149 v152)
end Go.Proofs
end
section
namespace Go.Proofs
open Go Go.Fw Go.Fx
set_option maxRecDepth 10000
set_option linter.unusedVariables false
set_option linter.unusedSimpArgs false
noncomputable def Sh.trace_within_j1 (v7 : Bool) : Option Bool :=
  (some v7)
noncomputable def Sh.trace_within (x0 : Int) (x1 : Int) (x2 : Int) : Option Bool :=
  (Fx.seq (bif (decide (x1 ≤ x0)) then (some (Sum.inl (decide (x0 ≤ x2)))) else (some (Sum.inl false))) fun v7 => Sh.trace_within_j1 v7)
noncomputable def Sh.trace_changed_byte_j3 (v531 : Int) (v549 : List Int) : Option (((List Int × Int) ⊕ (List Int ⊕ List Int))) :=
  (some (Sum.inl (v549, (IntKind.i64.wrap (v531 + 1)))))
noncomputable def Sh.trace_changed_byte_l2 (x0 : List UInt8) (x1 : List UInt8) (v528 : List Int) (v531 : Int) : Option (((List Int × Int) ⊕ (List Int ⊕ List Int))) :=
  (bif (decide (v531 < (x0.length : Int))) then (Fx.seq ((Fx.get x0 v531).bind fun x554 => ((Fx.get x1 v531).bind fun x555 => (bif (!decide ((x554.toNat : Int) = (x555.toNat : Int))) then ((Fx.app 8 v528 [v531]).bind fun x558 => (some (Sum.inl x558))) else (some (Sum.inl v528))))) fun v549 => Sh.trace_changed_byte_j3 v531 v549) else (some (Sum.inr (Sum.inl v528))))
noncomputable def Sh.trace_changed_byte_j1 (v465 : List Int) : Option (List Int) :=
  (some v465)
noncomputable def Sh.trace_changed_byte (x0 : List UInt8) (x1 : List UInt8) : Option (List Int) :=
  (Fx.seq (Fx.loop (fun (v528, v531) => Sh.trace_changed_byte_l2 x0 x1 v528 v531) ([], 0)) fun v465 => Sh.trace_changed_byte_j1 v465)
noncomputable def Sh.trace_changed_api_Value_j3 (v531 : Int) (v549 : List Int) : Option (((List Int × Int) ⊕ (List Int ⊕ List Int))) :=
  (some (Sum.inl (v549, (IntKind.i64.wrap (v531 + 1)))))
noncomputable def Sh.trace_changed_api_Value_l2 (x0 : List LVal) (x1 : List LVal) (v528 : List Int) (v531 : Int) : Option (((List Int × Int) ⊕ (List Int ⊕ List Int))) :=
  (bif (decide (v531 < (x0.length : Int))) then (Fx.seq ((Fx.get x0 v531).bind fun x554 => ((Fx.get x1 v531).bind fun x555 => (bif (!(decide (x554 = x555))) then ((Fx.app 8 v528 [v531]).bind fun x558 => (some (Sum.inl x558))) else (some (Sum.inl v528))))) fun v549 => Sh.trace_changed_api_Value_j3 v531 v549) else (some (Sum.inr (Sum.inl v528))))
noncomputable def Sh.trace_changed_api_Value_j1 (v465 : List Int) : Option (List Int) :=
  (some v465)
noncomputable def Sh.trace_changed_api_Value (x0 : List LVal) (x1 : List LVal) : Option (List Int) :=
  (Fx.seq (Fx.loop (fun (v528, v531) => Sh.trace_changed_api_Value_l2 x0 x1 v528 v531) ([], 0)) fun v465 => Sh.trace_changed_api_Value_j1 v465)
noncomputable def Sh.trace_changed_api_Slot_j3 (v531 : Int) (v549 : List Int) : Option (((List Int × Int) ⊕ (List Int ⊕ List Int))) :=
  (some (Sum.inl (v549, (IntKind.i64.wrap (v531 + 1)))))
noncomputable def Sh.trace_changed_api_Slot_l2 (x0 : List LSlot) (x1 : List LSlot) (v528 : List Int) (v531 : Int) : Option (((List Int × Int) ⊕ (List Int ⊕ List Int))) :=
  (bif (decide (v531 < (x0.length : Int))) then (Fx.seq ((Fx.get x0 v531).bind fun x554 => ((Fx.get x1 v531).bind fun x555 => (bif (!(decide (x554 = x555))) then ((Fx.app 8 v528 [v531]).bind fun x558 => (some (Sum.inl x558))) else (some (Sum.inl v528))))) fun v549 => Sh.trace_changed_api_Slot_j3 v531 v549) else (some (Sum.inr (Sum.inl v528))))
noncomputable def Sh.trace_changed_api_Slot_j1 (v465 : List Int) : Option (List Int) :=
  (some v465)
noncomputable def Sh.trace_changed_api_Slot (x0 : List LSlot) (x1 : List LSlot) : Option (List Int) :=
  (Fx.seq (Fx.loop (fun (v528, v531) => Sh.trace_changed_api_Slot_l2 x0 x1 v528 v531) ([], 0)) fun v465 => Sh.trace_changed_api_Slot_j1 v465)
noncomputable def Sh.trace_plainState_c9 (v11504 : Int) (v11511 : Bool) : Option ((Int ⊕ (Unit ⊕ (Int ⊕ (Bool ⊕ (Bool ⊕ (Bool ⊕ (Bool ⊕ Bool)))))))) :=
  (bif v11511 then (some (Sum.inr (Sum.inr (Sum.inl v11504)))) else (some (Sum.inl (IntKind.i64.wrap (v11504 + 1)))))
noncomputable def Sh.trace_plainState_l8 (x0 : QState) (v11504 : Int) : Option ((Int ⊕ (Unit ⊕ (Int ⊕ (Bool ⊕ (Bool ⊕ (Bool ⊕ (Bool ⊕ Bool)))))))) :=
  (bif (decide (v11504 < (x0.tables.length : Int))) then ((Fx.get x0.tables v11504).bind fun x11510 => (Fx.seq (some (Sum.inl (decide (65535 < (x11510.length : Int))))) fun v11511 => Sh.trace_plainState_c9 v11504 v11511)) else (some (Sum.inr (Sum.inl ()))))
noncomputable def Sh.trace_plainState_j7 : Option ((Int ⊕ (Bool ⊕ (Bool ⊕ (Bool ⊕ (Bool ⊕ Bool)))))) :=
  (some (Sum.inl (-1)))
noncomputable def Sh.trace_plainState_c6 (v11434 : Int) : Option ((Bool ⊕ (Bool ⊕ (Bool ⊕ (Bool ⊕ Bool))))) :=
  (some (Sum.inl (decide (0 ≤ v11434))))
noncomputable def Sh.trace_plainState_c5 (v11355 : Bool) : Option ((Bool ⊕ (Bool ⊕ (Bool ⊕ Bool)))) :=
  (some (Sum.inl (!v11355)))
noncomputable def Sh.trace_plainState_c4 (x0 : QState) (v11195 : Bool) : Option ((Bool ⊕ (Bool ⊕ (Bool ⊕ Bool)))) :=
  (bif (!v11195) then (bif (decide ((x0.tables.length : Int) ≤ 8)) then (Fx.seq (Fx.seq (Fx.seq (Fx.loop (fun v11504 => Sh.trace_plainState_l8 x0 v11504) 0) fun _ => Sh.trace_plainState_j7) fun v11434 => Sh.trace_plainState_c6 v11434) fun v11355 => Sh.trace_plainState_c5 v11355) else (some (Sum.inl false))) else (some (Sum.inl false)))
noncomputable def Sh.trace_plainState_j3 (v11194 : Bool) : Option ((Bool ⊕ (Bool ⊕ Bool))) :=
  (some (Sum.inl v11194))
noncomputable def Sh.trace_plainState_c2 (v10557 : Bool) : Option ((Bool ⊕ Bool)) :=
  (some (Sum.inl v10557))
noncomputable def Sh.trace_plainState_j1 (v9595 : Bool) : Option Bool :=
  (some v9595)
noncomputable def Sh.trace_plainState (x0 : QState) : Option Bool :=
  (Fx.seq ((Sh.trace_within x0.at_ 0 4095).bind fun y9597 => (bif y9597 then ((Sh.trace_within x0.steps 0 4294967296).bind fun y9600 => (bif y9600 then (Fx.seq (Fx.seq (Fx.seq (some (Sum.inl (decide (65535 < (x0.ctx.length : Int))))) fun v11195 => Sh.trace_plainState_c4 x0 v11195) fun v11194 => Sh.trace_plainState_j3 v11194) fun v10557 => Sh.trace_plainState_c2 v10557) else (some (Sum.inl false)))) else (some (Sum.inl false)))) fun v9595 => Sh.trace_plainState_j1 v9595)
noncomputable def Sh.trace_behind_l3 (x0 : QState) (x1 : QState) (v988 : Int) : Option ((Int ⊕ (Unit ⊕ Bool))) :=
  (bif (decide (v988 < (x0.tables.length : Int))) then ((Fx.get x0.tables v988).bind fun x998 => ((Fx.get x1.tables v988).bind fun x999 => (bif (!decide ((x998.length : Int) = (x999.length : Int))) then (some (Sum.inr (Sum.inr false))) else (some (Sum.inl (IntKind.i64.wrap (v988 + 1))))))) else (some (Sum.inr (Sum.inl ()))))
noncomputable def Sh.trace_behind_l7 (x0 : QState) (x1479 : List Int) (v1700 : Int) : Option ((Int ⊕ (Unit ⊕ (Bool ⊕ (Bool ⊕ Bool))))) :=
  (bif (decide (v1700 < (x0.sent.length : Int))) then ((Fx.get x0.sent v1700).bind fun x1710 => ((Fx.get x1479 v1700).bind fun x1711 => (bif (!decide (x1710 = x1711)) then (some (Sum.inr (Sum.inr (Sum.inl false)))) else (some (Sum.inl (IntKind.i64.wrap (v1700 + 1))))))) else (some (Sum.inr (Sum.inl ()))))
noncomputable def Sh.trace_behind_j6 : Option ((Bool ⊕ (Bool ⊕ Bool))) :=
  (some (Sum.inl true))
noncomputable def Sh.trace_behind_c5 (v1596 : Bool) : Option ((Bool ⊕ Bool)) :=
  (some (Sum.inl v1596))
noncomputable def Sh.trace_behind_j4 (v1475 : Bool) : Option Bool :=
  (some v1475)
noncomputable def Sh.trace_behind_j2 (x0 : QState) (x1 : QState) : Option Bool :=
  (Fx.seq ((Sh.trace_within (IntKind.i64.wrap ((x1.sent.length : Int) - (x0.sent.length : Int))) 0 1).bind fun y1477 => (bif y1477 then ((Fx.slc x1.sent 0 (x0.sent.length : Int)).bind fun x1479 => (Fx.seq (bif (!decide ((x0.sent.length : Int) = (x1479.length : Int))) then (some (Sum.inl false)) else (Fx.seq (Fx.loop (fun v1700 => Sh.trace_behind_l7 x0 x1479 v1700) 0) fun _ => Sh.trace_behind_j6)) fun v1596 => Sh.trace_behind_c5 v1596)) else (some (Sum.inl false)))) fun v1475 => Sh.trace_behind_j4 v1475)
noncomputable def Sh.trace_behind_j1 (x0 : QState) (x1 : QState) (v882 : Bool) : Option Bool :=
  (bif v882 then (some false) else (Fx.seq (Fx.loop (fun v988 => Sh.trace_behind_l3 x0 x1 v988) 0) fun _ => Sh.trace_behind_j2 x0 x1))
noncomputable def Sh.trace_behind (x0 : QState) (x1 : QState) : Option Bool :=
  (Fx.seq (bif x0.done then (some (Sum.inl true)) else (bif (!decide (x1.steps = (IntKind.i64.wrap (x0.steps + 1)))) then (some (Sum.inl true)) else (bif (!decide ((x0.ctx.length : Int) = (x1.ctx.length : Int))) then (some (Sum.inl true)) else (some (Sum.inl (!decide ((x0.tables.length : Int) = (x1.tables.length : Int)))))))) fun v882 => Sh.trace_behind_j1 x0 x1 v882)
end Go.Proofs
end
section
namespace Go.Proofs
open Go Go.Fw Go.Fx
set_option maxRecDepth 10000
set_option linter.unusedVariables false
set_option linter.unusedSimpArgs false
noncomputable def Sh.ref23_cursor_fault (x0 : QCursor) (x1 : Int) (x2 : Int) : Option QCursor :=
  (bif (decide (x0.e = 0)) then (some (QCursor.mk x0.b x0.at_ x1 x2)) else (some x0))
noncomputable def Sh.ref23_cursor_number_j2 (x0 : QCursor) (v110 : Bool) : Option ((QCursor ⊕ (Int × QCursor))) :=
  (bif v110 then ((Sh.ref23_cursor_fault x0 (x0.b.length : Int) 236).bind fun y114 => (some (Sum.inl y114))) else (some (Sum.inl x0)))
noncomputable def Sh.ref23_cursor_number_l4 (v105 : QCursor) (v162 : Int) (v163 : Int) : Option (((Int × Int) ⊕ (Int ⊕ (Int × QCursor)))) :=
  (bif (decide (0 ≤ v163)) then ((Fx.get v105.b (IntKind.i64.wrap (v105.at_ + v163))).bind fun x167 => (some (Sum.inl ((IntKind.u64.wrap ((IntKind.u64.wrap (v162 * 256)) + (x167.toNat : Int))), (IntKind.i64.wrap (v163 - 1)))))) else (some (Sum.inr (Sum.inl v162))))
noncomputable def Sh.ref23_cursor_number_j3 (x1 : Int) (v105 : QCursor) (v151 : Int) : Option ((Int × QCursor)) :=
  (some ((IntKind.i64.wrap v151), (QCursor.mk v105.b (IntKind.i64.wrap (v105.at_ + x1)) v105.place v105.e)))
noncomputable def Sh.ref23_cursor_number_j1 (x1 : Int) (v105 : QCursor) : Option ((Int × QCursor)) :=
  (bif (!decide (v105.e = 0)) then (some (0, v105)) else (Fx.seq (Fx.loop (fun (v162, v163) => Sh.ref23_cursor_number_l4 v105 v162 v163) (0, (IntKind.i64.wrap (x1 - 1)))) fun v151 => Sh.ref23_cursor_number_j3 x1 v105 v151))
noncomputable def Sh.ref23_cursor_number (x0 : QCursor) (x1 : Int) : Option ((Int × QCursor)) :=
  (Fx.seq (Fx.seq (bif (decide (x0.e = 0)) then (some (Sum.inl (decide ((x0.b.length : Int) < (IntKind.i64.wrap (x0.at_ + x1)))))) else (some (Sum.inl false))) fun v110 => Sh.ref23_cursor_number_j2 x0 v110) fun v105 => Sh.ref23_cursor_number_j1 x1 v105)
end Go.Proofs
end
section
namespace Go.Proofs
open Go Go.Fw Go.Fx
set_option maxRecDepth 10000
set_option linter.unusedVariables false
set_option linter.unusedSimpArgs false
noncomputable def Sh.ref23_within_j1 (v7 : Bool) : Option Bool :=
  (some v7)
noncomputable def Sh.ref23_within (x0 : Int) (x1 : Int) (x2 : Int) : Option Bool :=
  (Fx.seq (bif (decide (x1 ≤ x0)) then (some (Sum.inl (decide (x0 ≤ x2)))) else (some (Sum.inl false))) fun v7 => Sh.ref23_within_j1 v7)
noncomputable def Sh.ref23_inputPlain_l3 (x0 : QInput) (v140 : Int) : Option ((Int ⊕ (Unit ⊕ Bool))) :=
  (bif (decide (v140 < (x0.tables.length : Int))) then ((Fx.get x0.tables v140).bind fun x145 => (bif (decide (65535 < (x145.length : Int))) then (some (Sum.inr (Sum.inr false))) else (some (Sum.inl (IntKind.i64.wrap (v140 + 1)))))) else (some (Sum.inr (Sum.inl ()))))
noncomputable def Sh.ref23_inputPlain_j2 : Option Bool :=
  (some true)
noncomputable def Sh.ref23_inputPlain_j1 (x0 : QInput) (v84 : Bool) : Option Bool :=
  (bif v84 then (some false) else (Fx.seq (Fx.loop (fun v140 => Sh.ref23_inputPlain_l3 x0 v140) 0) fun _ => Sh.ref23_inputPlain_j2))
noncomputable def Sh.ref23_inputPlain (x0 : QInput) : Option Bool :=
  (Fx.seq (bif (decide (65535 < (x0.ctx.length : Int))) then (some (Sum.inl true)) else (some (Sum.inl (decide (8 < (x0.tables.length : Int)))))) fun v84 => Sh.ref23_inputPlain_j1 x0 v84)
noncomputable def Sh.ref23_statePlain_j1 (v50 : Bool) : Option Bool :=
  (some v50)
noncomputable def Sh.ref23_statePlain (x0 : QState) : Option Bool :=
  (Fx.seq ((Sh.ref23_within x0.at_ 0 4095).bind fun y52 => (bif y52 then ((Sh.ref23_within x0.steps 0 4294967296).bind fun y55 => (bif y55 then ((Sh.ref23_inputPlain (QInput.mk x0.ctx x0.tables)).bind fun y58 => (some (Sum.inl y58))) else (some (Sum.inl false)))) else (some (Sum.inl false)))) fun v50 => Sh.ref23_statePlain_j1 v50)
end Go.Proofs
end
section
namespace Go.Proofs
open Go Go.Fw Go.Fx
set_option maxRecDepth 10000
set_option linter.unusedVariables false
set_option linter.unusedSimpArgs false
noncomputable def Sh.law00_SameBytes (x0 : List UInt8) (x1 : List UInt8) : Option Bool :=
  (some (decide (x0 = x1)))
noncomputable def Sh.law00_SameInts_l2 (x0 : List Int) (x1 : List Int) (v224 : Int) : Option ((Int ⊕ (Unit ⊕ Bool))) :=
  (bif (decide (v224 < (x0.length : Int))) then ((Fx.get x0 v224).bind fun x234 => ((Fx.get x1 v224).bind fun x235 => (bif (!decide (x234 = x235)) then (some (Sum.inr (Sum.inr false))) else (some (Sum.inl (IntKind.i64.wrap (v224 + 1))))))) else (some (Sum.inr (Sum.inl ()))))
noncomputable def Sh.law00_SameInts_j1 : Option Bool :=
  (some true)
noncomputable def Sh.law00_SameInts (x0 : List Int) (x1 : List Int) : Option Bool :=
  (bif (!decide ((x0.length : Int) = (x1.length : Int))) then (some false) else (Fx.seq (Fx.loop (fun v224 => Sh.law00_SameInts_l2 x0 x1 v224) 0) fun _ => Sh.law00_SameInts_j1))
noncomputable def Sh.law00_CopyBytes (x0 : List UInt8) : Option (List UInt8) :=
  ((Fx.app 1 [] x0).bind fun x10 => (some x10))
noncomputable def Sh.law00_CopyInts (x0 : List Int) : Option (List Int) :=
  ((Fx.app 8 [] x0).bind fun x10 => (some x10))
noncomputable def Sh.law00_SameRows_l2 (x0 : List (List UInt8)) (x1 : List (List UInt8)) (v364 : Int) : Option ((Int ⊕ (Unit ⊕ Bool))) :=
  (bif (decide (v364 < (x0.length : Int))) then ((Fx.get x0 v364).bind fun x380 => ((Fx.get x1 v364).bind fun x381 => ((Sh.law00_SameBytes x380 x381).bind fun y383 => (bif (!y383) then (some (Sum.inr (Sum.inr false))) else (some (Sum.inl (IntKind.i64.wrap (v364 + 1)))))))) else (some (Sum.inr (Sum.inl ()))))
noncomputable def Sh.law00_SameRows_j1 : Option Bool :=
  (some true)
noncomputable def Sh.law00_SameRows (x0 : List (List UInt8)) (x1 : List (List UInt8)) : Option Bool :=
  (bif (!decide ((x0.length : Int) = (x1.length : Int))) then (some false) else (Fx.seq (Fx.loop (fun v364 => Sh.law00_SameRows_l2 x0 x1 v364) 0) fun _ => Sh.law00_SameRows_j1))
noncomputable def Sh.law00_CopyRows_l2 (x0 : List (List UInt8)) (v558 : List (List UInt8)) (v564 : Int) : Option (((List (List UInt8) × Int) ⊕ (List (List UInt8) ⊕ List (List UInt8)))) :=
  (bif (decide (v564 < (x0.length : Int))) then ((Fx.get x0 v564).bind fun x581 => ((Sh.law00_CopyBytes x581).bind fun y583 => ((Fx.app 24 v558 [y583]).bind fun x587 => (some (Sum.inl (x587, (IntKind.i64.wrap (v564 + 1)))))))) else (some (Sum.inr (Sum.inl v558))))
noncomputable def Sh.law00_CopyRows_j1 (v491 : List (List UInt8)) : Option (List (List UInt8)) :=
  (some v491)
noncomputable def Sh.law00_CopyRows (x0 : List (List UInt8)) : Option (List (List UInt8)) :=
  (Fx.seq (Fx.loop (fun (v558, v564) => Sh.law00_CopyRows_l2 x0 v558 v564) ([], 0)) fun v491 => Sh.law00_CopyRows_j1 v491)
noncomputable def Sh.law00_SameState_j1 (v83 : Bool) : Option Bool :=
  (some v83)
noncomputable def Sh.law00_SameState (x0 : QState) (x1 : QState) : Option Bool :=
  (Fx.seq (bif (decide (x0.regs = x1.regs)) then (bif (decide (x0.stack = x1.stack)) then ((Sh.law00_SameBytes x0.ctx x1.ctx).bind fun y87 => (bif y87 then ((Sh.law00_SameRows x0.tables x1.tables).bind fun y90 => (bif y90 then ((Sh.law00_SameInts x0.sent x1.sent).bind fun y93 => (bif y93 then (bif (decide (x0.at_ = x1.at_)) then (bif (decide (x0.steps = x1.steps)) then (some (Sum.inl (decide (x0.done = x1.done)))) else (some (Sum.inl false))) else (some (Sum.inl false))) else (some (Sum.inl false)))) else (some (Sum.inl false)))) else (some (Sum.inl false)))) else (some (Sum.inl false))) else (some (Sum.inl false))) fun v83 => Sh.law00_SameState_j1 v83)
noncomputable def Sh.law23_sameMark_l3 (x0 : QMark) (x1 : QMark) (v1108 : Int) : Option ((Int ⊕ (Unit ⊕ Bool))) :=
  (bif (decide (v1108 < (x0.regs.length : Int))) then ((Fx.get x0.regs v1108).bind fun x1118 => ((Fx.get x1.regs v1108).bind fun x1119 => (bif (!(decide (x1118 = x1119))) then (some (Sum.inr (Sum.inr false))) else (some (Sum.inl (IntKind.i64.wrap (v1108 + 1))))))) else (some (Sum.inr (Sum.inl ()))))
noncomputable def Sh.law23_sameMark_l5 (x0 : QMark) (x1 : QMark) (v1222 : Int) : Option ((Int ⊕ (Unit ⊕ Bool))) :=
  (bif (decide (v1222 < (x0.slots.length : Int))) then ((Fx.get x0.slots v1222).bind fun x1232 => ((Fx.get x1.slots v1222).bind fun x1233 => (bif (!(decide (x1232 = x1233))) then (some (Sum.inr (Sum.inr false))) else (some (Sum.inl (IntKind.i64.wrap (v1222 + 1))))))) else (some (Sum.inr (Sum.inl ()))))
noncomputable def Sh.law23_sameMark_j8 (v1816 : Int) (v1880 : Bool) : Option ((Int ⊕ (Unit ⊕ Bool))) :=
  (bif v1880 then (some (Sum.inr (Sum.inr false))) else (some (Sum.inl (IntKind.i64.wrap (v1816 + 1)))))
noncomputable def Sh.law23_sameMark_l7 (x0 : QMark) (x1 : QMark) (v1816 : Int) : Option ((Int ⊕ (Unit ⊕ Bool))) :=
  (bif (decide (v1816 < (x0.pieces.length : Int))) then ((Fx.get x0.pieces v1816).bind fun x1854 => ((Fx.get x1.pieces v1816).bind fun x1860 => (Fx.seq (bif (!decide (x1854.table = x1860.table)) then (some (Sum.inl true)) else (bif (!decide (x1854.from_ = x1860.from_)) then (some (Sum.inl true)) else ((Sh.law00_SameBytes x1854.old x1860.old).bind fun y1884 => (bif (!y1884) then (some (Sum.inl true)) else ((Sh.law00_SameBytes x1854.new x1860.new).bind fun y1887 => (some (Sum.inl (!y1887)))))))) fun v1880 => Sh.law23_sameMark_j8 v1816 v1880))) else (some (Sum.inr (Sum.inl ()))))
noncomputable def Sh.law23_sameMark_j6 : Option Bool :=
  (some true)
noncomputable def Sh.law23_sameMark_j4 (x0 : QMark) (x1 : QMark) : Option Bool :=
  (Fx.seq (Fx.loop (fun v1816 => Sh.law23_sameMark_l7 x0 x1 v1816) 0) fun _ => Sh.law23_sameMark_j6)
noncomputable def Sh.law23_sameMark_j2 (x0 : QMark) (x1 : QMark) : Option Bool :=
  (Fx.seq (Fx.loop (fun v1222 => Sh.law23_sameMark_l5 x0 x1 v1222) 0) fun _ => Sh.law23_sameMark_j4 x0 x1)
noncomputable def Sh.law23_sameMark_j1 (x0 : QMark) (x1 : QMark) (v997 : Bool) : Option Bool :=
  (bif v997 then (some false) else (Fx.seq (Fx.loop (fun v1108 => Sh.law23_sameMark_l3 x0 x1 v1108) 0) fun _ => Sh.law23_sameMark_j2 x0 x1))
noncomputable def Sh.law23_sameMark (x0 : QMark) (x1 : QMark) : Option Bool :=
  (Fx.seq (bif (!decide (x0.at_ = x1.at_)) then (some (Sum.inl true)) else (bif (!decide (x0.next = x1.next)) then (some (Sum.inl true)) else (bif (!(decide (x0.done = x1.done))) then (some (Sum.inl true)) else (bif (!decide ((x0.regs.length : Int) = (x1.regs.length : Int))) then (some (Sum.inl true)) else (bif (!decide ((x0.slots.length : Int) = (x1.slots.length : Int))) then (some (Sum.inl true)) else (bif (!decide ((x0.pieces.length : Int) = (x1.pieces.length : Int))) then (some (Sum.inl true)) else ((Sh.law00_SameInts x0.sent x1.sent).bind fun y1005 => (some (Sum.inl (!y1005)))))))))) fun v997 => Sh.law23_sameMark_j1 x0 x1 v997)
noncomputable def Sh.law23_copyState (x0 : QState) : Option QState :=
  ((Sh.law00_CopyBytes x0.ctx).bind fun y38 => ((Sh.law00_CopyRows x0.tables).bind fun y43 => ((Sh.law00_CopyInts x0.sent).bind fun y51 => (some (QState.mk x0.regs x0.stack y38 y43 y51 x0.at_ x0.steps x0.done)))))
end Go.Proofs
end
