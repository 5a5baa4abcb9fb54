/- Ground for this claim: The call of TraceLasts returns true, and what is read reads as before. Condition: what is read is of bulk at most 1048576. -/
import Derived.Laws.MakeOwn
import Derived.Test.YtmgnkohlfbjjnaaGreatRTl4
section
namespace Go.Fx
open Go Go.Fw
set_option linter.unusedVariables false
set_option linter.unusedSimpArgs false
def mk {X : Type} (bytes : Nat) (z : X) (n : Int) : Option (List X) := if 0 ≤ n ∧ (bytes : Int) * n ≤ 281474976710656 ∧ n ≤ 4611686018427387904 then some (List.replicate n.toNat z) else none
section
variable {P : Program} {n : Nat} {F : List (Nat × Value)} {a : Act} {dd : List Deferred} {w : World} {o : Oper} {J : Value → World → Prop}
end
end Go.Fx
end
section
namespace Go.Fx
open Go Go.Fw Go.Proofs
set_option linter.unusedVariables false
set_option linter.unusedSimpArgs false
section
variable {X : Type}
noncomputable def rm (l : List X) (i j : Int) (sp : List X) : Option (List X) := open Classical in if i = 0 ∧ 0 ≤ j ∧ l = l.take j.toNat ++ sp ∧ sp.length = 2 then some (l.take j.toNat) else none
theorem rm_some {l y sp : List X} {i j : Int} (h : rm l i j sp = some y) : i = 0 ∧ j = (y.length : Int) ∧ l = y ++ sp ∧ sp.length = 2 := by
  unfold rm at h
  split at h
  · rename_i k
    obtain ⟨k1, k2, k3, k4⟩ := k
    cases h
    have hl := congrArg List.length k3
    simp at hl
    exact ⟨k1, by simp; omega, k3, k4⟩
  · cases h
theorem rm_ok {y sp : List X} (h : sp.length = 2) : rm (y ++ sp) 0 (y.length : Int) sp = some y := by
  unfold rm
  rw [if_pos ⟨rfl, by omega, by simp, h⟩]; simp
theorem rm_slc {l y sp : List X} {i j : Int} (h : rm l i j sp = some y) : Fx.slc l i j = some y := by
  obtain ⟨rfl, rfl, rfl, h2⟩ := rm_some h
  unfold Fx.slc
  rw [if_pos (by simp; omega)]; simp
end
section
variable {X : Type} [Enc X]
def stretch (s : SV) : SV := ⟨s.a, s.len + 2, s.cap⟩
structure RmOf (w : World) (s : SV) (l sp : List X) : Prop where
  full : SliceOf 0 w (stretch s) (l ++ sp)
  two : sp.length = 2
theorem RmOf.sl {w : World} {s : SV} {l sp : List X} (h : RmOf w s l sp) : SliceOf 0 w s l := by
  obtain ⟨h, h2⟩ := h
  have h1 := h.len
  have h3 := h.room
  have h4 := h.cells
  simp only [stretch, List.length_append] at h1 h3 h4
  refine ⟨by omega, by omega, ?_⟩
  obtain ⟨sa, sl, sc⟩ := s
  cases sa with
  | none => have := congrArg List.length h4.1; simp at this; omega
  | some ad =>
    obtain ⟨k1, k2, k3⟩ := h4
    refine ⟨.inr (k1.resolve_left fun k => by rw [List.append_eq_nil_iff] at k; rw [k.2] at h2; cases h2), k2, fun j v hj => k3 j v ?_⟩
    rw [encs_append, List.getElem?_append_left (List.getElem?_eq_some_iff.1 hj).1]
    exact hj
def LRm (L : World → Prop) (s : SV) (l sp : List X) : Prop := ∀ w, L w → RmOf w s l sp
theorem LRm.mono {L L' : World → Prop} {s : SV} {l sp : List X} (h : LRm L s l sp) (k : ∀ w, L' w → L w) : LRm L' s l sp := fun w hM => h w (k w hM)
theorem LRm.toIn {L : World → Prop} {s : SV} {l sp : List X} (h : LRm L s l sp) : LIn L s l := fun w hM => (h w hM).sl
theorem LRm.full {L : World → Prop} {s : SV} {l sp : List X} (h : LRm L s l sp) : LIn L (stretch s) (l ++ sp) := fun w hM => (h w hM).full
theorem cut_stretch {s : SV} {n sz : Nat} (h : s.len = n + 2) : stretch (s.cut 0 n sz) = s := by
  obtain ⟨sa, sl, sc⟩ := s
  simp only at h
  subst h
  simp only [SV.cut, stretch, Nat.sub_zero, Nat.zero_mul]
  congr 1
  split
  · rfl
  · cases sa <;> simp [Addr.add]
theorem rm_row {s : SV} {e : Nat} {l y sp : List X} {i j : Int} {sz : Nat} (h : rm l i j sp = some y) (hsz : Enc.sz X = sz) : LRm (rowL 0 s e l).holds' (s.cut i.toNat j.toNat sz) y sp := by
  obtain ⟨rfl, rfl, rfl, h2⟩ := rm_some h
  intro w hw
  have hs : SliceOf 0 w s (y ++ sp) := row_in hw
  have hl := hs.len
  simp only [List.length_append] at hl
  refine ⟨?_, h2⟩
  rw [Int.toNat_zero, Int.toNat_natCast, cut_stretch (by omega)]
  exact hs
theorem rm_rowD {Y : Type} {s : SV} {e : Nat} {hs hsp : List X} {xn l spl y sp : List Y} {i j : Int} {sz : Nat} (hl : hs.length = l.length) (ha : xn = l ++ spl) (h2 : spl.length = 2) (h3 : hsp.length = 2) (h : rm xn i j sp = some y) (hsz : Enc.sz X = sz) :
    y = l ∧ Fx.slc (hs ++ hsp) i j = some hs ∧ LRm (rowL 0 s e (hs ++ hsp)).holds' (s.cut i.toNat j.toNat sz) hs hsp := by
  obtain ⟨rfl, rfl, h5, h6⟩ := rm_some h
  rw [ha] at h5
  have hy : y = l := by
    have := congrArg List.length h5
    simp at this
    exact (List.append_inj h5 (by omega)).1.symm
  subst hy
  have hr : rm (hs ++ hsp) 0 (y.length : Int) hsp = some hs := by rw [← hl]; exact rm_ok h3
  exact ⟨rfl, rm_slc hr, rm_row hr hsz⟩
end
def spU8 : List UInt8 := [161, 162]
def spInt : List Int := [-7, -8]
def spTurn : List LTurn := [⟨-7, LVal.zero, LVal.zero⟩, ⟨-8, LVal.zero, LVal.zero⟩]
def spCell : List LCell := [⟨-7, LSlot.zero, LSlot.zero⟩, ⟨-8, LSlot.zero, LSlot.zero⟩]
def spPiece : List QPiece := [⟨0, -7, [], []⟩, ⟨0, -8, [], []⟩]
def hspPiece : List RPiece := [⟨0, -7, SV.nil, SV.nil⟩, ⟨0, -8, SV.nil, SV.nil⟩]
def spMark : List QMark := [⟨-7, 0, false, [], [], [], []⟩, ⟨-8, 0, false, [], [], [], []⟩]
def hspMark : List RMark := [⟨-7, 0, false, SV.nil, SV.nil, SV.nil, SV.nil⟩, ⟨-8, 0, false, SV.nil, SV.nil, SV.nil, SV.nil⟩]
def BytesRm (L : World → Prop) (s : SV) (l : List UInt8) : Prop := LRm L s l spU8
theorem BytesRm.mono {L L' : World → Prop} {s : SV} {l : List UInt8} (h : BytesRm L s l) (k : ∀ w, L' w → L w) : BytesRm L' s l := LRm.mono h k
theorem BytesRm.toIn {L : World → Prop} {s : SV} {l : List UInt8} (h : BytesRm L s l) : LIn L s l := LRm.toIn h
def QPieceRm (L : World → Prop) (x : RPiece) (p : QPiece) : Prop := ∃ (s_old : SV) (s_new : SV), x = (RPiece.mk p.table p.from_ s_old s_new) ∧ LRm L s_old p.old spU8 ∧ LRm L s_new p.new spU8
theorem QPieceRm.mono {L L' : World → Prop} {x : RPiece} {p : QPiece} (h : QPieceRm L x p) (k : ∀ w, L' w → L w) : QPieceRm L' x p := by
  obtain ⟨s_old, s_new, e, h0, h1⟩ := h
  exact ⟨s_old, s_new, e, h0.mono k, h1.mono k⟩
theorem QPieceRm.toIn {L : World → Prop} {x : RPiece} {p : QPiece} (h : QPieceRm L x p) : QPieceIn L x p := by
  obtain ⟨s_old, s_new, e, h0, h1⟩ := h
  exact ⟨s_old, s_new, e, h0.toIn, h1.toIn⟩
def QMarkRm (L : World → Prop) (x : RMark) (p : QMark) : Prop := ∃ (s_regs : SV) (s_slots : SV) (s_pieces : SV) (h_pieces : List RPiece) (s_sent : SV), x = (RMark.mk p.at_ p.next p.done s_regs s_slots s_pieces s_sent) ∧ LRm L s_regs p.regs spTurn ∧ LRm L s_slots p.slots spCell ∧ LRm L s_pieces h_pieces hspPiece ∧ Each (QPieceRm L) h_pieces p.pieces ∧ LRm L s_sent p.sent spInt
theorem QMarkRm.mono {L L' : World → Prop} {x : RMark} {p : QMark} (h : QMarkRm L x p) (k : ∀ w, L' w → L w) : QMarkRm L' x p := by
  obtain ⟨s_regs, s_slots, s_pieces, h_pieces, s_sent, e, h0, h1, h2, h3, h4⟩ := h
  exact ⟨s_regs, s_slots, s_pieces, h_pieces, s_sent, e, h0.mono k, h1.mono k, h2.mono k, h3.mono fun _ _ q => q.mono k, h4.mono k⟩
theorem QMarkRm.toIn {L : World → Prop} {x : RMark} {p : QMark} (h : QMarkRm L x p) : QMarkIn L x p := by
  obtain ⟨s_regs, s_slots, s_pieces, h_pieces, s_sent, e, h0, h1, h2, h3, h4⟩ := h
  exact ⟨s_regs, s_slots, s_pieces, h_pieces, s_sent, e, h0.toIn, h1.toIn, h2.toIn, h3.mono fun _ _ q => q.toIn, h4.toIn⟩
theorem piece_full {L : World → Prop} {hs : List RPiece} {l : List QPiece} (h : Each (QPieceRm L) hs l) : Each (QPieceIn L) (hs ++ hspPiece) (l ++ spPiece) :=
  (h.mono fun _ _ q => q.toIn).append ((Each.nil.snoc (R := QPieceIn L) (x := RPiece.mk 0 (-7) SV.nil SV.nil) (y := QPiece.mk 0 (-7) [] []) ⟨SV.nil, SV.nil, rfl, LIn.nil, LIn.nil⟩).snoc (x := RPiece.mk 0 (-8) SV.nil SV.nil) (y := QPiece.mk 0 (-8) [] []) ⟨SV.nil, SV.nil, rfl, LIn.nil, LIn.nil⟩)
theorem mark_full {L : World → Prop} {hs : List RMark} {l : List QMark} (h : Each (QMarkRm L) hs l) : Each (QMarkIn L) (hs ++ hspMark) (l ++ spMark) :=
  (h.mono fun _ _ q => q.toIn).append ((Each.nil.snoc (R := QMarkIn L) (x := RMark.mk (-7) 0 false SV.nil SV.nil SV.nil SV.nil) (y := QMark.mk (-7) 0 false [] [] [] []) ⟨SV.nil, SV.nil, SV.nil, [], SV.nil, rfl, LIn.nil, LIn.nil, LIn.nil, Each.nil, LIn.nil⟩).snoc (x := RMark.mk (-8) 0 false SV.nil SV.nil SV.nil SV.nil) (y := QMark.mk (-8) 0 false [] [] [] []) ⟨SV.nil, SV.nil, SV.nil, [], SV.nil, rfl, LIn.nil, LIn.nil, LIn.nil, Each.nil, LIn.nil⟩)
section
variable {P : Program} {n : Nat} {F : List (Nat × Value)} {a : Act} {dd : List Deferred} {w : World} {o : Oper}
theorem r_cutRm {X : Type} [Enc X] {t e : TypeId} {x y : Operand} {s : SV} {l sp : List X} {w1 : World} {ti : TypeInfo} {k : IntKind} {z : Int} (hs : RmOf w1 s l sp) (ht : P.underlying t = some (.slice e)) (hi : P.info? e = some ti) (hF : Fr n F a dd) (ho : o.op = .slice t x none (some y) none)
    (hx : ev F x = some s.v) (hy : ev F y = some (.int k z)) (hz : decide (z = (l.length : Int) + 2) = true) : (execOp a.eval o).run P w = .ok (.value (stretch s).v) w := by
  have hz := of_decide_eq_true hz
  have h1 := hs.sl.len
  have h2 := hs.full.room
  obtain ⟨sa, sl, sc⟩ := s
  simp only [stretch] at h1 h2
  subst hz
  have h3 : ((l.length : Int) + 2) = ((sl + 2 : Nat) : Int) := by omega
  rw [h3] at hy
  have eb : ∀ (v : Value) (k : IntKind) (q c : Nat) (bc : BoundsCode), v = .int k (q : Nat) → q ≤ c → (Instr.sliceBound v c bc).run P w = .ok q w := by
    intro v k q c bc hv hq
    subst hv
    have hq' : (0 : Int) ≤ (q : Int) ∧ (q : Int) ≤ (c : Int) := by omega
    simp only [Instr.sliceBound, asIntOf, Sem.run_bind, Sem.run_pure, Result.andThen_ok, if_pos hq', Int.toNat_natCast]
  have e2 : (Instr.sliceBounds true sl sc none (some (a.eval y)) none).run P w = .ok (0, sl + 2, sc) w := by
    simp only [Instr.sliceBounds, hF.eval hy, eb _ k (sl + 2) sc _ rfl h2, Sem.run_bind, Sem.run_pure, Result.andThen_ok]
  have e3 : (Instr.sliceAt t (.slice sa sl sc) none (some (a.eval y)) none).run P w = .ok (SV.v ⟨sa, sl + 2, sc⟩) w := by
    have hc : ¬ sc = 0 := by omega
    simp [Instr.sliceAt, Instr.slice, run_underlying ht, e2, sizeOf, typeInfo, hi, SV.v, hc]
    cases sa <;> simp [hc, Addr.add]
  simp only [execOp, ho, hF.eval hx, SV.v, Option.map_none, Option.map_some, Sem.run_bind, Result.andThen_ok, Sem.run_pure, stretch] at e3 ⊢
  simp only [e3, Result.andThen_ok]
end
end Go.Fx
end
section
namespace Go.Proofs
open Go Go.Fw Go.Fx
set_option maxRecDepth 10000
set_option linter.unusedVariables false
set_option linter.unusedSimpArgs false
noncomputable def Sh.rm_roomy (x0 : List UInt8) : Option (List UInt8) :=
  ((Sh.law00_CopyBytes x0).bind fun y16 => ((Fx.app 1 y16 [161, 162]).bind fun x20 => ((Fx.rm x20 0 (x0.length : Int) spU8).bind fun x21 => (some x21))))
noncomputable def Sh.rm_lentMark_l5 (x0 : QMark) (v1628 : QMark) (v1646 : Int) : Option (((QMark × Int) ⊕ (QMark ⊕ QMark))) :=
  (bif (decide (v1646 < (x0.pieces.length : Int))) then ((Fx.get x0.pieces v1646).bind fun x1682 => ((Sh.rm_roomy x1682.old).bind fun y1689 => ((Sh.rm_roomy x1682.new).bind fun y1696 => ((Fx.app 64 v1628.pieces [(QPiece.mk x1682.table x1682.from_ y1689 y1696)]).bind fun x1703 => (some (Sum.inl ((QMark.mk v1628.at_ v1628.next v1628.done v1628.regs v1628.slots x1703 v1628.sent), (IntKind.i64.wrap (v1646 + 1))))))))) else (some (Sum.inr (Sum.inl v1628))))
noncomputable def Sh.rm_lentMark_j4 (x0 : QMark) (v1461 : QMark) : Option QMark :=
  ((Fx.app 64 v1461.pieces [(QPiece.mk 0 (-7) [] []), (QPiece.mk 0 (-8) [] [])]).bind fun x1721 => ((Fx.rm x1721 0 (x0.pieces.length : Int) spPiece).bind fun x1722 => (some (QMark.mk v1461.at_ v1461.next v1461.done v1461.regs v1461.slots x1722 v1461.sent))))
noncomputable def Sh.rm_lentMark_j3 (x0 : QMark) (v968 : QMark) : Option QMark :=
  (Fx.seq (Fx.loop (fun (v1628, v1646) => Sh.rm_lentMark_l5 x0 v1628 v1646) ((QMark.mk v968.at_ v968.next v968.done v968.regs v968.slots [] v968.sent), 0)) fun v1461 => Sh.rm_lentMark_j4 x0 v1461)
noncomputable def Sh.rm_lentMark_j2 (x0 : QMark) (v928 : QMark) : Option QMark :=
  (Fx.seq ((Sh.law00_CopyInts x0.sent).bind fun y986 => ((Fx.app 8 y986 [(-7), (-8)]).bind fun x990 => ((Fx.rm x990 0 (x0.sent.length : Int) spInt).bind fun x991 => (some (Sum.inl (QMark.mk v928.at_ v928.next v928.done v928.regs v928.slots v928.pieces x991)))))) fun v968 => Sh.rm_lentMark_j3 x0 v968)
noncomputable def Sh.rm_lentMark_j1 (x0 : QMark) (v894 : QMark) : Option QMark :=
  (Fx.seq ((Fx.app 104 [] x0.slots).bind fun x944 => ((Fx.app 104 x944 [(LCell.mk (-7) LSlot.zero LSlot.zero), (LCell.mk (-8) LSlot.zero LSlot.zero)]).bind fun x946 => ((Fx.rm x946 0 (x0.slots.length : Int) spCell).bind fun x947 => (some (Sum.inl (QMark.mk v894.at_ v894.next v894.done v894.regs x947 v894.pieces v894.sent)))))) fun v928 => Sh.rm_lentMark_j2 x0 v928)
noncomputable def Sh.rm_lentMark (x0 : QMark) : Option QMark :=
  (Fx.seq ((Fx.app 72 [] x0.regs).bind fun x908 => ((Fx.app 72 x908 [(LTurn.mk (-7) LVal.zero LVal.zero), (LTurn.mk (-8) LVal.zero LVal.zero)]).bind fun x910 => ((Fx.rm x910 0 (x0.regs.length : Int) spTurn).bind fun x911 => (some (Sum.inl (QMark.mk x0.at_ x0.next x0.done x911 x0.slots x0.pieces x0.sent)))))) fun v894 => Sh.rm_lentMark_j1 x0 v894)
noncomputable def Sh.rm_lent_l2 (x0 : QRecord) (v1763 : QInput) (v1773 : Int) : Option (((QInput × Int) ⊕ (QInput ⊕ QRecord))) :=
  (bif (decide (v1773 < (x0.in_.tables.length : Int))) then ((Fx.get x0.in_.tables v1773).bind fun x1793 => ((Sh.rm_roomy x1793).bind fun y1795 => ((Fx.app 24 v1763.tables [y1795]).bind fun x1801 => (some (Sum.inl ((QInput.mk v1763.ctx x1801), (IntKind.i64.wrap (v1773 + 1)))))))) else (some (Sum.inr (Sum.inl v1763))))
noncomputable def Sh.rm_lent_l4 (x0 : QRecord) (v2694 : QRecord) (v2709 : Int) : Option (((QRecord × Int) ⊕ (QRecord ⊕ QRecord))) :=
  (bif (decide (v2709 < (x0.marks.length : Int))) then ((Fx.get x0.marks v2709).bind fun x2762 => ((Sh.rm_lentMark x2762).bind fun y2774 => ((Fx.app 120 v2694.marks [y2774]).bind fun x2794 => (some (Sum.inl ((QRecord.mk v2694.in_ x2794 v2694.end_), (IntKind.i64.wrap (v2709 + 1)))))))) else (some (Sum.inr (Sum.inl v2694))))
noncomputable def Sh.rm_lent_j3 (x0 : QRecord) (v2465 : QRecord) : Option QRecord :=
  ((Fx.app 120 v2465.marks [(QMark.mk (-7) 0 false [] [] [] []), (QMark.mk (-8) 0 false [] [] [] [])]).bind fun x2818 => ((Fx.rm x2818 0 (x0.marks.length : Int) spMark).bind fun x2819 => (some (QRecord.mk v2465.in_ x2819 v2465.end_))))
noncomputable def Sh.rm_lent_j1 (x0 : QRecord) (v1676 : QInput) : Option QRecord :=
  (Fx.seq (Fx.loop (fun (v2694, v2709) => Sh.rm_lent_l4 x0 v2694 v2709) ((QRecord.mk v1676 [] x0.end_), 0)) fun v2465 => Sh.rm_lent_j3 x0 v2465)
noncomputable def Sh.rm_lent (x0 : QRecord) : Option QRecord :=
  ((Sh.rm_roomy x0.in_.ctx).bind fun y1428 => (Fx.seq (Fx.loop (fun (v1763, v1773) => Sh.rm_lent_l2 x0 v1763 v1773) ((QInput.mk y1428 []), 0)) fun v1676 => Sh.rm_lent_j1 x0 v1676))
noncomputable def Sh.rm_kept_j1 (v21 : Bool) : Option Bool :=
  (some v21)
noncomputable def Sh.rm_kept (x0 : List UInt8) : Option Bool :=
  (Fx.must (decide ((IntKind.i64.wrap ((x0.length : Int) + 2)) = (x0.length : Int) + 2)) (Fx.seq ((Fx.get (x0 ++ spU8) (x0.length : Int)).bind fun x22 => (bif (decide ((x22.toNat : Int) = 161)) then ((Fx.get (x0 ++ spU8) (IntKind.i64.wrap ((x0.length : Int) + 1))).bind fun x24 => (some (Sum.inl (decide ((x24.toNat : Int) = 162))))) else (some (Sum.inl false)))) fun v21 => Sh.rm_kept_j1 v21))
noncomputable def Sh.rm_backMark_j5 (v1988 : Int) (v2068 : Bool) : Option ((Int ⊕ (Unit ⊕ Bool))) :=
  (bif v2068 then (some (Sum.inr (Sum.inr false))) else (some (Sum.inl (IntKind.i64.wrap (v1988 + 1)))))
noncomputable def Sh.rm_backMark_l4 (x0 : QMark) (v1988 : Int) : Option ((Int ⊕ (Unit ⊕ Bool))) :=
  (bif (decide (v1988 < (x0.pieces.length : Int))) then (Fx.seq ((Fx.get x0.pieces v1988).bind fun x2069 => ((Sh.rm_kept x2069.old).bind fun y2075 => (bif (!y2075) then (some (Sum.inl true)) else ((Fx.get x0.pieces v1988).bind fun x2077 => ((Sh.rm_kept x2077.new).bind fun y2083 => (some (Sum.inl (!y2083)))))))) fun v2068 => Sh.rm_backMark_j5 v1988 v2068) else (some (Sum.inr (Sum.inl ()))))
noncomputable def Sh.rm_backMark_j3 : Option Bool :=
  (some true)
noncomputable def Sh.rm_backMark_j2 (x0 : QMark) (v1198 : Bool) : Option Bool :=
  (bif v1198 then (some false) else (Fx.seq (Fx.loop (fun v1988 => Sh.rm_backMark_l4 x0 v1988) 0) fun _ => Sh.rm_backMark_j3))
noncomputable def Sh.rm_backMark_j1 (x0 : QMark) (v1109 : Bool) : Option Bool :=
  (bif v1109 then (some false) else (Fx.seq ((Fx.get (x0.sent ++ spInt) (x0.sent.length : Int)).bind fun x1199 => (bif (!decide (x1199 = (-7))) then (some (Sum.inl true)) else ((Fx.get (x0.sent ++ spInt) (IntKind.i64.wrap ((x0.sent.length : Int) + 1))).bind fun x1201 => (bif (!decide (x1201 = (-8))) then (some (Sum.inl true)) else ((Fx.get (x0.pieces ++ spPiece) (x0.pieces.length : Int)).bind fun x1203 => (bif (!decide (x1203.from_ = (-7))) then (some (Sum.inl true)) else ((Fx.get (x0.pieces ++ spPiece) (IntKind.i64.wrap ((x0.pieces.length : Int) + 1))).bind fun x1209 => (some (Sum.inl (!decide (x1209.from_ = (-8)))))))))))) fun v1198 => Sh.rm_backMark_j2 x0 v1198))
noncomputable def Sh.rm_backMark (x0 : QMark) (x1 : QMark) : Option Bool :=
  (Fx.must (decide ((IntKind.i64.wrap ((x0.regs.length : Int) + 2)) = (x0.regs.length : Int) + 2)) (Fx.must (decide ((IntKind.i64.wrap ((x0.slots.length : Int) + 2)) = (x0.slots.length : Int) + 2)) (Fx.must (decide ((IntKind.i64.wrap ((x0.sent.length : Int) + 2)) = (x0.sent.length : Int) + 2)) (Fx.must (decide ((IntKind.i64.wrap ((x0.pieces.length : Int) + 2)) = (x0.pieces.length : Int) + 2)) (Fx.seq ((Sh.law23_sameMark x0 x1).bind fun y1111 => (bif (!y1111) then (some (Sum.inl true)) else ((Fx.get (x0.regs ++ spTurn) (x0.regs.length : Int)).bind fun x1113 => (bif (!decide (x1113.reg = (-7))) then (some (Sum.inl true)) else ((Fx.get (x0.regs ++ spTurn) (IntKind.i64.wrap ((x0.regs.length : Int) + 1))).bind fun x1115 => (bif (!decide (x1115.reg = (-8))) then (some (Sum.inl true)) else ((Fx.get (x0.slots ++ spCell) (x0.slots.length : Int)).bind fun x1117 => (bif (!decide (x1117.slot = (-7))) then (some (Sum.inl true)) else ((Fx.get (x0.slots ++ spCell) (IntKind.i64.wrap ((x0.slots.length : Int) + 1))).bind fun x1119 => (some (Sum.inl (!decide (x1119.slot = (-8)))))))))))))) fun v1109 => Sh.rm_backMark_j1 x0 v1109)))))
noncomputable def Sh.rm_back_l3 (x0 : QRecord) (v1466 : Int) : Option ((Int ⊕ (Unit ⊕ Bool))) :=
  (bif (decide (v1466 < (x0.in_.tables.length : Int))) then ((Fx.get x0.in_.tables v1466).bind fun x1473 => ((Sh.rm_kept x1473).bind fun y1475 => (bif (!y1475) then (some (Sum.inr (Sum.inr false))) else (some (Sum.inl (IntKind.i64.wrap (v1466 + 1))))))) else (some (Sum.inr (Sum.inl ()))))
noncomputable def Sh.rm_back_l5 (x0 : QRecord) (x1 : QRecord) (v2282 : Int) : Option ((Int ⊕ (Unit ⊕ Bool))) :=
  (bif (decide (v2282 < (x0.marks.length : Int))) then ((Fx.get x0.marks v2282).bind fun x2358 => ((Fx.get x1.marks v2282).bind fun x2369 => ((Sh.rm_backMark x2358 x2369).bind fun y2381 => (bif (!y2381) then (some (Sum.inr (Sum.inr false))) else (some (Sum.inl (IntKind.i64.wrap (v2282 + 1)))))))) else (some (Sum.inr (Sum.inl ()))))
noncomputable def Sh.rm_back_j4 : Option Bool :=
  (some true)
noncomputable def Sh.rm_back_j2 (x0 : QRecord) (x1 : QRecord) : Option Bool :=
  (Fx.seq (Fx.loop (fun v2282 => Sh.rm_back_l5 x0 x1 v2282) 0) fun _ => Sh.rm_back_j4)
noncomputable def Sh.rm_back_j1 (x0 : QRecord) (x1 : QRecord) (v1350 : Bool) : Option Bool :=
  (bif v1350 then (some false) else (Fx.seq (Fx.loop (fun v1466 => Sh.rm_back_l3 x0 v1466) 0) fun _ => Sh.rm_back_j2 x0 x1))
noncomputable def Sh.rm_back (x0 : QRecord) (x1 : QRecord) : Option Bool :=
  (Fx.must (decide ((IntKind.i64.wrap ((x0.marks.length : Int) + 2)) = (x0.marks.length : Int) + 2)) (Fx.seq ((Sh.law23_sameRecord x0 x1).bind fun y1352 => (bif (!y1352) then (some (Sum.inl true)) else ((Fx.get (x0.marks ++ spMark) (x0.marks.length : Int)).bind fun x1354 => (bif (!decide (x1354.at_ = (-7))) then (some (Sum.inl true)) else ((Fx.get (x0.marks ++ spMark) (IntKind.i64.wrap ((x0.marks.length : Int) + 1))).bind fun x1366 => (bif (!decide (x1366.at_ = (-8))) then (some (Sum.inl true)) else ((Sh.rm_kept x0.in_.ctx).bind fun y1379 => (some (Sum.inl (!y1379)))))))))) fun v1350 => Sh.rm_back_j1 x0 x1 v1350))
end Go.Proofs
end
section
namespace Go.Proofs
open Go Go.Fw Go.Fx
set_option maxRecDepth 10000
set_option linter.unusedVariables false
set_option linter.unusedSimpArgs false
noncomputable def Sh.ref23_has_l2 (x0 : QMark) (x2 : Int) (v4160 : Int) : Option ((Int ⊕ (Unit ⊕ Bool))) :=
  (bif (decide (v4160 < (x0.regs.length : Int))) then ((Fx.get x0.regs v4160).bind fun x4165 => (bif (decide (x4165.reg = x2)) then (some (Sum.inr (Sum.inr true))) else (some (Sum.inl (IntKind.i64.wrap (v4160 + 1)))))) else (some (Sum.inr (Sum.inl ()))))
noncomputable def Sh.ref23_has_l3 (x0 : QMark) (x2 : Int) (v4181 : Int) : Option ((Int ⊕ (Unit ⊕ Bool))) :=
  (bif (decide (v4181 < (x0.slots.length : Int))) then ((Fx.get x0.slots v4181).bind fun x4186 => (bif (decide (x4186.slot = x2)) then (some (Sum.inr (Sum.inr true))) else (some (Sum.inl (IntKind.i64.wrap (v4181 + 1)))))) else (some (Sum.inr (Sum.inl ()))))
noncomputable def Sh.ref23_has_j8 (v4944 : Int) (v4967 : Bool) : Option ((Int ⊕ (Unit ⊕ (Int ⊕ (Unit ⊕ Bool))))) :=
  (bif v4967 then (some (Sum.inr (Sum.inr (Sum.inr (Sum.inr true))))) else (some (Sum.inl (IntKind.i64.wrap (v4944 + 1)))))
noncomputable def Sh.ref23_has_j7 (x2 : Int) (x3 : Int) (x4885 : QPiece) (v4944 : Int) (v4952 : Bool) : Option ((Int ⊕ (Unit ⊕ (Int ⊕ (Unit ⊕ Bool))))) :=
  (bif v4952 then (Fx.seq (bif (decide (x4885.table = x3)) then (bif (decide (x4885.from_ ≤ x2)) then (some (Sum.inl (decide ((IntKind.i64.wrap (x2 - x4885.from_)) = v4944)))) else (some (Sum.inl false))) else (some (Sum.inl false))) fun v4967 => Sh.ref23_has_j8 v4944 v4967) else (some (Sum.inr (Sum.inl ()))))
noncomputable def Sh.ref23_has_l6 (x2 : Int) (x3 : Int) (x4885 : QPiece) (v4944 : Int) : Option ((Int ⊕ (Unit ⊕ (Int ⊕ (Unit ⊕ Bool))))) :=
  (Fx.seq (bif (decide (v4944 < (x4885.old.length : Int))) then (some (Sum.inl true)) else (some (Sum.inl (decide (v4944 < (x4885.new.length : Int)))))) fun v4952 => Sh.ref23_has_j7 x2 x3 x4885 v4944 v4952)
noncomputable def Sh.ref23_has_j5 (v4710 : Int) : Option ((Int ⊕ (Unit ⊕ Bool))) :=
  (some (Sum.inl (IntKind.i64.wrap (v4710 + 1))))
noncomputable def Sh.ref23_has_l4 (x0 : QMark) (x2 : Int) (x3 : Int) (v4710 : Int) : Option ((Int ⊕ (Unit ⊕ Bool))) :=
  (bif (decide (v4710 < (x0.pieces.length : Int))) then (Fx.seq ((Fx.get x0.pieces v4710).bind fun x4885 => (Fx.loop (fun v4944 => Sh.ref23_has_l6 x2 x3 x4885 v4944) 0)) fun _ => Sh.ref23_has_j5 v4710) else (some (Sum.inr (Sum.inl ()))))
noncomputable def Sh.ref23_has_j1 : Option Bool :=
  (some false)
noncomputable def Sh.ref23_has (x0 : QMark) (x1 : Int) (x2 : Int) (x3 : Int) : Option Bool :=
  (Fx.seq (bif (decide (x1 = 0)) then (Fx.loop (fun v4160 => Sh.ref23_has_l2 x0 x2 v4160) 0) else (bif (decide (x1 = 1)) then (Fx.loop (fun v4181 => Sh.ref23_has_l3 x0 x2 v4181) 0) else (bif (decide (x1 = 2)) then (Fx.loop (fun v4710 => Sh.ref23_has_l4 x0 x2 x3 v4710) 0) else (bif (decide (x1 = 3)) then (some (Sum.inr (decide (x0.at_ = x2)))) else (bif (decide (x1 = 4)) then (some (Sum.inr (decide (0 < (x0.sent.length : Int))))) else (some (Sum.inl ()))))))) fun _ => Sh.ref23_has_j1)
noncomputable def Sh.ref23_Last_j4 (v937 : Int) (v976 : Int) : Option (((Int × Int) ⊕ (Int ⊕ Int))) :=
  (some (Sum.inl (v976, (IntKind.i64.wrap (v937 + 1)))))
noncomputable def Sh.ref23_Last_j3 (x0 : QRecord) (x2 : Int) (x3 : Int) (x4 : Int) (v936 : Int) (v937 : Int) (v945 : Bool) : Option (((Int × Int) ⊕ (Int ⊕ Int))) :=
  (bif v945 then (Fx.seq ((Fx.get x0.marks v937).bind fun x977 => ((Sh.ref23_has x977 x2 x3 x4).bind fun y989 => (bif y989 then (some (Sum.inl v937)) else (some (Sum.inl v936))))) fun v976 => Sh.ref23_Last_j4 v937 v976) else (some (Sum.inr (Sum.inl v936))))
noncomputable def Sh.ref23_Last_l2 (x0 : QRecord) (x1 : Int) (x2 : Int) (x3 : Int) (x4 : Int) (v936 : Int) (v937 : Int) : Option (((Int × Int) ⊕ (Int ⊕ Int))) :=
  (Fx.seq (bif (decide (v937 < (x0.marks.length : Int))) then (some (Sum.inl (decide (v937 < x1)))) else (some (Sum.inl false))) fun v945 => Sh.ref23_Last_j3 x0 x2 x3 x4 v936 v937 v945)
noncomputable def Sh.ref23_Last_j1 (v827 : Int) : Option Int :=
  (some v827)
noncomputable def Sh.ref23_Last (x0 : QRecord) (x1 : Int) (x2 : Int) (x3 : Int) (x4 : Int) : Option Int :=
  (Fx.seq (Fx.loop (fun (v936, v937) => Sh.ref23_Last_l2 x0 x1 x2 x3 x4 v936 v937) ((-1), 0)) fun v827 => Sh.ref23_Last_j1 v827)
end Go.Proofs
end
section
namespace Go.Proofs
open Go Go.Fw Go.Fx
set_option maxRecDepth 10000
set_option linter.unusedVariables false
set_option linter.unusedSimpArgs false
noncomputable def Sh.trace_Last_l2 (x0 : QRecord) (x2 : Int) (x3 : Int) (x4 : Int) (v532 : Int) : Option ((Int ⊕ (Unit ⊕ Int))) :=
  (bif (decide (0 ≤ v532)) then ((Fx.get x0.marks v532).bind fun x549 => ((Sh.trace_does x549 x2 x3 x4).bind fun y561 => (bif y561 then (some (Sum.inr (Sum.inr v532))) else (some (Sum.inl (IntKind.i64.wrap (v532 - 1))))))) else (some (Sum.inr (Sum.inl ()))))
noncomputable def Sh.trace_Last_j1 : Option Int :=
  (some (-1))
noncomputable def Sh.trace_Last (x0 : QRecord) (x1 : Int) (x2 : Int) (x3 : Int) (x4 : Int) : Option Int :=
  (Fx.seq (Fx.loop (fun v532 => Sh.trace_Last_l2 x0 x2 x3 x4 v532) (IntKind.i64.wrap ((if (x0.marks.length : Int) < (if x1 < 0 then 0 else x1) then (x0.marks.length : Int) else (if x1 < 0 then 0 else x1)) - 1))) fun _ => Sh.trace_Last_j1)
end Go.Proofs
end
section
namespace Go.Proofs
open Go Go.Fw Go.Fx
set_option maxRecDepth 10000
set_option linter.unusedVariables false
set_option linter.unusedSimpArgs false
noncomputable def Sh.law23_TraceLasts_j1 (v95 : Bool) : Option Bool :=
  (some v95)
noncomputable def Sh.law23_TraceLasts (x0 : QRecord) (x1 : Int) (x2 : Int) (x3 : Int) (x4 : Int) : Option Bool :=
  ((Sh.law23_known).bind fun y61 => (bif (!y61) then (some false) else ((Sh.rm_lent x0).bind fun y64 => (Fx.seq ((Sh.trace_Last y64 x1 x2 x3 x4).bind fun y97 => ((Sh.ref23_Last x0 x1 x2 x3 x4).bind fun y99 => (bif (decide (y97 = y99)) then ((Sh.rm_back y64 x0).bind fun y102 => (some (Sum.inl y102))) else (some (Sum.inl false))))) fun v95 => Sh.law23_TraceLasts_j1 v95))))
end Go.Proofs
end
section
namespace Go.Sp
open Go Go.Fw Go.Fx
set_option linter.unusedVariables false
set_option linter.unusedSimpArgs false
theorem w64 {x : Int} (h : -9223372036854775808 ≤ x ∧ x ≤ 9223372036854775807) : IntKind.i64.wrap x = x := wrap64_id h
def lows : Nat → Int → List UInt8
  | 0, _ => []
  | n + 1, x => Fw.byteOf x :: lows n (x.fdiv 256)
theorem lows_len (n : Nat) (x : Int) : (lows n x).length = n := by
  induction n generalizing x with
  | zero => rfl
  | succ n ih => simp [lows, ih]
def num : List UInt8 → Nat
  | [] => 0
  | b :: l => b.toNat + 256 * num l
theorem num_lt (l : List UInt8) : num l < 256 ^ l.length := by
  induction l with
  | nil => simp [num]
  | cons b l ih =>
    simp only [num, List.length_cons, Nat.pow_succ]
    have := b.toNat_lt
    omega
theorem num_snoc (l : List UInt8) (b : UInt8) : num (l ++ [b]) = num l + 256 ^ l.length * b.toNat := by
  induction l with
  | nil => simp [num]
  | cons a l ih =>
    simp only [List.cons_append, num, ih, List.length_cons, Nat.pow_succ, Nat.mul_add]
    rw [Nat.mul_comm (256 ^ l.length) 256, Nat.mul_assoc]
    omega
theorem wrap_eq (x : Int) : ∃ k : Int, IntKind.i64.wrap x = x + 18446744073709551616 * k := by
  unfold IntKind.wrap
  simp only [IntKind.signed, IntKind.bits, Bool.true_and, decide_eq_true_eq]
  have h := Int.emod_add_mul_ediv x (2 ^ 64)
  split
  · exact ⟨-(x / 2 ^ 64) - 1, by omega⟩
  · exact ⟨-(x / 2 ^ 64), by omega⟩
theorem ofInt_wrap (x : Int) : BitVec.ofInt 64 (IntKind.i64.wrap x) = BitVec.ofInt 64 x := by
  obtain ⟨k, hk⟩ := wrap_eq x
  rw [hk]
  apply BitVec.eq_of_toInt_eq
  simp only [BitVec.toInt_ofInt]
  rw [show (18446744073709551616 : Int) = ((2 ^ 64 : Nat) : Int) by rfl, Int.add_mul_bmod_self_left]
theorem bor_disj {N b m : Nat} (hN : N < 2 ^ m) (hb : 2 ^ m * b + N < 2 ^ 64) : bor .i64 (IntKind.i64.wrap (N : Nat)) (IntKind.i64.wrap ((2 ^ m * b : Nat) : Int)) = IntKind.i64.wrap ((N + 2 ^ m * b : Nat) : Int) := by
  have e0 : ∀ x y, bor .i64 x y = IntKind.i64.wrap ((BitVec.ofInt 64 x ||| BitVec.ofInt 64 y).toNat : Int) := fun _ _ => rfl
  rw [e0, ofInt_wrap, ofInt_wrap, BitVec.toNat_or, BitVec.ofInt_natCast, BitVec.ofInt_natCast, BitVec.toNat_ofNat, BitVec.toNat_ofNat, Nat.mod_eq_of_lt (by omega), Nat.mod_eq_of_lt (by omega), Nat.or_comm,
    ← Nat.two_pow_add_eq_or_of_lt hN, Nat.add_comm]
end Go.Sp
end
section
namespace Go.Sp
open Go Go.Fw Go.Fx Go.Proofs
set_option linter.unusedVariables false
set_option linter.unusedSimpArgs false
structure Wf (b : List UInt8) (r : QReader) : Prop where
  b_eq : r.b = b
  at0 : 0 ≤ r.at_
  at1 : r.at_ ≤ b.length
  p0 : 0 ≤ r.place
  p1 : r.place ≤ b.length
def Rd (b : List UInt8) (r r' : QReader) (enc : List UInt8) (good : Prop) : Prop :=
  Wf b r' ∧ (r'.e = 0 → r.e = 0 ∧ good ∧ b.drop r.at_.toNat = enc ++ b.drop r'.at_.toNat)
section
variable {b : List UInt8} {r r1 r2 : QReader}
theorem Rd.trans {e1 e2 : List UInt8} {g1 g2 : Prop} (h : Rd b r r1 e1 g1) (k : Rd b r1 r2 e2 g2) : Rd b r r2 (e1 ++ e2) (g1 ∧ g2) :=
  ⟨k.1, fun he => by
    obtain ⟨h1, h2, h3⟩ := k.2 he
    obtain ⟨h4, h5, h6⟩ := h.2 h1
    exact ⟨h4, ⟨h5, h2⟩, by rw [h6, h3, List.append_assoc]⟩⟩
theorem Rd.refl (h : Wf b r) : Rd b r r [] True := ⟨h, fun he => ⟨he, trivial, rfl⟩⟩
theorem Rd.imp {e e' : List UInt8} {g g' : Prop} (h : Rd b r r1 e g) (k : g → e = e' ∧ g') : Rd b r r1 e' g' :=
  ⟨h.1, fun he => by obtain ⟨h1, h2, h3⟩ := h.2 he; obtain ⟨h4, h5⟩ := k h2; subst h4; exact ⟨h1, h5, h3⟩⟩
theorem Rd.bad (h : Wf b r1) (he : r1.e ≠ 0) {e : List UInt8} {g : Prop} : Rd b r r1 e g := ⟨h, fun k => absurd k he⟩
theorem number_loop (y : List UInt8 × QReader) (hl : y.1.length ≤ 8) : ∀ (m k : Nat), m + k = y.1.length →
    Fx.loop (fun (v : Int × Int) => match v with | (v1, v2) => Sh.trace_reader_number_l2 y v1 v2) ((k : Int), IntKind.i64.wrap (num (y.1.take k) : Nat)) = some (Sum.inl (y.2, IntKind.i64.wrap (num y.1 : Nat))) := by
  intro m
  induction m with
  | zero =>
    intro k hk
    rw [Fx.loop_eq]
    have h : ¬ ((k : Int) < (y.1.length : Int)) := by omega
    simp [Sh.trace_reader_number_l2, h, List.take_of_length_le (show y.1.length ≤ k by omega)]
  | succ m ih =>
    intro k hk
    rw [Fx.loop_eq]
    have h : ((k : Int) < (y.1.length : Int)) := by omega
    have hkl : k < y.1.length := by omega
    have e1 : IntKind.i64.wrap (8 * (k : Int)) = 8 * (k : Int) := w64 (by omega)
    have e2 : IntKind.i64.wrap ((k : Int) + 1) = ((k + 1 : Nat) : Int) := by rw [w64 (by omega)]; rfl
    have hg : Fx.get y.1 (k : Int) = some y.1[k] := by simp [Fx.get, List.getElem?_eq_getElem hkl]
    have e3 : (8 * (k : Int)).toNat = 8 * k := by omega
    have e4 : shl .i64 (y.1[k].toNat : Int) (8 * k) = IntKind.i64.wrap ((2 ^ (8 * k) * y.1[k].toNat : Nat) : Int) := by
      unfold shl
      rw [Nat.min_eq_left (by simp [IntKind.bits]; omega), Int.mul_comm]
      congr 1
    have hN := num_lt (y.1.take k)
    rw [List.length_take, Nat.min_eq_left (by omega)] at hN
    have e256 : (256 : Nat) ^ k = 2 ^ (8 * k) := by rw [Nat.pow_mul]
    have hb := y.1[k].toNat_lt
    have hb2 : 2 ^ (8 * k) * y.1[k].toNat + num (y.1.take k) < 2 ^ 64 := by
      have h1 : 2 ^ (8 * k) * y.1[k].toNat ≤ 2 ^ (8 * k) * 255 := Nat.mul_le_mul_left _ (by omega)
      have h2 : 2 ^ (8 * k) * 256 ≤ 2 ^ 64 := by
        rw [show (256 : Nat) = 2 ^ 8 by rfl, ← Nat.pow_add]; exact Nat.pow_le_pow_right (by decide) (by omega)
      rw [← e256] at h1 h2 ⊢
      omega
    have e5 : num (y.1.take (k + 1)) = num (y.1.take k) + 2 ^ (8 * k) * y.1[k].toNat := by
      rw [List.take_add_one, List.getElem?_eq_getElem hkl, Option.toList_some, num_snoc, List.length_take, Nat.min_eq_left (by omega), e256]
    have := ih (k + 1) (by omega)
    simp only [Sh.trace_reader_number_l2, h, decide_true, cond_true, hg, Option.bind_some, e1, e2, Fx.must, show (0 ≤ 8 * (k : Int)) by omega, e3, e4, bor_disj (by rw [← e256]; exact hN) hb2]
    rw [← e5]
    exact this
end
end Go.Sp
end
section
namespace Go.Sp
open Go Go.Fw Go.Fx
set_option linter.unusedVariables false
set_option linter.unusedSimpArgs false
section
variable {σ γ X : Type} {body : σ → Option (σ ⊕ γ)}
theorem loop_go {s s' : σ} {o : Option γ} (h : body s = some (.inl s')) (k : loop body s' = o) : loop body s = o := by rw [loop_eq, h]; exact k
theorem loop_out {s : σ} {g : γ} (h : body s = some (.inr g)) : loop body s = some g := by rw [loop_eq, h]
theorem count_rule {α : Type} (n : Nat) (st : Nat → α → σ) (I : Nat → α → Prop) (Q : γ → Prop)
    (h : ∀ i a, i < n → I i a → (∃ a', body (st i a) = some (.inl (st (i + 1) a')) ∧ I (i + 1) a') ∨ ∃ g, body (st i a) = some (.inr g) ∧ Q g)
    (h' : ∀ a, I n a → ∃ g, body (st n a) = some (.inr g) ∧ Q g) : ∀ m i a, m + i = n → I i a → ∃ g, loop body (st i a) = some g ∧ Q g := by
  intro m
  induction m with
  | zero =>
    intro i a e hI
    obtain rfl : i = n := by omega
    obtain ⟨g, hg, hq⟩ := h' a hI
    exact ⟨g, loop_out hg, hq⟩
  | succ m ih =>
    intro i a e hI
    rcases h i a (by omega) hI with ⟨a', hb, hI'⟩ | ⟨g, hg, hq⟩
    · obtain ⟨g, hg, hq⟩ := ih (i + 1) a' (by omega) hI'
      exact ⟨g, loop_go hb hg, hq⟩
    · exact ⟨g, loop_out hg, hq⟩
end
theorem seq_l {τ γ : Type} {x : τ} {k : τ → Option γ} : Fx.seq (some (Sum.inl x)) k = k x := rfl
theorem seq_r {τ γ : Type} {x : γ} {k : τ → Option γ} : Fx.seq (some (Sum.inr x)) k = some x := rfl
theorem seq_eq {τ γ : Type} {t : Option (τ ⊕ γ)} {o : τ ⊕ γ} {k : τ → Option γ} {u : Option γ} (h : t = some o) (h' : Fx.fin k o = u) : Fx.seq t k = u := by rw [h]; exact h'
theorem next64 {i n : Nat} (h : i < n) (hn : n ≤ 4611686018427387904) : IntKind.i64.wrap ((i : Int) + 1) = ((i + 1 : Nat) : Int) := by rw [w64 (by omega)]; rfl
theorem get_at {X : Type} {l : List X} {i : Nat} (h : i < l.length) : Fx.get l (i : Int) = some l[i] := by simp [Fx.get, List.getElem?_eq_getElem h]
theorem lt_dec {i n : Nat} : decide ((i : Int) < (n : Int)) = decide (i < n) := by simp
theorem app_ok {X : Type} {bytes : Nat} {l m : List X} (h : (l.length + m.length) * bytes ≤ 140737488355328) (k : l.length + m.length ≤ 4611686018427387904) : Fx.app bytes l m = some (l ++ m) := if_pos ⟨h, k⟩
end Go.Sp
end
section
namespace Go.Sp
open Go Go.Fw Go.Fx Go.Proofs
set_option linter.unusedVariables false
set_option linter.unusedSimpArgs false
def encRest (v : LVal) : List UInt8 := (if v.kind = 5 then [Fw.byteOf v.table, Fw.byteOf v.row] else []) ++ (if v.kind = 0 then [] else lows 8 v.x)
def encVal (v : LVal) : List UInt8 := Fw.byteOf v.kind :: encRest v
section
variable {b : List UInt8} {r r1 r2 : QReader}
theorem Rd.at_ {e : List UInt8} {g : Prop} (hw : Wf b r) (h : Rd b r r1 e g) (he : r1.e = 0) : r1.at_ = r.at_ + e.length := by
  have h1 := congrArg List.length (h.2 he).2.2
  simp only [List.length_append, List.length_drop] at h1
  have := hw.at1; have := h.1.at1; have := hw.at0; have := h.1.at0
  omega
def bit (m : Int) (i : Nat) : Bool := decide (band .i64 (shr .i64 m i) 1 = 1)
def encBytes (l : List UInt8) (m : Int) : Nat → Nat → List UInt8
  | _, 0 => []
  | i, n + 1 => (if bit m i then [l.getD i 0] else []) ++ encBytes l m (i + 1) n
def encSlot (s : LSlot) : List UInt8 := if s.ptr.kind = 0 then 0 :: Fw.byteOf s.mask :: encBytes s.bytes.l s.mask 0 8 else encVal s.ptr
end
end Go.Sp
end
section
namespace Go.Sp
open Go Go.Fw Go.Fx Go.Proofs
set_option linter.unusedVariables false
set_option linter.unusedSimpArgs false
def encTurn (t : LTurn) : List UInt8 := [Fw.byteOf t.reg] ++ encVal t.old ++ encVal t.new
def encCell (t : LCell) : List UInt8 := [Fw.byteOf t.slot] ++ encSlot t.old ++ encSlot t.new
def encPiece (p : QPiece) : List UInt8 := [Fw.byteOf (IntKind.i64.wrap (p.table + 1))] ++ lows 2 p.from_ ++ lows 2 (p.old.length : Int) ++ p.old ++ p.new
def encMark (m : QMark) : List UInt8 := lows 2 m.at_ ++ lows 2 m.next ++ [if m.done then 1 else 0] ++ [Fw.byteOf (m.regs.length : Int)] ++ m.regs.flatMap encTurn ++
  [Fw.byteOf (m.slots.length : Int)] ++ m.slots.flatMap encCell ++ lows 4 (m.pieces.length : Int) ++ m.pieces.flatMap encPiece ++ [Fw.byteOf (m.sent.length : Int)] ++ m.sent.flatMap (lows 8)
def encRow (t : List UInt8) : List UInt8 := lows 2 (t.length : Int) ++ t
def encRecord (p : QRecord) : List UInt8 := [84, 82, 67, 49] ++ lows 2 (p.in_.ctx.length : Int) ++ p.in_.ctx ++ [Fw.byteOf (p.in_.tables.length : Int)] ++ p.in_.tables.flatMap encRow ++
  [Fw.byteOf p.end_] ++ lows 4 (p.marks.length : Int) ++ p.marks.flatMap encMark
section
variable {b : List UInt8} {r r1 r2 : QReader}
end
end Go.Sp
end
section
namespace Go.Sp
open Go Go.Fw Go.Fx Go.Proofs
set_option linter.unusedVariables false
set_option linter.unusedSimpArgs false
def cur (r : QReader) : QCursor := QCursor.mk r.b r.at_ r.place r.e
def tk (r : QReader) (n : Int) : List UInt8 × QReader :=
  if r.e = 0 then (if r.at_ + n ≤ r.b.length then ((r.b.drop r.at_.toNat).take n.toNat, QReader.mk r.b (r.at_ + n) r.place r.e) else ([], QReader.mk r.b r.at_ r.b.length 236)) else ([], r)
section
variable {b : List UInt8} {r r1 r2 : QReader}
theorem take_eq (hb : b.length ≤ 16777216) (hw : Wf b r) {n : Int} (hn : 0 ≤ n ∧ n ≤ 4294967296) : Sh.trace_reader_take r n = some (tk r n) := by
  obtain ⟨h1, h2, h3, h4, h5⟩ := hw
  unfold Sh.trace_reader_take tk
  have e1 : IntKind.i64.wrap ((r.b.length : Int) - r.at_) = (b.length : Int) - r.at_ := by rw [h1]; exact w64 (by omega)
  rw [e1]
  have e2 : IntKind.i64.wrap (r.at_ + n) = r.at_ + n := w64 (by omega)
  have e3 : IntKind.i64.wrap (r.at_ + n - n) = r.at_ := by rw [w64 (by omega)]; omega
  by_cases he : r.e = 0
  · by_cases hlt : (b.length : Int) - r.at_ < n
    · have h6 : ¬ r.at_ + n ≤ (r.b.length : Int) := by rw [h1]; omega
      simp [hlt, he, h6, Sh.trace_reader_fault, seq_l, Sh.trace_reader_take_j1]
    · have h6 : r.at_ + n ≤ (r.b.length : Int) := by rw [h1]; omega
      have e4 : (r.at_ + n).toNat - r.at_.toNat = n.toNat := by omega
      simp only [hlt, decide_false, cond_false, seq_l, Sh.trace_reader_take_j1, he, decide_true, Bool.not_true, e2, e3, if_true, h6, Fx.slc]
      have h7 : 0 ≤ r.at_ ∧ r.at_ ≤ r.at_ + n ∧ True := ⟨h2, by omega, trivial⟩
      rw [if_pos h7, e4]; rfl
  · by_cases hlt : (b.length : Int) - r.at_ < n
    · simp [hlt, he, Sh.trace_reader_fault, seq_l, Sh.trace_reader_take_j1]
    · simp [hlt, he, seq_l, Sh.trace_reader_take_j1]
theorem number_eq (hb : b.length ≤ 16777216) (hw : Wf b r) {n : Nat} (hn : n ≤ 8) : Sh.trace_reader_number r (n : Nat) = some (IntKind.i64.wrap (num (tk r n).1 : Nat), (tk r n).2) := by
  have ht := take_eq hb hw (n := (n : Nat)) (by omega)
  have hxl : (tk r n).1.length ≤ 8 := by unfold tk; split <;> (try split) <;> simp <;> omega
  have hl := number_loop (tk r n) hxl (tk r n).1.length 0 (by simp)
  have e0 : IntKind.i64.wrap ((num ((tk r n).1.take 0) : Nat) : Int) = 0 := by simp [num]; rfl
  rw [e0] at hl
  unfold Sh.trace_reader_number
  simp only [ht, Option.bind_some]
  exact seq_eq hl rfl
theorem num_drop (x : List UInt8) (i : Nat) (h : i < x.length) : num (x.drop i) = x[i].toNat + 256 * num (x.drop (i + 1)) := by
  rw [List.drop_eq_getElem_cons h]; rfl
theorem wu64 {x : Int} (h : 0 ≤ x ∧ x < 18446744073709551616) : IntKind.u64.wrap x = x := by
  simp [IntKind.wrap, IntKind.signed, IntKind.bits]; omega
theorem c_number_loop (c : QCursor) (x : List UInt8) (h0 : 0 ≤ c.at_) (hc : c.at_ ≤ 16777216) (hx : x.length ≤ 8) (hg : ∀ i (h : i < x.length), Fx.get c.b (c.at_ + (i : Int)) = some x[i]) : ∀ (m : Nat), m ≤ x.length →
    Fx.loop (fun (v : Int × Int) => match v with | (v1, v2) => Sh.ref23_cursor_number_l4 c v1 v2) ((num (x.drop m) : Nat), (m : Int) - 1) = some (Sum.inl ((num x : Nat) : Int)) := by
  intro m
  induction m with
  | zero => intro _; exact loop_out (by simp [Sh.ref23_cursor_number_l4])
  | succ m ih =>
    intro hm
    have hlt := num_lt (x.drop m)
    rw [List.length_drop] at hlt
    have h8 : 256 ^ (x.length - m) ≤ 256 ^ 8 := Nat.pow_le_pow_right (by decide) (by omega)
    have h8' : 256 ^ 8 = 18446744073709551616 := by decide
    rw [num_drop x m (by omega)] at hlt
    have e1 : ((m + 1 : Nat) : Int) - 1 = (m : Int) := by omega
    refine loop_go ?_ (ih (by omega))
    rw [e1]
    have h1 : (0 : Int) ≤ (m : Int) := by omega
    have e2 : IntKind.i64.wrap (c.at_ + (m : Int)) = c.at_ + (m : Int) := w64 (by omega)
    have e3 : IntKind.i64.wrap ((m : Int) - 1) = (m : Int) - 1 := w64 (by omega)
    have e4 : IntKind.u64.wrap (IntKind.u64.wrap (((num (x.drop (m + 1)) : Nat) : Int) * 256) + ((x[m]'(by omega)).toNat : Int)) = ((num (x.drop m) : Nat) : Int) := by
      rw [num_drop x m (by omega)]
      rw [wu64 (x := ((num (x.drop (m + 1)) : Nat) : Int) * 256) (by omega), wu64 (by omega)]
      omega
    simp only [Sh.ref23_cursor_number_l4, h1, decide_true, cond_true, e2, hg m (by omega), Option.bind_some, e3, e4]
theorem c_number_eq (hb : b.length ≤ 16777216) (hw : Wf b r) {n : Nat} (hn : n ≤ 8) : Sh.ref23_cursor_number (cur r) (n : Nat) = some (IntKind.i64.wrap (num (tk r n).1 : Nat), cur (tk r n).2) := by
  obtain ⟨h1, h2, h3, h4, h5⟩ := hw
  have e2 : IntKind.i64.wrap (r.at_ + (n : Int)) = r.at_ + n := w64 (by omega)
  unfold Sh.ref23_cursor_number tk
  by_cases he : r.e = 0
  · by_cases hlt : r.at_ + (n : Int) ≤ (r.b.length : Int)
    · have h6 : ¬ (r.b.length : Int) < r.at_ + (n : Int) := by omega
      simp only [cur, he, decide_true, cond_true, e2, h6, decide_false, seq_l, Sh.ref23_cursor_number_j2, cond_false, Sh.ref23_cursor_number_j1, Bool.not_true, if_true, hlt]
      have hlen : ((r.b.drop r.at_.toNat).take (n : Int).toNat).length = n := by simp; omega
      have := c_number_loop (QCursor.mk r.b r.at_ r.place 0) ((r.b.drop r.at_.toNat).take (n : Int).toNat) h2 (by simp; omega) (by omega) (fun i h => by
        have hi : r.at_.toNat + i < r.b.length := by rw [hlen] at h; omega
        have e : (r.at_ + (i : Int)).toNat = r.at_.toNat + i := by omega
        simp only [Fx.get]
        rw [if_pos (by omega), e, List.getElem?_eq_getElem hi]
        simp) n (by omega)
      rw [List.drop_of_length_le (by omega)] at this
      have e5 : IntKind.i64.wrap ((n : Int) - 1) = (n : Int) - 1 := w64 (by omega)
      rw [e5]
      exact seq_eq this (by simp only [Fx.fin, Sh.ref23_cursor_number_j3, e2, cur])
    · have h6 : (r.b.length : Int) < r.at_ + (n : Int) := by omega
      simp [cur, he, e2, h6, seq_l, Sh.ref23_cursor_number_j2, Sh.ref23_cursor_number_j1, hlt, Sh.ref23_cursor_fault, num]
      rfl
  · simp [cur, he, seq_l, Sh.ref23_cursor_number_j2, Sh.ref23_cursor_number_j1, num]
    rfl
end
end Go.Sp
end
section
namespace Go.Sp
open Go Go.Fw Go.Fx Go.Proofs
set_option linter.unusedVariables false
set_option linter.unusedSimpArgs false
section
variable {b : List UInt8} {r r1 r2 : QReader}
theorem c_number (hb : b.length ≤ 16777216) (hw : Wf b r) (n : Nat) (hn : n ≤ 8) {v : Int} (h : Sh.trace_reader_number r (n : Nat) = some (v, r1)) : Sh.ref23_cursor_number (cur r) (n : Nat) = some (v, cur r1) ∧ (r1.e ≠ 0 → v = 0) := by
  rw [number_eq hb hw hn] at h
  have h1 := congrArg Prod.fst (Option.some.inj h)
  have h2 := congrArg Prod.snd (Option.some.inj h)
  simp only at h1 h2
  subst h1 h2
  refine ⟨c_number_eq hb hw hn, fun he => ?_⟩
  have : (tk r n).1 = [] := by
    unfold tk at he ⊢
    split
    · rename_i h0
      rw [if_pos h0] at he
      split
      · rename_i h1; rw [if_pos h1] at he; exact absurd h0 he
      · rfl
    · rfl
  rw [this]; simp [num]; rfl
end
end Go.Sp
end
section
namespace Go.Sp
open Go Go.Fw Go.Fx Go.Proofs
set_option linter.unusedVariables false
set_option linter.unusedSimpArgs false
structure OkAt {X : Type} (key : X → Int) (bad : X → Prop) (top : Int) (l : List X) (i : Nat) (h : i < l.length) : Prop where
  lo : 0 ≤ key l[i]
  hi : key l[i] ≤ top
  un : ¬ bad l[i]
  up : ∀ (k : 0 < i), key (l[i - 1]'(by omega)) < key l[i]
def AllOk {X : Type} (key : X → Int) (bad : X → Prop) (top : Int) (l : List X) (n : Nat) : Prop := ∀ i (h : i < l.length), i < n → OkAt key bad top l i h
theorem AllOk.succ {X : Type} {key : X → Int} {bad : X → Prop} {top : Int} {l : List X} {n : Nat} (h : AllOk key bad top l n) (hn : n < l.length) (k : OkAt key bad top l n hn) : AllOk key bad top l (n + 1) := by
  intro i hi hin
  by_cases e : i = n
  · subst e; exact k
  · exact h i hi (by omega)
def Differ (x y : List UInt8) : Prop := ∀ i, i < x.length → x.getD i 0 ≠ y.getD i 0
structure OkP (l : List QPiece) (i : Nat) (h : i < l.length) : Prop where
  lo : -1 ≤ (l[i]).table
  hi : (l[i]).table ≤ 7
  from0 : 0 ≤ (l[i]).from_
  ne : (l[i]).old.length ≠ 0
  eq : (l[i]).new.length = (l[i]).old.length
  top : (l[i]).from_ + ((l[i]).old.length : Int) ≤ 65535
  df : Differ (l[i]).old (l[i]).new
  up : ∀ (k : 0 < i), (l[i - 1]'(by omega)).table < (l[i]).table ∨ ((l[i - 1]'(by omega)).table = (l[i]).table ∧ (l[i - 1]'(by omega)).from_ + ((l[i - 1]'(by omega)).old.length : Int) < (l[i]).from_)
def AllP (l : List QPiece) (n : Nat) : Prop := ∀ i (h : i < l.length), i < n → OkP l i h
theorem AllP.succ {l : List QPiece} {n : Nat} (h : AllP l n) (hn : n < l.length) (k : OkP l n hn) : AllP l (n + 1) := by
  intro i hi hin
  by_cases e : i = n
  · subst e; exact k
  · exact h i hi (by omega)
end Go.Sp
end
section
namespace Go.Sp
open Go Go.Fw Go.Fx Go.Proofs
set_option linter.unusedVariables false
set_option linter.unusedSimpArgs false
structure St (b more : List UInt8) (r : QReader) (t : List UInt8) : Prop where
  wf : Wf b r
  ok : r.e = 0 → b.drop r.at_.toNat ++ more = t
  bad : r.e ≠ 0 → r.e = 236 ∧ r.place = b.length ∧ more ≠ []
section
variable {b more : List UInt8} {r r1 r2 : QReader} {t : List UInt8}
theorem St.any (h : St b more r t) (he : r.e ≠ 0) (t' : List UInt8) : St b more r t' := ⟨h.wf, fun k => absurd k he, h.bad⟩
theorem St.to {t' : List UInt8} (h : St b more r t) (k : r.e = 0 → t = t') : St b more r t' := ⟨h.wf, fun he => (h.ok he).trans (k he), h.bad⟩
end
end Go.Sp
end
section
namespace Go.Sp
open Go Go.Fw Go.Fx Go.Proofs
set_option linter.unusedVariables false
set_option linter.unusedSimpArgs false
theorem encVal_len (v : LVal) : (encVal v).length ≤ 11 := by
  unfold encVal encRest
  split <;> split <;> simp [lows_len]
theorem encBytes_le (l : List UInt8) (m : Int) (n : Nat) : ∀ i, (encBytes l m i n).length ≤ n := by
  induction n with
  | zero => intro i; simp [encBytes]
  | succ n ih => intro i; have := ih (i + 1); simp only [encBytes, List.length_append]; split <;> simp <;> omega
theorem encSlot_len (s : LSlot) : (encSlot s).length ≤ 11 := by
  unfold encSlot
  split
  · have := encBytes_le s.bytes.l s.mask 8 0; simp; omega
  · exact encVal_len _
theorem flat_len {X : Type} {enc : X → List UInt8} (h : ∀ x, 1 ≤ (enc x).length) (xs : List X) : xs.length ≤ (xs.flatMap enc).length := by
  induction xs with
  | nil => simp
  | cons x xs ih => have := h x; simp only [List.length_cons, List.flatMap_cons, List.length_append]; omega
end Go.Sp
end
section
namespace Go.Sp
open Go Go.Fw Go.Fx Go.Proofs
set_option linter.unusedVariables false
set_option linter.unusedSimpArgs false
def Says (o : Option Bool) (P : Prop) : Prop := ∃ t, o = some t ∧ (t = true ↔ P)
theorem Says.eq {o o' : Option Bool} {P : Prop} (h : Says o P) (h' : Says o' P) : o = o' := by
  obtain ⟨t, rfl, ht⟩ := h
  obtain ⟨t', rfl, ht'⟩ := h'
  congr 1
  cases t <;> cases t' <;> simp_all
theorem Says.true {o : Option Bool} {P : Prop} (h : Says o P) (hp : P) : o = some true := by
  obtain ⟨t, rfl, ht⟩ := h
  rw [ht.2 hp]
theorem Says.false {o : Option Bool} {P : Prop} (h : Says o P) (hp : ¬ P) : o = some false := by
  obtain ⟨t, rfl, ht⟩ := h
  cases t
  · rfl
  · exact absurd (ht.1 rfl) hp
theorem Says.of {P : Prop} [Decidable P] : Says (some (decide P)) P := ⟨_, rfl, by simp⟩
end Go.Sp
end
section
namespace Go.Sp
open Go Go.Fw Go.Fx Go.Proofs
set_option linter.unusedVariables false
set_option linter.unusedSimpArgs false
structure SmallE (p : QRecord) : Prop where
  all : (encRecord p).length ≤ 1099511627776
  regs : ∀ m ∈ p.marks, m.regs.length ≤ 1099511627776
  pieces : ∀ m ∈ p.marks, m.pieces.length ≤ 4294967295
theorem enc_parts (p : QRecord) : (encRecord p).length = 4 + 2 + p.in_.ctx.length + 1 + (p.in_.tables.flatMap encRow).length + 1 + 4 + (p.marks.flatMap encMark).length := by
  simp only [encRecord, List.length_append, List.length_singleton, lows_len, List.length_cons, List.length_nil]
end Go.Sp
end
section
namespace Go.Sp
open Go Go.Fw Go.Fx Go.Proofs
set_option linter.unusedVariables false
set_option linter.unusedSimpArgs false
theorem pass {γ : Type} {body : Int → Option (Int ⊕ γ)} {g : γ} (n : Nat) (hn : n ≤ 4611686018427387904) (h : ∀ i : Nat, i < n → body (i : Int) = some (.inl (IntKind.i64.wrap ((i : Int) + 1)))) (h' : body (n : Int) = some (.inr g)) : Fx.loop body 0 = some g := by
  obtain ⟨g', h1, h2⟩ := count_rule (body := body) n (fun i (a : Unit) => (i : Int)) (fun i a => True) (fun g' => g' = g)
    (fun i a hi _ => .inl ⟨(), by rw [h i hi, next64 hi hn], trivial⟩) (fun a _ => ⟨g, h', rfl⟩) n 0 () (by omega) trivial
  subst h2; exact h1
def SmallM (m : QMark) : Prop := m.regs.length ≤ 1099511627776 ∧ m.slots.length ≤ 1099511627776 ∧ m.pieces.length ≤ 1099511627776 ∧ m.sent.length ≤ 1099511627776
def SmallR (p : QRecord) : Prop := p.in_.tables.length ≤ 1099511627776 ∧ p.marks.length ≤ 1099511627776 ∧ ∀ m ∈ p.marks, SmallM m
theorem sameInts_refl {l : List Int} (h : l.length ≤ 1099511627776) : Sh.law00_SameInts l l = some true := by
  unfold Sh.law00_SameInts
  simp only [decide_true, Bool.not_true, cond_false]
  exact seq_eq (pass (g := Sum.inl ()) l.length (by omega) (fun i hi => by simp [Sh.law00_SameInts_l2, hi, get_at hi]) (by simp [Sh.law00_SameInts_l2])) rfl
theorem sameRows_refl {l : List (List UInt8)} (h : l.length ≤ 1099511627776) : Sh.law00_SameRows l l = some true := by
  unfold Sh.law00_SameRows
  simp only [decide_true, Bool.not_true, cond_false]
  exact seq_eq (pass (g := Sum.inl ()) l.length (by omega) (fun i hi => by simp [Sh.law00_SameRows_l2, hi, get_at hi, Sh.law00_SameBytes]) (by simp [Sh.law00_SameRows_l2])) rfl
theorem sameInput_refl {i : QInput} (h : i.tables.length ≤ 1099511627776) : Sh.law00_SameInput i i = some true := by
  simp [Sh.law00_SameInput, Sh.law00_SameBytes, sameRows_refl h, seq_l, Sh.law00_SameInput_j1]
theorem sameMark_refl {m : QMark} (h : SmallM m) : Sh.law23_sameMark m m = some true := by
  obtain ⟨h1, h2, h3, h4⟩ := h
  have k4 : Sh.law23_sameMark_j4 m m = some true :=
    seq_eq (pass (g := Sum.inl ()) m.pieces.length (by omega) (fun i hi => by simp [Sh.law23_sameMark_l7, hi, get_at hi, Sh.law00_SameBytes, seq_l, Sh.law23_sameMark_j8]) (by simp [Sh.law23_sameMark_l7])) rfl
  have k2 : Sh.law23_sameMark_j2 m m = some true :=
    seq_eq (pass (g := Sum.inl ()) m.slots.length (by omega) (fun i hi => by simp [Sh.law23_sameMark_l5, hi, get_at hi]) (by simp [Sh.law23_sameMark_l5])) k4
  have k1 : Sh.law23_sameMark_j1 m m false = some true :=
    seq_eq (pass (g := Sum.inl ()) m.regs.length (by omega) (fun i hi => by simp [Sh.law23_sameMark_l3, hi, get_at hi]) (by simp [Sh.law23_sameMark_l3])) k2
  unfold Sh.law23_sameMark
  simp only [decide_true, Bool.not_true, cond_false, sameInts_refl h4, Option.bind_some, seq_l, k1]
theorem sameRecord_refl {p : QRecord} (h : SmallR p) : Sh.law23_sameRecord p p = some true := by
  obtain ⟨h1, h2, h3⟩ := h
  have k1 : Sh.law23_sameRecord_j1 p p false = some true :=
    seq_eq (pass (g := Sum.inl ()) p.marks.length (by omega) (fun i hi => by simp [Sh.law23_sameRecord_l3, hi, get_at hi, sameMark_refl (h3 _ (List.getElem_mem hi))]) (by simp [Sh.law23_sameRecord_l3])) rfl
  unfold Sh.law23_sameRecord
  simp only [decide_true, Bool.not_true, cond_false, sameInput_refl h1, Option.bind_some, seq_l, k1]
end Go.Sp
end
section
namespace Go.Sp
open Go Go.Fw Go.Fx Go.Proofs
set_option linter.unusedVariables false
set_option linter.unusedSimpArgs false
section
variable {b : List UInt8} {r r1 r2 : QReader}
theorem two {σ γ τ δ X : Type} (N n : Nat) {body1 : σ → Option (σ ⊕ γ)} {body2 : τ → Option (τ ⊕ δ)} (st1 : List X → QReader → Int → σ) (out1 : List X → QReader → γ) (st2 : List X → QCursor → Int → τ) (out2 : List X → QCursor → δ)
    (he1 : ∀ xs r m, (m = 0 ∨ r.e ≠ 0) → body1 (st1 xs r m) = some (.inr (out1 xs r)))
    (he2 : ∀ xs c i, (i = (n : Int) ∨ c.e ≠ 0) → body2 (st2 xs c i) = some (.inr (out2 xs c)))
    (hs : ∀ xs r (m i : Nat), Wf b r → r.e = 0 → m + 1 + i = n → xs.length < N → ∃ x x' r', body1 (st1 xs r ((m + 1 : Nat) : Int)) = some (.inl (st1 (xs ++ [x]) r' (m : Int))) ∧
      body2 (st2 xs (cur r) (i : Int)) = some (.inl (st2 (xs ++ [x']) (cur r') ((i + 1 : Nat) : Int))) ∧ Wf b r' ∧ (r'.e = 0 → x' = x)) :
    ∀ (m i : Nat) xs xs' r, m + i = n → Wf b r → xs.length + m ≤ N → (r.e = 0 → xs' = xs) →
      ∃ ys ys' r', loop body1 (st1 xs r (m : Int)) = some (out1 (xs ++ ys) r') ∧ loop body2 (st2 xs' (cur r) (i : Int)) = some (out2 (xs' ++ ys') (cur r')) ∧ Wf b r' ∧ (r'.e = 0 → xs' ++ ys' = xs ++ ys) := by
  intro m
  induction m with
  | zero =>
    intro i xs xs' r hi hw _ hx
    refine ⟨[], [], r, ?_, ?_, hw, fun h => by rw [hx h]⟩
    · rw [List.append_nil]; exact loop_out (he1 _ _ _ (.inl rfl))
    · rw [List.append_nil]; exact loop_out (he2 _ _ _ (.inl (by omega)))
  | succ m ih =>
    intro i xs xs' r hi hw hN hx
    by_cases he : r.e = 0
    · obtain rfl := hx he
      obtain ⟨x, x', r1, h1, h2, h3, h4⟩ := hs xs' r m i hw he hi (by omega)
      obtain ⟨ys, ys', r2, k1, k2, k3, k4⟩ := ih (i + 1) (xs' ++ [x]) (xs' ++ [x']) r1 (by omega) h3 (by simp; omega) (fun h => by rw [h4 h])
      exact ⟨x :: ys, x' :: ys', r2, loop_go h1 (by rw [k1]; simp), loop_go h2 (by rw [k2]; simp), k3, fun h => by simpa using k4 h⟩
    · refine ⟨[], [], r, ?_, ?_, hw, fun h => absurd h he⟩
      · rw [List.append_nil]; exact loop_out (he1 _ _ _ (.inr he))
      · rw [List.append_nil]; exact loop_out (he2 _ _ _ (.inr he))
theorem c1 (hb : b.length ≤ 16777216) (hw : Wf b r) {v : Int} (h : Sh.trace_reader_number r 1 = some (v, r1)) : Sh.ref23_cursor_number (cur r) 1 = some (v, cur r1) := (c_number hb hw 1 (by omega) h).1
theorem c2 (hb : b.length ≤ 16777216) (hw : Wf b r) {v : Int} (h : Sh.trace_reader_number r 2 = some (v, r1)) : Sh.ref23_cursor_number (cur r) 2 = some (v, cur r1) := (c_number hb hw 2 (by omega) h).1
theorem c4 (hb : b.length ≤ 16777216) (hw : Wf b r) {v : Int} (h : Sh.trace_reader_number r 4 = some (v, r1)) : Sh.ref23_cursor_number (cur r) 4 = some (v, cur r1) := (c_number hb hw 4 (by omega) h).1
end
end Go.Sp
end
