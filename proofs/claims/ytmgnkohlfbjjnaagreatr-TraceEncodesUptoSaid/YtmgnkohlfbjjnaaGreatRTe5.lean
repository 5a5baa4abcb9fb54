/- Ground for this claim: The call of TraceEncodes returns true, and what is read reads as before. Condition: what is read is of bulk at most 1048576. -/
import Derived.Laws.MakeOwn
import Derived.Test.YtmgnkohlfbjjnaaGreatRTe4
section
namespace Go.Fx
open Go Go.Fw
set_option linter.unusedVariables false
set_option linter.unusedSimpArgs false
def mk {X:Type} (bytes:Nat) (z:X) (n:Int):Option (List X):=if 0 ≤ n ∧ (bytes:Int) * n ≤ 281474976710656 ∧ n ≤ 4611686018427387904 then some (List.replicate n.toNat z) else none
section
variable {P:Program} {n:Nat} {F:List (Nat × Value)} {a:Act} {dd:List Deferred} {w:World} {o:Oper} {J:Value → World → Prop}
end
end Go.Fx
end
section
namespace Go.Fx
open Go Go.Fw Go.Proofs
set_option linter.unusedVariables false
set_option linter.unusedSimpArgs false
section
variable {X:Type}
noncomputable def rm (l:List X) (i j:Int) (sp:List X):Option (List X):=open Classical in if i = 0 ∧ 0 ≤ j ∧ l = l.take j.toNat ++ sp ∧ sp.length = 2 then some (l.take j.toNat) else none
theorem rm_some {l y sp:List X} {i j:Int} (h:rm l i j sp = some y):i = 0 ∧ j = (y.length:Int) ∧ l = y ++ sp ∧ sp.length = 2:=by
  unfold rm at h
  split at h
  · rename_i k
    obtain ⟨k1,k2,k3,k4⟩:=k
    cases h
    have hl:=congrArg List.length k3
    simp at hl
    exact ⟨k1,by simp; omega,k3,k4⟩
  · cases h
theorem rm_ok {y sp:List X} (h:sp.length = 2):rm (y ++ sp) 0 (y.length:Int) sp = some y:=by
  unfold rm
  rw [if_pos ⟨rfl,by omega,by simp,h⟩]; simp
theorem rm_slc {l y sp:List X} {i j:Int} (h:rm l i j sp = some y):Fx.slc l i j = some y:=by
  obtain ⟨rfl,rfl,rfl,h2⟩:=rm_some h
  unfold Fx.slc
  rw [if_pos (by simp; omega)]; simp
end
section
variable {X:Type} [Enc X]
def stretch (s:SV):SV:=⟨s.a,s.len + 2,s.cap⟩
structure RmOf (w:World) (s:SV) (l sp:List X):Prop where
  full:SliceOf 0 w (stretch s) (l ++ sp)
  two:sp.length = 2
theorem RmOf.sl {w:World} {s:SV} {l sp:List X} (h:RmOf w s l sp):SliceOf 0 w s l:=by
  obtain ⟨h,h2⟩:=h
  have h1:=h.len
  have h3:=h.room
  have h4:=h.cells
  simp only [stretch,List.length_append] at h1 h3 h4
  refine ⟨by omega,by omega,?_⟩
  obtain ⟨sa,sl,sc⟩:=s
  cases sa with
  | none=>have:=congrArg List.length h4.1; simp at this; omega
  | some ad =>
    obtain ⟨k1,k2,k3⟩:=h4
    refine ⟨.inr (k1.resolve_left fun k=>by rw [List.append_eq_nil_iff] at k; rw [k.2] at h2; cases h2),k2,fun j v hj=>k3 j v ?_⟩
    rw [encs_append,List.getElem?_append_left (List.getElem?_eq_some_iff.1 hj).1]
    exact hj
def LRm (L:World → Prop) (s:SV) (l sp:List X):Prop:=∀ w,L w → RmOf w s l sp
theorem LRm.mono {L L':World → Prop} {s:SV} {l sp:List X} (h:LRm L s l sp) (k:∀ w,L' w → L w):LRm L' s l sp:=fun w hM=>h w (k w hM)
theorem LRm.toIn {L:World → Prop} {s:SV} {l sp:List X} (h:LRm L s l sp):LIn L s l:=fun w hM=>(h w hM).sl
theorem LRm.full {L:World → Prop} {s:SV} {l sp:List X} (h:LRm L s l sp):LIn L (stretch s) (l ++ sp):=fun w hM=>(h w hM).full
theorem cut_stretch {s:SV} {n sz:Nat} (h:s.len = n + 2):stretch (s.cut 0 n sz) = s:=by
  obtain ⟨sa,sl,sc⟩:=s
  simp only at h
  subst h
  simp only [SV.cut,stretch,Nat.sub_zero,Nat.zero_mul]
  congr 1
  split
  · rfl
  · cases sa <;> simp [Addr.add]
theorem rm_row {s:SV} {e:Nat} {l y sp:List X} {i j:Int} {sz:Nat} (h:rm l i j sp = some y) (hsz:Enc.sz X = sz):LRm (rowL 0 s e l).holds' (s.cut i.toNat j.toNat sz) y sp:=by
  obtain ⟨rfl,rfl,rfl,h2⟩:=rm_some h
  intro w hw
  have hs:SliceOf 0 w s (y ++ sp):=row_in hw
  have hl:=hs.len
  simp only [List.length_append] at hl
  refine ⟨?_,h2⟩
  rw [Int.toNat_zero,Int.toNat_natCast,cut_stretch (by omega)]
  exact hs
theorem rm_rowD {Y:Type} {s:SV} {e:Nat} {hs hsp:List X} {xn l spl y sp:List Y} {i j:Int} {sz:Nat} (hl:hs.length = l.length) (ha:xn = l ++ spl) (h2:spl.length = 2) (h3:hsp.length = 2) (h:rm xn i j sp = some y) (hsz:Enc.sz X = sz) :
    y = l ∧ Fx.slc (hs ++ hsp) i j = some hs ∧ LRm (rowL 0 s e (hs ++ hsp)).holds' (s.cut i.toNat j.toNat sz) hs hsp:=by
  obtain ⟨rfl,rfl,h5,h6⟩:=rm_some h
  rw [ha] at h5
  have hy:y = l:=by
    have:=congrArg List.length h5
    simp at this
    exact (List.append_inj h5 (by omega)).1.symm
  subst hy
  have hr:rm (hs ++ hsp) 0 (y.length:Int) hsp = some hs:=by rw [← hl]; exact rm_ok h3
  exact ⟨rfl,rm_slc hr,rm_row hr hsz⟩
end
def spU8:List UInt8:=[161,162]
def spInt:List Int:=[-7,-8]
def spTurn:List LTurn:=[⟨-7,LVal.zero,LVal.zero⟩,⟨-8,LVal.zero,LVal.zero⟩]
def spCell:List LCell:=[⟨-7,LSlot.zero,LSlot.zero⟩,⟨-8,LSlot.zero,LSlot.zero⟩]
def spPiece:List QPiece:=[⟨0,-7,[],[]⟩,⟨0,-8,[],[]⟩]
def hspPiece:List RPiece:=[⟨0,-7,SV.nil,SV.nil⟩,⟨0,-8,SV.nil,SV.nil⟩]
def spMark:List QMark:=[⟨-7,0,false,[],[],[],[]⟩,⟨-8,0,false,[],[],[],[]⟩]
def hspMark:List RMark:=[⟨-7,0,false,SV.nil,SV.nil,SV.nil,SV.nil⟩,⟨-8,0,false,SV.nil,SV.nil,SV.nil,SV.nil⟩]
def BytesRm (L:World → Prop) (s:SV) (l:List UInt8):Prop:=LRm L s l spU8
theorem BytesRm.mono {L L':World → Prop} {s:SV} {l:List UInt8} (h:BytesRm L s l) (k:∀ w,L' w → L w):BytesRm L' s l:=LRm.mono h k
theorem BytesRm.toIn {L:World → Prop} {s:SV} {l:List UInt8} (h:BytesRm L s l):LIn L s l:=LRm.toIn h
def QPieceRm (L:World → Prop) (x:RPiece) (p:QPiece):Prop:=∃ (s_old:SV) (s_new:SV),x = (RPiece.mk p.table p.from_ s_old s_new) ∧ LRm L s_old p.old spU8 ∧ LRm L s_new p.new spU8
theorem QPieceRm.mono {L L':World → Prop} {x:RPiece} {p:QPiece} (h:QPieceRm L x p) (k:∀ w,L' w → L w):QPieceRm L' x p:=by
  obtain ⟨s_old,s_new,e,h0,h1⟩:=h
  exact ⟨s_old,s_new,e,h0.mono k,h1.mono k⟩
theorem QPieceRm.toIn {L:World → Prop} {x:RPiece} {p:QPiece} (h:QPieceRm L x p):QPieceIn L x p:=by
  obtain ⟨s_old,s_new,e,h0,h1⟩:=h
  exact ⟨s_old,s_new,e,h0.toIn,h1.toIn⟩
def QMarkRm (L:World → Prop) (x:RMark) (p:QMark):Prop:=∃ (s_regs:SV) (s_slots:SV) (s_pieces:SV) (h_pieces:List RPiece) (s_sent:SV),x = (RMark.mk p.at_ p.next p.done s_regs s_slots s_pieces s_sent) ∧ LRm L s_regs p.regs spTurn ∧ LRm L s_slots p.slots spCell ∧ LRm L s_pieces h_pieces hspPiece ∧ Each (QPieceRm L) h_pieces p.pieces ∧ LRm L s_sent p.sent spInt
theorem QMarkRm.mono {L L':World → Prop} {x:RMark} {p:QMark} (h:QMarkRm L x p) (k:∀ w,L' w → L w):QMarkRm L' x p:=by
  obtain ⟨s_regs,s_slots,s_pieces,h_pieces,s_sent,e,h0,h1,h2,h3,h4⟩:=h
  exact ⟨s_regs,s_slots,s_pieces,h_pieces,s_sent,e,h0.mono k,h1.mono k,h2.mono k,h3.mono fun _ _ q=>q.mono k,h4.mono k⟩
theorem QMarkRm.toIn {L:World → Prop} {x:RMark} {p:QMark} (h:QMarkRm L x p):QMarkIn L x p:=by
  obtain ⟨s_regs,s_slots,s_pieces,h_pieces,s_sent,e,h0,h1,h2,h3,h4⟩:=h
  exact ⟨s_regs,s_slots,s_pieces,h_pieces,s_sent,e,h0.toIn,h1.toIn,h2.toIn,h3.mono fun _ _ q=>q.toIn,h4.toIn⟩
theorem piece_full {L:World → Prop} {hs:List RPiece} {l:List QPiece} (h:Each (QPieceRm L) hs l):Each (QPieceIn L) (hs ++ hspPiece) (l ++ spPiece) :=
  (h.mono fun _ _ q=>q.toIn).append ((Each.nil.snoc (R:=QPieceIn L) (x:=RPiece.mk 0 (-7) SV.nil SV.nil) (y:=QPiece.mk 0 (-7) [] []) ⟨SV.nil,SV.nil,rfl,LIn.nil,LIn.nil⟩).snoc (x:=RPiece.mk 0 (-8) SV.nil SV.nil) (y:=QPiece.mk 0 (-8) [] []) ⟨SV.nil,SV.nil,rfl,LIn.nil,LIn.nil⟩)
theorem mark_full {L:World → Prop} {hs:List RMark} {l:List QMark} (h:Each (QMarkRm L) hs l):Each (QMarkIn L) (hs ++ hspMark) (l ++ spMark) :=
  (h.mono fun _ _ q=>q.toIn).append ((Each.nil.snoc (R:=QMarkIn L) (x:=RMark.mk (-7) 0 false SV.nil SV.nil SV.nil SV.nil) (y:=QMark.mk (-7) 0 false [] [] [] []) ⟨SV.nil,SV.nil,SV.nil,[],SV.nil,rfl,LIn.nil,LIn.nil,LIn.nil,Each.nil,LIn.nil⟩).snoc (x:=RMark.mk (-8) 0 false SV.nil SV.nil SV.nil SV.nil) (y:=QMark.mk (-8) 0 false [] [] [] []) ⟨SV.nil,SV.nil,SV.nil,[],SV.nil,rfl,LIn.nil,LIn.nil,LIn.nil,Each.nil,LIn.nil⟩)
section
variable {P:Program} {n:Nat} {F:List (Nat × Value)} {a:Act} {dd:List Deferred} {w:World} {o:Oper}
theorem r_cutRm {X:Type} [Enc X] {t e:TypeId} {x y:Operand} {s:SV} {l sp:List X} {w1:World} {ti:TypeInfo} {k:IntKind} {z:Int} (hs:RmOf w1 s l sp) (ht:P.underlying t = some (.slice e)) (hi:P.info? e = some ti) (hF:Fr n F a dd) (ho:o.op = .slice t x none (some y) none)
    (hx:ev F x = some s.v) (hy:ev F y = some (.int k z)) (hz:decide (z = (l.length:Int) + 2) = true):(execOp a.eval o).run P w = .ok (.value (stretch s).v) w:=by
  have hz:=of_decide_eq_true hz
  have h1:=hs.sl.len
  have h2:=hs.full.room
  obtain ⟨sa,sl,sc⟩:=s
  simp only [stretch] at h1 h2
  subst hz
  have h3:((l.length:Int) + 2) = ((sl + 2:Nat):Int):=by omega
  rw [h3] at hy
  have eb:∀ (v:Value) (k:IntKind) (q c:Nat) (bc:BoundsCode),v = .int k (q:Nat) → q ≤ c → (Instr.sliceBound v c bc).run P w = .ok q w:=by
    intro v k q c bc hv hq
    subst hv
    have hq':(0:Int) ≤ (q:Int) ∧ (q:Int) ≤ (c:Int):=by omega
    simp only [Instr.sliceBound,asIntOf,Sem.run_bind,Sem.run_pure,Result.andThen_ok,if_pos hq',Int.toNat_natCast]
  have e2:(Instr.sliceBounds true sl sc none (some (a.eval y)) none).run P w = .ok (0,sl + 2,sc) w:=by
    simp only [Instr.sliceBounds,hF.eval hy,eb _ k (sl + 2) sc _ rfl h2,Sem.run_bind,Sem.run_pure,Result.andThen_ok]
  have e3:(Instr.sliceAt t (.slice sa sl sc) none (some (a.eval y)) none).run P w = .ok (SV.v ⟨sa,sl + 2,sc⟩) w:=by
    have hc:¬ sc = 0:=by omega
    simp [Instr.sliceAt,Instr.slice,run_underlying ht,e2,sizeOf,typeInfo,hi,SV.v,hc]
    cases sa <;> simp [hc,Addr.add]
  simp only [execOp,ho,hF.eval hx,SV.v,Option.map_none,Option.map_some,Sem.run_bind,Result.andThen_ok,Sem.run_pure,stretch] at e3 ⊢
  simp only [e3,Result.andThen_ok]
end
end Go.Fx
end
section
namespace Go.Proofs
open Go Go.Fw Go.Fx
set_option maxRecDepth 10000
set_option linter.unusedVariables false
set_option linter.unusedSimpArgs false
noncomputable def Sh.rm_roomy (x0:List UInt8):Option (List UInt8) :=
 ((Sh.law00_CopyBytes x0).bind fun y16=>((Fx.app 1 y16 [161,162]).bind fun x20=>((Fx.rm x20 0 (x0.length:Int) spU8).bind fun x21=>(some x21))))
noncomputable def Sh.rm_lentMark_l5 (x0:QMark) (v1628:QMark) (v1646:Int):Option (((QMark × Int) ⊕ (QMark ⊕ QMark))) :=
 (bif (decide (v1646 < (x0.pieces.length:Int))) then ((Fx.get x0.pieces v1646).bind fun x1682=>((Sh.rm_roomy x1682.old).bind fun y1689=>((Sh.rm_roomy x1682.new).bind fun y1696=>((Fx.app 64 v1628.pieces [(QPiece.mk x1682.table x1682.from_ y1689 y1696)]).bind fun x1703=>(some (Sum.inl ((QMark.mk v1628.at_ v1628.next v1628.done v1628.regs v1628.slots x1703 v1628.sent),(IntKind.i64.wrap (v1646 + 1))))))))) else (some (Sum.inr (Sum.inl v1628))))
noncomputable def Sh.rm_lentMark_j4 (x0:QMark) (v1461:QMark):Option QMark :=
 ((Fx.app 64 v1461.pieces [(QPiece.mk 0 (-7) [] []),(QPiece.mk 0 (-8) [] [])]).bind fun x1721=>((Fx.rm x1721 0 (x0.pieces.length:Int) spPiece).bind fun x1722=>(some (QMark.mk v1461.at_ v1461.next v1461.done v1461.regs v1461.slots x1722 v1461.sent))))
noncomputable def Sh.rm_lentMark_j3 (x0:QMark) (v968:QMark):Option QMark :=
 (Fx.seq (Fx.loop (fun (v1628,v1646)=>Sh.rm_lentMark_l5 x0 v1628 v1646) ((QMark.mk v968.at_ v968.next v968.done v968.regs v968.slots [] v968.sent),0)) fun v1461=>Sh.rm_lentMark_j4 x0 v1461)
noncomputable def Sh.rm_lentMark_j2 (x0:QMark) (v928:QMark):Option QMark :=
 (Fx.seq ((Sh.law00_CopyInts x0.sent).bind fun y986=>((Fx.app 8 y986 [(-7),(-8)]).bind fun x990=>((Fx.rm x990 0 (x0.sent.length:Int) spInt).bind fun x991=>(some (Sum.inl (QMark.mk v928.at_ v928.next v928.done v928.regs v928.slots v928.pieces x991)))))) fun v968=>Sh.rm_lentMark_j3 x0 v968)
noncomputable def Sh.rm_lentMark_j1 (x0:QMark) (v894:QMark):Option QMark :=
 (Fx.seq ((Fx.app 104 [] x0.slots).bind fun x944=>((Fx.app 104 x944 [(LCell.mk (-7) LSlot.zero LSlot.zero),(LCell.mk (-8) LSlot.zero LSlot.zero)]).bind fun x946=>((Fx.rm x946 0 (x0.slots.length:Int) spCell).bind fun x947=>(some (Sum.inl (QMark.mk v894.at_ v894.next v894.done v894.regs x947 v894.pieces v894.sent)))))) fun v928=>Sh.rm_lentMark_j2 x0 v928)
noncomputable def Sh.rm_lentMark (x0:QMark):Option QMark :=
 (Fx.seq ((Fx.app 72 [] x0.regs).bind fun x908=>((Fx.app 72 x908 [(LTurn.mk (-7) LVal.zero LVal.zero),(LTurn.mk (-8) LVal.zero LVal.zero)]).bind fun x910=>((Fx.rm x910 0 (x0.regs.length:Int) spTurn).bind fun x911=>(some (Sum.inl (QMark.mk x0.at_ x0.next x0.done x911 x0.slots x0.pieces x0.sent)))))) fun v894=>Sh.rm_lentMark_j1 x0 v894)
noncomputable def Sh.rm_lent_l2 (x0:QRecord) (v1763:QInput) (v1773:Int):Option (((QInput × Int) ⊕ (QInput ⊕ QRecord))) :=
 (bif (decide (v1773 < (x0.in_.tables.length:Int))) then ((Fx.get x0.in_.tables v1773).bind fun x1793=>((Sh.rm_roomy x1793).bind fun y1795=>((Fx.app 24 v1763.tables [y1795]).bind fun x1801=>(some (Sum.inl ((QInput.mk v1763.ctx x1801),(IntKind.i64.wrap (v1773 + 1)))))))) else (some (Sum.inr (Sum.inl v1763))))
noncomputable def Sh.rm_lent_l4 (x0:QRecord) (v2694:QRecord) (v2709:Int):Option (((QRecord × Int) ⊕ (QRecord ⊕ QRecord))) :=
 (bif (decide (v2709 < (x0.marks.length:Int))) then ((Fx.get x0.marks v2709).bind fun x2762=>((Sh.rm_lentMark x2762).bind fun y2774=>((Fx.app 120 v2694.marks [y2774]).bind fun x2794=>(some (Sum.inl ((QRecord.mk v2694.in_ x2794 v2694.end_),(IntKind.i64.wrap (v2709 + 1)))))))) else (some (Sum.inr (Sum.inl v2694))))
noncomputable def Sh.rm_lent_j3 (x0:QRecord) (v2465:QRecord):Option QRecord :=
 ((Fx.app 120 v2465.marks [(QMark.mk (-7) 0 false [] [] [] []),(QMark.mk (-8) 0 false [] [] [] [])]).bind fun x2818=>((Fx.rm x2818 0 (x0.marks.length:Int) spMark).bind fun x2819=>(some (QRecord.mk v2465.in_ x2819 v2465.end_))))
noncomputable def Sh.rm_lent_j1 (x0:QRecord) (v1676:QInput):Option QRecord :=
 (Fx.seq (Fx.loop (fun (v2694,v2709)=>Sh.rm_lent_l4 x0 v2694 v2709) ((QRecord.mk v1676 [] x0.end_),0)) fun v2465=>Sh.rm_lent_j3 x0 v2465)
noncomputable def Sh.rm_lent (x0:QRecord):Option QRecord :=
 ((Sh.rm_roomy x0.in_.ctx).bind fun y1428=>(Fx.seq (Fx.loop (fun (v1763,v1773)=>Sh.rm_lent_l2 x0 v1763 v1773) ((QInput.mk y1428 []),0)) fun v1676=>Sh.rm_lent_j1 x0 v1676))
noncomputable def Sh.rm_kept_j1 (v21:Bool):Option Bool :=
 (some v21)
noncomputable def Sh.rm_kept (x0:List UInt8):Option Bool :=
 (Fx.must (decide ((IntKind.i64.wrap ((x0.length:Int) + 2)) = (x0.length:Int) + 2)) (Fx.seq ((Fx.get (x0 ++ spU8) (x0.length:Int)).bind fun x22=>(bif (decide ((x22.toNat:Int) = 161)) then ((Fx.get (x0 ++ spU8) (IntKind.i64.wrap ((x0.length:Int) + 1))).bind fun x24=>(some (Sum.inl (decide ((x24.toNat:Int) = 162))))) else (some (Sum.inl false)))) fun v21=>Sh.rm_kept_j1 v21))
noncomputable def Sh.rm_backMark_j5 (v1988:Int) (v2068:Bool):Option ((Int ⊕ (Unit ⊕ Bool))) :=
 (bif v2068 then (some (Sum.inr (Sum.inr false))) else (some (Sum.inl (IntKind.i64.wrap (v1988 + 1)))))
noncomputable def Sh.rm_backMark_l4 (x0:QMark) (v1988:Int):Option ((Int ⊕ (Unit ⊕ Bool))) :=
 (bif (decide (v1988 < (x0.pieces.length:Int))) then (Fx.seq ((Fx.get x0.pieces v1988).bind fun x2069=>((Sh.rm_kept x2069.old).bind fun y2075=>(bif (!y2075) then (some (Sum.inl true)) else ((Fx.get x0.pieces v1988).bind fun x2077=>((Sh.rm_kept x2077.new).bind fun y2083=>(some (Sum.inl (!y2083)))))))) fun v2068=>Sh.rm_backMark_j5 v1988 v2068) else (some (Sum.inr (Sum.inl ()))))
noncomputable def Sh.rm_backMark_j3:Option Bool :=
 (some true)
noncomputable def Sh.rm_backMark_j2 (x0:QMark) (v1198:Bool):Option Bool :=
 (bif v1198 then (some false) else (Fx.seq (Fx.loop (fun v1988=>Sh.rm_backMark_l4 x0 v1988) 0) fun _=>Sh.rm_backMark_j3))
noncomputable def Sh.rm_backMark_j1 (x0:QMark) (v1109:Bool):Option Bool :=
 (bif v1109 then (some false) else (Fx.seq ((Fx.get (x0.sent ++ spInt) (x0.sent.length:Int)).bind fun x1199=>(bif (!decide (x1199 = (-7))) then (some (Sum.inl true)) else ((Fx.get (x0.sent ++ spInt) (IntKind.i64.wrap ((x0.sent.length:Int) + 1))).bind fun x1201=>(bif (!decide (x1201 = (-8))) then (some (Sum.inl true)) else ((Fx.get (x0.pieces ++ spPiece) (x0.pieces.length:Int)).bind fun x1203=>(bif (!decide (x1203.from_ = (-7))) then (some (Sum.inl true)) else ((Fx.get (x0.pieces ++ spPiece) (IntKind.i64.wrap ((x0.pieces.length:Int) + 1))).bind fun x1209=>(some (Sum.inl (!decide (x1209.from_ = (-8)))))))))))) fun v1198=>Sh.rm_backMark_j2 x0 v1198))
noncomputable def Sh.rm_backMark (x0:QMark) (x1:QMark):Option Bool :=
 (Fx.must (decide ((IntKind.i64.wrap ((x0.regs.length:Int) + 2)) = (x0.regs.length:Int) + 2)) (Fx.must (decide ((IntKind.i64.wrap ((x0.slots.length:Int) + 2)) = (x0.slots.length:Int) + 2)) (Fx.must (decide ((IntKind.i64.wrap ((x0.sent.length:Int) + 2)) = (x0.sent.length:Int) + 2)) (Fx.must (decide ((IntKind.i64.wrap ((x0.pieces.length:Int) + 2)) = (x0.pieces.length:Int) + 2)) (Fx.seq ((Sh.law23_sameMark x0 x1).bind fun y1111=>(bif (!y1111) then (some (Sum.inl true)) else ((Fx.get (x0.regs ++ spTurn) (x0.regs.length:Int)).bind fun x1113=>(bif (!decide (x1113.reg = (-7))) then (some (Sum.inl true)) else ((Fx.get (x0.regs ++ spTurn) (IntKind.i64.wrap ((x0.regs.length:Int) + 1))).bind fun x1115=>(bif (!decide (x1115.reg = (-8))) then (some (Sum.inl true)) else ((Fx.get (x0.slots ++ spCell) (x0.slots.length:Int)).bind fun x1117=>(bif (!decide (x1117.slot = (-7))) then (some (Sum.inl true)) else ((Fx.get (x0.slots ++ spCell) (IntKind.i64.wrap ((x0.slots.length:Int) + 1))).bind fun x1119=>(some (Sum.inl (!decide (x1119.slot = (-8)))))))))))))) fun v1109=>Sh.rm_backMark_j1 x0 v1109)))))
noncomputable def Sh.rm_back_l3 (x0:QRecord) (v1466:Int):Option ((Int ⊕ (Unit ⊕ Bool))) :=
 (bif (decide (v1466 < (x0.in_.tables.length:Int))) then ((Fx.get x0.in_.tables v1466).bind fun x1473=>((Sh.rm_kept x1473).bind fun y1475=>(bif (!y1475) then (some (Sum.inr (Sum.inr false))) else (some (Sum.inl (IntKind.i64.wrap (v1466 + 1))))))) else (some (Sum.inr (Sum.inl ()))))
noncomputable def Sh.rm_back_l5 (x0:QRecord) (x1:QRecord) (v2282:Int):Option ((Int ⊕ (Unit ⊕ Bool))) :=
 (bif (decide (v2282 < (x0.marks.length:Int))) then ((Fx.get x0.marks v2282).bind fun x2358=>((Fx.get x1.marks v2282).bind fun x2369=>((Sh.rm_backMark x2358 x2369).bind fun y2381=>(bif (!y2381) then (some (Sum.inr (Sum.inr false))) else (some (Sum.inl (IntKind.i64.wrap (v2282 + 1)))))))) else (some (Sum.inr (Sum.inl ()))))
noncomputable def Sh.rm_back_j4:Option Bool :=
 (some true)
noncomputable def Sh.rm_back_j2 (x0:QRecord) (x1:QRecord):Option Bool :=
 (Fx.seq (Fx.loop (fun v2282=>Sh.rm_back_l5 x0 x1 v2282) 0) fun _=>Sh.rm_back_j4)
noncomputable def Sh.rm_back_j1 (x0:QRecord) (x1:QRecord) (v1350:Bool):Option Bool :=
 (bif v1350 then (some false) else (Fx.seq (Fx.loop (fun v1466=>Sh.rm_back_l3 x0 v1466) 0) fun _=>Sh.rm_back_j2 x0 x1))
noncomputable def Sh.rm_back (x0:QRecord) (x1:QRecord):Option Bool :=
 (Fx.must (decide ((IntKind.i64.wrap ((x0.marks.length:Int) + 2)) = (x0.marks.length:Int) + 2)) (Fx.seq ((Sh.law23_sameRecord x0 x1).bind fun y1352=>(bif (!y1352) then (some (Sum.inl true)) else ((Fx.get (x0.marks ++ spMark) (x0.marks.length:Int)).bind fun x1354=>(bif (!decide (x1354.at_ = (-7))) then (some (Sum.inl true)) else ((Fx.get (x0.marks ++ spMark) (IntKind.i64.wrap ((x0.marks.length:Int) + 1))).bind fun x1366=>(bif (!decide (x1366.at_ = (-8))) then (some (Sum.inl true)) else ((Sh.rm_kept x0.in_.ctx).bind fun y1379=>(some (Sum.inl (!y1379)))))))))) fun v1350=>Sh.rm_back_j1 x0 x1 v1350))
end Go.Proofs
end
section
namespace Go.Proofs
open Go Go.Fw Go.Fx
set_option maxRecDepth 10000
set_option linter.unusedVariables false
set_option linter.unusedSimpArgs false
noncomputable def Sh.law23_TraceEncodes_j1 (v106:Bool):Option Bool :=
 (some v106)
noncomputable def Sh.law23_TraceEncodes (x0:QRecord):Option Bool :=
 ((Sh.law23_known).bind fun y66=>(bif (!y66) then (some false) else ((Sh.rm_lent x0).bind fun y69=>((Sh.trace_Encode y69).bind fun y87=>((Sh.ref23_Encode x0).bind fun y91=>(Fx.seq (bif (decide (y87.2 = y91.2)) then ((Sh.law00_SameBytes y87.1 y91.1).bind fun y109=>(bif y109 then ((Sh.rm_back y69 x0).bind fun y112=>(some (Sum.inl y112))) else (some (Sum.inl false)))) else (some (Sum.inl false))) fun v106=>Sh.law23_TraceEncodes_j1 v106))))))
end Go.Proofs
end
section
namespace Go.Sp
open Go Go.Fw Go.Fx
set_option linter.unusedVariables false
set_option linter.unusedSimpArgs false
theorem w64 {x:Int} (h : -9223372036854775808 ≤ x ∧ x ≤ 9223372036854775807):IntKind.i64.wrap x = x:=wrap64_id h
def lows:Nat → Int → List UInt8
  | 0,_=>[]
  | n + 1,x=>Fw.byteOf x :: lows n (x.fdiv 256)
theorem lows_len (n:Nat) (x:Int):(lows n x).length = n:=by
  induction n generalizing x with
  | zero=>rfl
  | succ n ih=>simp [lows,ih]
def num:List UInt8 → Nat
  | []=>0
  | b :: l=>b.toNat + 256 * num l
theorem num_lt (l:List UInt8):num l < 256 ^ l.length:=by
  induction l with
  | nil=>simp [num]
  | cons b l ih =>
    simp only [num,List.length_cons,Nat.pow_succ]
    have:=b.toNat_lt
    omega
theorem num_snoc (l:List UInt8) (b:UInt8):num (l ++ [b]) = num l + 256 ^ l.length * b.toNat:=by
  induction l with
  | nil=>simp [num]
  | cons a l ih =>
    simp only [List.cons_append,num,ih,List.length_cons,Nat.pow_succ,Nat.mul_add]
    rw [Nat.mul_comm (256 ^ l.length) 256,Nat.mul_assoc]
    omega
theorem wrap_eq (x:Int):∃ k:Int,IntKind.i64.wrap x = x + 18446744073709551616 * k:=by
  unfold IntKind.wrap
  simp only [IntKind.signed,IntKind.bits,Bool.true_and,decide_eq_true_eq]
  have h:=Int.emod_add_mul_ediv x (2 ^ 64)
  split
  · exact ⟨-(x / 2 ^ 64) - 1,by omega⟩
  · exact ⟨-(x / 2 ^ 64),by omega⟩
theorem ofInt_wrap (x:Int):BitVec.ofInt 64 (IntKind.i64.wrap x) = BitVec.ofInt 64 x:=by
  obtain ⟨k,hk⟩:=wrap_eq x
  rw [hk]
  apply BitVec.eq_of_toInt_eq
  simp only [BitVec.toInt_ofInt]
  rw [show (18446744073709551616:Int) = ((2 ^ 64:Nat):Int) by rfl,Int.add_mul_bmod_self_left]
theorem bor_disj {N b m:Nat} (hN:N < 2 ^ m) (hb:2 ^ m * b + N < 2 ^ 64):bor .i64 (IntKind.i64.wrap (N:Nat)) (IntKind.i64.wrap ((2 ^ m * b:Nat):Int)) = IntKind.i64.wrap ((N + 2 ^ m * b:Nat):Int):=by
  have e0:∀ x y,bor .i64 x y = IntKind.i64.wrap ((BitVec.ofInt 64 x ||| BitVec.ofInt 64 y).toNat:Int):=fun _ _=>rfl
  rw [e0,ofInt_wrap,ofInt_wrap,BitVec.toNat_or,BitVec.ofInt_natCast,BitVec.ofInt_natCast,BitVec.toNat_ofNat,BitVec.toNat_ofNat,Nat.mod_eq_of_lt (by omega),Nat.mod_eq_of_lt (by omega),Nat.or_comm,
    ← Nat.two_pow_add_eq_or_of_lt hN,Nat.add_comm]
end Go.Sp
end
section
namespace Go.Sp
open Go Go.Fw Go.Fx Go.Proofs
set_option linter.unusedVariables false
set_option linter.unusedSimpArgs false
structure Wf (b:List UInt8) (r:QReader):Prop where
  b_eq:r.b = b
  at0:0 ≤ r.at_
  at1:r.at_ ≤ b.length
  p0:0 ≤ r.place
  p1:r.place ≤ b.length
def Rd (b:List UInt8) (r r':QReader) (enc:List UInt8) (good:Prop):Prop :=
  Wf b r' ∧ (r'.e = 0 → r.e = 0 ∧ good ∧ b.drop r.at_.toNat = enc ++ b.drop r'.at_.toNat)
section
variable {b:List UInt8} {r r1 r2:QReader}
theorem Rd.trans {e1 e2:List UInt8} {g1 g2:Prop} (h:Rd b r r1 e1 g1) (k:Rd b r1 r2 e2 g2):Rd b r r2 (e1 ++ e2) (g1 ∧ g2) :=
  ⟨k.1,fun he=>by
    obtain ⟨h1,h2,h3⟩:=k.2 he
    obtain ⟨h4,h5,h6⟩:=h.2 h1
    exact ⟨h4,⟨h5,h2⟩,by rw [h6,h3,List.append_assoc]⟩⟩
theorem Rd.refl (h:Wf b r):Rd b r r [] True:=⟨h,fun he=>⟨he,trivial,rfl⟩⟩
theorem Rd.imp {e e':List UInt8} {g g':Prop} (h:Rd b r r1 e g) (k:g → e = e' ∧ g'):Rd b r r1 e' g' :=
  ⟨h.1,fun he=>by obtain ⟨h1,h2,h3⟩:=h.2 he; obtain ⟨h4,h5⟩:=k h2; subst h4; exact ⟨h1,h5,h3⟩⟩
theorem Rd.bad (h:Wf b r1) (he:r1.e ≠ 0) {e:List UInt8} {g:Prop}:Rd b r r1 e g:=⟨h,fun k=>absurd k he⟩
theorem number_loop (y:List UInt8 × QReader) (hl:y.1.length ≤ 8):∀ (m k:Nat),m + k = y.1.length →
    Fx.loop (fun (v:Int × Int)=>match v with | (v1,v2)=>Sh.trace_reader_number_l2 y v1 v2) ((k:Int),IntKind.i64.wrap (num (y.1.take k):Nat)) = some (Sum.inl (y.2,IntKind.i64.wrap (num y.1:Nat))):=by
  intro m
  induction m with
  | zero =>
    intro k hk
    rw [Fx.loop_eq]
    have h:¬ ((k:Int) < (y.1.length:Int)):=by omega
    simp [Sh.trace_reader_number_l2,h,List.take_of_length_le (show y.1.length ≤ k by omega)]
  | succ m ih =>
    intro k hk
    rw [Fx.loop_eq]
    have h:((k:Int) < (y.1.length:Int)):=by omega
    have hkl:k < y.1.length:=by omega
    have e1:IntKind.i64.wrap (8 * (k:Int)) = 8 * (k:Int):=w64 (by omega)
    have e2:IntKind.i64.wrap ((k:Int) + 1) = ((k + 1:Nat):Int):=by rw [w64 (by omega)]; rfl
    have hg:Fx.get y.1 (k:Int) = some y.1[k]:=by simp [Fx.get,List.getElem?_eq_getElem hkl]
    have e3:(8 * (k:Int)).toNat = 8 * k:=by omega
    have e4:shl .i64 (y.1[k].toNat:Int) (8 * k) = IntKind.i64.wrap ((2 ^ (8 * k) * y.1[k].toNat:Nat):Int):=by
      unfold shl
      rw [Nat.min_eq_left (by simp [IntKind.bits]; omega),Int.mul_comm]
      congr 1
    have hN:=num_lt (y.1.take k)
    rw [List.length_take,Nat.min_eq_left (by omega)] at hN
    have e256:(256:Nat) ^ k = 2 ^ (8 * k):=by rw [Nat.pow_mul]
    have hb:=y.1[k].toNat_lt
    have hb2:2 ^ (8 * k) * y.1[k].toNat + num (y.1.take k) < 2 ^ 64:=by
      have h1:2 ^ (8 * k) * y.1[k].toNat ≤ 2 ^ (8 * k) * 255:=Nat.mul_le_mul_left _ (by omega)
      have h2:2 ^ (8 * k) * 256 ≤ 2 ^ 64:=by
        rw [show (256:Nat) = 2 ^ 8 by rfl,← Nat.pow_add]; exact Nat.pow_le_pow_right (by decide) (by omega)
      rw [← e256] at h1 h2 ⊢
      omega
    have e5:num (y.1.take (k + 1)) = num (y.1.take k) + 2 ^ (8 * k) * y.1[k].toNat:=by
      rw [List.take_add_one,List.getElem?_eq_getElem hkl,Option.toList_some,num_snoc,List.length_take,Nat.min_eq_left (by omega),e256]
    have:=ih (k + 1) (by omega)
    simp only [Sh.trace_reader_number_l2,h,decide_true,cond_true,hg,Option.bind_some,e1,e2,Fx.must,show (0 ≤ 8 * (k:Int)) by omega,e3,e4,bor_disj (by rw [← e256]; exact hN) hb2]
    rw [← e5]
    exact this
end
end Go.Sp
end
section
namespace Go.Sp
open Go Go.Fw Go.Fx
set_option linter.unusedVariables false
set_option linter.unusedSimpArgs false
section
variable {σ γ X:Type} {body:σ → Option (σ ⊕ γ)}
theorem loop_go {s s':σ} {o:Option γ} (h:body s = some (.inl s')) (k:loop body s' = o):loop body s = o:=by rw [loop_eq,h]; exact k
theorem loop_out {s:σ} {g:γ} (h:body s = some (.inr g)):loop body s = some g:=by rw [loop_eq,h]
theorem count_rule {α:Type} (n:Nat) (st:Nat → α → σ) (I:Nat → α → Prop) (Q:γ → Prop)
    (h:∀ i a,i < n → I i a → (∃ a',body (st i a) = some (.inl (st (i + 1) a')) ∧ I (i + 1) a') ∨ ∃ g,body (st i a) = some (.inr g) ∧ Q g)
    (h':∀ a,I n a → ∃ g,body (st n a) = some (.inr g) ∧ Q g):∀ m i a,m + i = n → I i a → ∃ g,loop body (st i a) = some g ∧ Q g:=by
  intro m
  induction m with
  | zero =>
    intro i a e hI
    obtain rfl:i = n:=by omega
    obtain ⟨g,hg,hq⟩:=h' a hI
    exact ⟨g,loop_out hg,hq⟩
  | succ m ih =>
    intro i a e hI
    rcases h i a (by omega) hI with ⟨a',hb,hI'⟩ | ⟨g,hg,hq⟩
    · obtain ⟨g,hg,hq⟩:=ih (i + 1) a' (by omega) hI'
      exact ⟨g,loop_go hb hg,hq⟩
    · exact ⟨g,loop_out hg,hq⟩
end
theorem seq_l {τ γ:Type} {x:τ} {k:τ → Option γ}:Fx.seq (some (Sum.inl x)) k = k x:=rfl
theorem seq_r {τ γ:Type} {x:γ} {k:τ → Option γ}:Fx.seq (some (Sum.inr x)) k = some x:=rfl
theorem seq_eq {τ γ:Type} {t:Option (τ ⊕ γ)} {o:τ ⊕ γ} {k:τ → Option γ} {u:Option γ} (h:t = some o) (h':Fx.fin k o = u):Fx.seq t k = u:=by rw [h]; exact h'
theorem next64 {i n:Nat} (h:i < n) (hn:n ≤ 4611686018427387904):IntKind.i64.wrap ((i:Int) + 1) = ((i + 1:Nat):Int):=by rw [w64 (by omega)]; rfl
theorem get_at {X:Type} {l:List X} {i:Nat} (h:i < l.length):Fx.get l (i:Int) = some l[i]:=by simp [Fx.get,List.getElem?_eq_getElem h]
theorem lt_dec {i n:Nat}:decide ((i:Int) < (n:Int)) = decide (i < n):=by simp
theorem app_ok {X:Type} {bytes:Nat} {l m:List X} (h:(l.length + m.length) * bytes ≤ 140737488355328) (k:l.length + m.length ≤ 4611686018427387904):Fx.app bytes l m = some (l ++ m):=if_pos ⟨h,k⟩
end Go.Sp
end
section
namespace Go.Sp
open Go Go.Fw Go.Fx Go.Proofs
set_option linter.unusedVariables false
set_option linter.unusedSimpArgs false
def encRest (v:LVal):List UInt8:=(if v.kind = 5 then [Fw.byteOf v.table,Fw.byteOf v.row] else []) ++ (if v.kind = 0 then [] else lows 8 v.x)
def encVal (v:LVal):List UInt8:=Fw.byteOf v.kind :: encRest v
def GoodV (v:LVal):Prop:=(v.kind = 5 ∧ (0 ≤ v.table ∧ v.table ≤ 7) ∧ 0 ≤ v.row ∧ v.row ≤ 63) ∨ v = LVal.zero ∨ ((1 ≤ v.kind ∧ v.kind ≤ 4) ∧ v.table = 0 ∧ v.row = 0)
section
variable {b:List UInt8} {r r1 r2:QReader}
theorem Rd.at_ {e:List UInt8} {g:Prop} (hw:Wf b r) (h:Rd b r r1 e g) (he:r1.e = 0):r1.at_ = r.at_ + e.length:=by
  have h1:=congrArg List.length (h.2 he).2.2
  simp only [List.length_append,List.length_drop] at h1
  have:=hw.at1; have:=h.1.at1; have:=hw.at0; have:=h.1.at0
  omega
def bit (m:Int) (i:Nat):Bool:=decide (band .i64 (shr .i64 m i) 1 = 1)
def encBytes (l:List UInt8) (m:Int):Nat → Nat → List UInt8
  | _,0=>[]
  | i,n + 1=>(if bit m i then [l.getD i 0] else []) ++ encBytes l m (i + 1) n
def encSlot (s:LSlot):List UInt8:=if s.ptr.kind = 0 then 0 :: Fw.byteOf s.mask :: encBytes s.bytes.l s.mask 0 8 else encVal s.ptr
def GoodS (s:LSlot):Prop:=(s.ptr = LVal.zero ∧ (0 ≤ s.mask ∧ s.mask < 256) ∧ ∀ i,i < 8 → bit s.mask i = false → s.bytes.l.getD i 0 = 0) ∨
  (s.ptr.kind ≠ 0 ∧ s.ptr.kind ≠ 1 ∧ GoodV s.ptr ∧ s = LSlot.mk s.ptr ⟨List.replicate 8 0,rfl⟩ 0)
end
end Go.Sp
end
section
namespace Go.Sp
open Go Go.Fw Go.Fx Go.Proofs
set_option linter.unusedVariables false
set_option linter.unusedSimpArgs false
theorem within_eq (x lo hi:Int):Sh.trace_within x lo hi = some (decide (lo ≤ x ∧ x ≤ hi)):=by
  unfold Sh.trace_within
  by_cases h:lo ≤ x <;> simp [h,Fx.seq,Fx.fin,Sh.trace_within_j1]
theorem changed_byte_ok {x y:List UInt8} (h:y.length = x.length) (hx:x.length ≤ 1099511627776):∃ l,Sh.trace_changed_byte x y = some l ∧ l.length ≤ x.length:=by
  unfold Sh.trace_changed_byte
  obtain ⟨g,h1,l,h2,h3⟩:=count_rule (body:=fun (v:List Int × Int)=>match v with | (v1,v2)=>Sh.trace_changed_byte_l2 x y v1 v2) x.length (fun i (a:List Int)=>(a,(i:Int))) (fun i a=>a.length ≤ i) (fun g=>∃ l,g = Sum.inl l ∧ l.length ≤ x.length)
    (fun i a hi ha=>.inl (by
      by_cases hc:((x[i]).toNat:Int) = ((y[i]'(by omega)).toNat:Int)
      · exact ⟨a,by simp [Sh.trace_changed_byte_l2,Sh.trace_changed_byte_j3,hi,get_at hi,get_at (show i < y.length by omega),hc,Fx.seq,Fx.fin,next64 hi (by omega)],by omega⟩
      · exact ⟨a ++ [(i:Int)],by simp [Sh.trace_changed_byte_l2,Sh.trace_changed_byte_j3,hi,get_at hi,get_at (show i < y.length by omega),hc,Fx.seq,Fx.fin,next64 hi (by omega),app_ok (bytes:=8) (l:=a) (m:=[(i:Int)]) (by simp; omega) (by simp; omega)],by simp; omega⟩))
    (fun a ha=>⟨Sum.inl a,by simp [Sh.trace_changed_byte_l2],a,rfl,ha⟩) x.length 0 [] (by omega) (by simp)
  subst h2
  exact ⟨l,(congrArg (fun t=>Fx.seq t _) h1).trans rfl,h3⟩
theorem plainPieces_ok {ps:List QPiece} (hn:ps.length ≤ 1099511627776):∃ t,Sh.trace_plainPieces ps = some t:=by
  unfold Sh.trace_plainPieces
  obtain ⟨g,h1,h2⟩:=count_rule (body:=fun (v:Int × Int × Int)=>match v with | (v1,v2,v3)=>Sh.trace_plainPieces_l2 ps v1 v2 v3) ps.length (fun i (a:Int × Int)=>((i:Int),a.1,a.2)) (fun i a=>True) (fun g=>∃ t,Fx.fin (fun _=>Sh.trace_plainPieces_j1) g = some t)
    (fun i a hi _=>by
      obtain ⟨t,f⟩:=a
      generalize hp:ps[i] = p
      have key:∀ t f,(∃ a',Sh.trace_plainPieces_j3 (i:Int) p t f = some (Sum.inl (((i + 1:Nat):Int),a'))) ∨ Sh.trace_plainPieces_j3 (i:Int) p t f = some (Sum.inr (Sum.inr false)):=by
        intro t f
        unfold Sh.trace_plainPieces_j3
        by_cases c1:(p.old.length:Int) = 0
        · right; simp [c1,Fx.seq,Fx.fin,Sh.trace_plainPieces_j4]
        by_cases c2:(p.new.length:Int) = (p.old.length:Int)
        · by_cases c3:65535 < (p.old.length:Int)
          · right; simp [c1,c2,c3,Fx.seq,Fx.fin,Sh.trace_plainPieces_j4]
          · simp only [c1,c2,c3,decide_false,decide_true,cond_false,Bool.not_true,within_eq,Option.bind_some]
            by_cases c4:f ≤ p.from_ ∧ p.from_ ≤ IntKind.i64.wrap (65535 - (p.old.length:Int))
            · obtain ⟨l,hl,_⟩:=changed_byte_ok (x:=p.old) (y:=p.new) (by omega) (by omega)
              simp only [c4,decide_true,Bool.not_true,cond_false,and_self,hl,Option.bind_some,Fx.seq,Fx.fin,Sh.trace_plainPieces_j4]
              by_cases c5:(l.length:Int) < (p.old.length:Int)
              · right; simp [c5]
              · left; exact ⟨_,by simp only [c5,decide_false,cond_false,next64 hi (show ps.length ≤ _ by omega)]; rfl⟩
            · right; simp [c4,Fx.seq,Fx.fin,Sh.trace_plainPieces_j4]
        · right; simp [c1,c2,Fx.seq,Fx.fin,Sh.trace_plainPieces_j4]
      have hb:∀ (u:Int × Int),Sh.trace_plainPieces_l2 ps (i:Int) u.1 u.2 = Sh.trace_plainPieces_l2 ps (i:Int) u.1 u.2:=fun _=>rfl
      show (∃ a',Sh.trace_plainPieces_l2 ps (i:Int) t f = _ ∧ _) ∨ ∃ g,Sh.trace_plainPieces_l2 ps (i:Int) t f = _ ∧ _
      simp only [Sh.trace_plainPieces_l2,lt_dec,hi,decide_true,cond_true,get_at hi,hp,Option.bind_some,within_eq]
      by_cases c:t ≤ p.table ∧ p.table ≤ 7
      · simp only [c,and_self,decide_true,Bool.not_true,cond_false]
        by_cases c':t < p.table
        · simp only [c',decide_true,cond_true,Fx.seq,Fx.fin]
          rcases key p.table 0 with ⟨a',h⟩ | h
          · exact .inl ⟨a',by rw [h],trivial⟩
          · exact .inr ⟨_,h,false,rfl⟩
        · simp only [c',decide_false,cond_false,Fx.seq,Fx.fin]
          rcases key t f with ⟨a',h⟩ | h
          · exact .inl ⟨a',by rw [h],trivial⟩
          · exact .inr ⟨_,h,false,rfl⟩
      · simp only [c,decide_false,Bool.not_false,cond_true,Fx.seq,Fx.fin]
        exact .inr ⟨_,rfl,false,rfl⟩)
    (fun a _=>⟨Sum.inl (),by simp [Sh.trace_plainPieces_l2],true,rfl⟩) ps.length 0 (-1,0) (by omega) trivial
  obtain ⟨t,h2⟩:=h2
  exact ⟨t,(congrArg (fun t=>Fx.seq t _) h1).trans h2⟩
theorem plain_ok {m:QMark} (h1:m.regs.length ≤ 1099511627776) (h2:m.slots.length ≤ 1099511627776) (h3:m.pieces.length ≤ 1099511627776):∃ t,Sh.trace_plain m = some t:=by
  have k5:∃ t,Sh.trace_plain_j5 m = some t:=by
    obtain ⟨t,ht⟩:=plainPieces_ok h3
    exact ⟨t,by simp [Sh.trace_plain_j5,ht]⟩
  have k2:∃ t,Sh.trace_plain_j2 m = some t:=by
    unfold Sh.trace_plain_j2
    obtain ⟨g,e1,t,e2⟩:=count_rule (body:=fun (v:Int × Int)=>match v with | (v1,v2)=>Sh.trace_plain_l6 m v1 v2) m.slots.length (fun i (a:Int)=>(a,(i:Int))) (fun i a=>True) (fun g=>∃ t,Fx.fin (fun _=>Sh.trace_plain_j5 m) g = some t)
      (fun i a hi _=>by
        show (∃ a',Sh.trace_plain_l6 m a (i:Int) = _ ∧ _) ∨ ∃ g,Sh.trace_plain_l6 m a (i:Int) = _ ∧ _
        simp only [Sh.trace_plain_l6,lt_dec,hi,decide_true,cond_true,get_at hi,Option.bind_some,within_eq,Sh.trace_plain_j7]
        generalize m.slots[i] = p
        by_cases c:IntKind.i64.wrap (a + 1) ≤ p.slot ∧ p.slot ≤ 31
        · simp only [c,and_self,decide_true,Bool.not_true,cond_false,Fx.seq,Fx.fin]
          by_cases c':p.old = p.new
          · simp only [c',decide_true,cond_true]; exact .inr ⟨_,rfl,false,rfl⟩
          · simp only [c',decide_false,cond_false,next64 hi (show m.slots.length ≤ _ by omega)]; exact .inl ⟨_,rfl,trivial⟩
        · simp only [c,decide_false,Bool.not_false,cond_true,Fx.seq,Fx.fin]; exact .inr ⟨_,rfl,false,rfl⟩)
      (fun a _=>⟨Sum.inl (),by simp [Sh.trace_plain_l6],k5⟩) m.slots.length 0 (-1) (by omega) trivial
    exact ⟨t,(congrArg (fun t=>Fx.seq t _) e1).trans e2⟩
  have k1:∀ v,∃ t,Sh.trace_plain_j1 m v = some t:=by
    intro v
    unfold Sh.trace_plain_j1
    cases v
    · simp only [cond_false]
      obtain ⟨g,e1,t,e2⟩:=count_rule (body:=fun (v:Int × Int)=>match v with | (v1,v2)=>Sh.trace_plain_l3 m v1 v2) m.regs.length (fun i (a:Int)=>((i:Int),a)) (fun i a=>True) (fun g=>∃ t,Fx.fin (fun _=>Sh.trace_plain_j2 m) g = some t)
        (fun i a hi _=>by
          show (∃ a',Sh.trace_plain_l3 m (i:Int) a = _ ∧ _) ∨ ∃ g,Sh.trace_plain_l3 m (i:Int) a = _ ∧ _
          simp only [Sh.trace_plain_l3,lt_dec,hi,decide_true,cond_true,get_at hi,Option.bind_some,within_eq,Sh.trace_plain_j4]
          generalize m.regs[i] = p
          by_cases c:IntKind.i64.wrap (a + 1) ≤ p.reg ∧ p.reg ≤ 10
          · simp only [c,and_self,decide_true,Bool.not_true,cond_false,Fx.seq,Fx.fin]
            by_cases c':p.old = p.new
            · simp only [c',decide_true,cond_true]; exact .inr ⟨_,rfl,false,rfl⟩
            · simp only [c',decide_false,cond_false,next64 hi (show m.regs.length ≤ _ by omega)]; exact .inl ⟨_,rfl,trivial⟩
          · simp only [c,decide_false,Bool.not_false,cond_true,Fx.seq,Fx.fin]; exact .inr ⟨_,rfl,false,rfl⟩)
        (fun a _=>⟨Sum.inl (),by simp [Sh.trace_plain_l3],k2⟩) m.regs.length 0 (-1) (by omega) trivial
      exact ⟨t,(congrArg (fun t=>Fx.seq t _) e1).trans e2⟩
    · exact ⟨false,rfl⟩
  unfold Sh.trace_plain
  simp only [within_eq,Option.bind_some]
  by_cases c:0 ≤ m.at_ ∧ m.at_ ≤ 4095
  · by_cases c':0 ≤ m.next ∧ m.next ≤ 4095
    · simp only [c,c',and_self,decide_true,Bool.not_true,cond_false,Fx.seq,Fx.fin]; exact k1 _
    · simp only [c,c',and_self,decide_true,decide_false,Bool.not_false,cond_true,Bool.not_true,cond_false,Fx.seq,Fx.fin]; exact k1 _
  · simp only [c,decide_false,Bool.not_false,cond_true,Fx.seq,Fx.fin]; exact k1 _
end Go.Sp
end
section
namespace Go.Sp
open Go Go.Fw Go.Fx Go.Proofs
set_option linter.unusedVariables false
set_option linter.unusedSimpArgs false
def encTurn (t:LTurn):List UInt8:=[Fw.byteOf t.reg] ++ encVal t.old ++ encVal t.new
def encCell (t:LCell):List UInt8:=[Fw.byteOf t.slot] ++ encSlot t.old ++ encSlot t.new
def encPiece (p:QPiece):List UInt8:=[Fw.byteOf (IntKind.i64.wrap (p.table + 1))] ++ lows 2 p.from_ ++ lows 2 (p.old.length:Int) ++ p.old ++ p.new
def encMark (m:QMark):List UInt8:=lows 2 m.at_ ++ lows 2 m.next ++ [if m.done then 1 else 0] ++ [Fw.byteOf (m.regs.length:Int)] ++ m.regs.flatMap encTurn ++
  [Fw.byteOf (m.slots.length:Int)] ++ m.slots.flatMap encCell ++ lows 4 (m.pieces.length:Int) ++ m.pieces.flatMap encPiece ++ [Fw.byteOf (m.sent.length:Int)] ++ m.sent.flatMap (lows 8)
def encRow (t:List UInt8):List UInt8:=lows 2 (t.length:Int) ++ t
def encRecord (p:QRecord):List UInt8:=[84,82,67,49] ++ lows 2 (p.in_.ctx.length:Int) ++ p.in_.ctx ++ [Fw.byteOf (p.in_.tables.length:Int)] ++ p.in_.tables.flatMap encRow ++
  [Fw.byteOf p.end_] ++ lows 4 (p.marks.length:Int) ++ p.marks.flatMap encMark
def GoodM (m:QMark):Prop:=(∀ t ∈ m.regs,GoodV t.old ∧ GoodV t.new) ∧ (∀ t ∈ m.slots,GoodS t.old ∧ GoodS t.new) ∧ Sh.trace_plain m = some true ∧ m.regs.length ≤ 255 ∧ m.slots.length ≤ 255 ∧ m.pieces.length ≤ 4294967296
def GoodR (p:QRecord):Prop:=p.in_.ctx.length ≤ 65535 ∧ p.in_.tables.length ≤ 8 ∧ (∀ t ∈ p.in_.tables,t.length ≤ 65535) ∧ (p.end_ = 0 ∨ (80 ≤ p.end_ ∧ p.end_ ≤ 89)) ∧ ∀ m ∈ p.marks,GoodM m
section
variable {b:List UInt8} {r r1 r2:QReader}
theorem goodEnd_eq (x:Int):Sh.trace_goodEnd x = some (decide (x = 0 ∨ (80 ≤ x ∧ x ≤ 89))):=by
  unfold Sh.trace_goodEnd
  by_cases h:x = 0
  · simp [h,Fx.seq,Fx.fin,Sh.trace_goodEnd_j1]
  · by_cases h':80 ≤ x <;> simp [h,h',Fx.seq,Fx.fin,Sh.trace_goodEnd_j1]
end
end Go.Sp
end
section
namespace Go.Sp
open Go Go.Fw Go.Fx Go.Proofs
set_option linter.unusedVariables false
set_option linter.unusedSimpArgs false
def cur (r:QReader):QCursor:=QCursor.mk r.b r.at_ r.place r.e
def tk (r:QReader) (n:Int):List UInt8 × QReader :=
  if r.e = 0 then (if r.at_ + n ≤ r.b.length then ((r.b.drop r.at_.toNat).take n.toNat,QReader.mk r.b (r.at_ + n) r.place r.e) else ([],QReader.mk r.b r.at_ r.b.length 236)) else ([],r)
section
variable {b:List UInt8} {r r1 r2:QReader}
theorem take_eq (hb:b.length ≤ 16777216) (hw:Wf b r) {n:Int} (hn:0 ≤ n ∧ n ≤ 4294967296):Sh.trace_reader_take r n = some (tk r n):=by
  obtain ⟨h1,h2,h3,h4,h5⟩:=hw
  unfold Sh.trace_reader_take tk
  have e1:IntKind.i64.wrap ((r.b.length:Int) - r.at_) = (b.length:Int) - r.at_:=by rw [h1]; exact w64 (by omega)
  rw [e1]
  have e2:IntKind.i64.wrap (r.at_ + n) = r.at_ + n:=w64 (by omega)
  have e3:IntKind.i64.wrap (r.at_ + n - n) = r.at_:=by rw [w64 (by omega)]; omega
  by_cases he:r.e = 0
  · by_cases hlt:(b.length:Int) - r.at_ < n
    · have h6:¬ r.at_ + n ≤ (r.b.length:Int):=by rw [h1]; omega
      simp [hlt,he,h6,Sh.trace_reader_fault,seq_l,Sh.trace_reader_take_j1]
    · have h6:r.at_ + n ≤ (r.b.length:Int):=by rw [h1]; omega
      have e4:(r.at_ + n).toNat - r.at_.toNat = n.toNat:=by omega
      simp only [hlt,decide_false,cond_false,seq_l,Sh.trace_reader_take_j1,he,decide_true,Bool.not_true,e2,e3,if_true,h6,Fx.slc]
      have h7:0 ≤ r.at_ ∧ r.at_ ≤ r.at_ + n ∧ True:=⟨h2,by omega,trivial⟩
      rw [if_pos h7,e4]; rfl
  · by_cases hlt:(b.length:Int) - r.at_ < n
    · simp [hlt,he,Sh.trace_reader_fault,seq_l,Sh.trace_reader_take_j1]
    · simp [hlt,he,seq_l,Sh.trace_reader_take_j1]
theorem number_eq (hb:b.length ≤ 16777216) (hw:Wf b r) {n:Nat} (hn:n ≤ 8):Sh.trace_reader_number r (n:Nat) = some (IntKind.i64.wrap (num (tk r n).1:Nat),(tk r n).2):=by
  have ht:=take_eq hb hw (n:=(n:Nat)) (by omega)
  have hxl:(tk r n).1.length ≤ 8:=by unfold tk; split <;> (try split) <;> simp <;> omega
  have hl:=number_loop (tk r n) hxl (tk r n).1.length 0 (by simp)
  have e0:IntKind.i64.wrap ((num ((tk r n).1.take 0):Nat):Int) = 0:=by simp [num]; rfl
  rw [e0] at hl
  unfold Sh.trace_reader_number
  simp only [ht,Option.bind_some]
  exact seq_eq hl rfl
theorem num_drop (x:List UInt8) (i:Nat) (h:i < x.length):num (x.drop i) = x[i].toNat + 256 * num (x.drop (i + 1)):=by
  rw [List.drop_eq_getElem_cons h]; rfl
theorem wu64 {x:Int} (h:0 ≤ x ∧ x < 18446744073709551616):IntKind.u64.wrap x = x:=by
  simp [IntKind.wrap,IntKind.signed,IntKind.bits]; omega
theorem c_number_loop (c:QCursor) (x:List UInt8) (h0:0 ≤ c.at_) (hc:c.at_ ≤ 16777216) (hx:x.length ≤ 8) (hg:∀ i (h:i < x.length),Fx.get c.b (c.at_ + (i:Int)) = some x[i]):∀ (m:Nat),m ≤ x.length →
    Fx.loop (fun (v:Int × Int)=>match v with | (v1,v2)=>Sh.ref23_cursor_number_l4 c v1 v2) ((num (x.drop m):Nat),(m:Int) - 1) = some (Sum.inl ((num x:Nat):Int)):=by
  intro m
  induction m with
  | zero=>intro _; exact loop_out (by simp [Sh.ref23_cursor_number_l4])
  | succ m ih =>
    intro hm
    have hlt:=num_lt (x.drop m)
    rw [List.length_drop] at hlt
    have h8:256 ^ (x.length - m) ≤ 256 ^ 8:=Nat.pow_le_pow_right (by decide) (by omega)
    have h8':256 ^ 8 = 18446744073709551616:=by decide
    rw [num_drop x m (by omega)] at hlt
    have e1:((m + 1:Nat):Int) - 1 = (m:Int):=by omega
    refine loop_go ?_ (ih (by omega))
    rw [e1]
    have h1:(0:Int) ≤ (m:Int):=by omega
    have e2:IntKind.i64.wrap (c.at_ + (m:Int)) = c.at_ + (m:Int):=w64 (by omega)
    have e3:IntKind.i64.wrap ((m:Int) - 1) = (m:Int) - 1:=w64 (by omega)
    have e4:IntKind.u64.wrap (IntKind.u64.wrap (((num (x.drop (m + 1)):Nat):Int) * 256) + ((x[m]'(by omega)).toNat:Int)) = ((num (x.drop m):Nat):Int):=by
      rw [num_drop x m (by omega)]
      rw [wu64 (x:=((num (x.drop (m + 1)):Nat):Int) * 256) (by omega),wu64 (by omega)]
      omega
    simp only [Sh.ref23_cursor_number_l4,h1,decide_true,cond_true,e2,hg m (by omega),Option.bind_some,e3,e4]
theorem c_number_eq (hb:b.length ≤ 16777216) (hw:Wf b r) {n:Nat} (hn:n ≤ 8):Sh.ref23_cursor_number (cur r) (n:Nat) = some (IntKind.i64.wrap (num (tk r n).1:Nat),cur (tk r n).2):=by
  obtain ⟨h1,h2,h3,h4,h5⟩:=hw
  have e2:IntKind.i64.wrap (r.at_ + (n:Int)) = r.at_ + n:=w64 (by omega)
  unfold Sh.ref23_cursor_number tk
  by_cases he:r.e = 0
  · by_cases hlt:r.at_ + (n:Int) ≤ (r.b.length:Int)
    · have h6:¬ (r.b.length:Int) < r.at_ + (n:Int):=by omega
      simp only [cur,he,decide_true,cond_true,e2,h6,decide_false,seq_l,Sh.ref23_cursor_number_j2,cond_false,Sh.ref23_cursor_number_j1,Bool.not_true,if_true,hlt]
      have hlen:((r.b.drop r.at_.toNat).take (n:Int).toNat).length = n:=by simp; omega
      have:=c_number_loop (QCursor.mk r.b r.at_ r.place 0) ((r.b.drop r.at_.toNat).take (n:Int).toNat) h2 (by simp; omega) (by omega) (fun i h=>by
        have hi:r.at_.toNat + i < r.b.length:=by rw [hlen] at h; omega
        have e:(r.at_ + (i:Int)).toNat = r.at_.toNat + i:=by omega
        simp only [Fx.get]
        rw [if_pos (by omega),e,List.getElem?_eq_getElem hi]
        simp) n (by omega)
      rw [List.drop_of_length_le (by omega)] at this
      have e5:IntKind.i64.wrap ((n:Int) - 1) = (n:Int) - 1:=w64 (by omega)
      rw [e5]
      exact seq_eq this (by simp only [Fx.fin,Sh.ref23_cursor_number_j3,e2,cur])
    · have h6:(r.b.length:Int) < r.at_ + (n:Int):=by omega
      simp [cur,he,e2,h6,seq_l,Sh.ref23_cursor_number_j2,Sh.ref23_cursor_number_j1,hlt,Sh.ref23_cursor_fault,num]
      rfl
  · simp [cur,he,seq_l,Sh.ref23_cursor_number_j2,Sh.ref23_cursor_number_j1,num]
    rfl
end
end Go.Sp
end
section
namespace Go.Sp
open Go Go.Fw Go.Fx Go.Proofs
set_option linter.unusedVariables false
set_option linter.unusedSimpArgs false
section
variable {b:List UInt8} {r r1 r2:QReader}
theorem c_number (hb:b.length ≤ 16777216) (hw:Wf b r) (n:Nat) (hn:n ≤ 8) {v:Int} (h:Sh.trace_reader_number r (n:Nat) = some (v,r1)):Sh.ref23_cursor_number (cur r) (n:Nat) = some (v,cur r1) ∧ (r1.e ≠ 0 → v = 0):=by
  rw [number_eq hb hw hn] at h
  have h1:=congrArg Prod.fst (Option.some.inj h)
  have h2:=congrArg Prod.snd (Option.some.inj h)
  simp only at h1 h2
  subst h1 h2
  refine ⟨c_number_eq hb hw hn,fun he=>?_⟩
  have:(tk r n).1 = []:=by
    unfold tk at he ⊢
    split
    · rename_i h0
      rw [if_pos h0] at he
      split
      · rename_i h1; rw [if_pos h1] at he; exact absurd h0 he
      · rfl
    · rfl
  rw [this]; simp [num]; rfl
end
end Go.Sp
end
section
namespace Go.Sp
open Go Go.Fw Go.Fx Go.Proofs
set_option linter.unusedVariables false
set_option linter.unusedSimpArgs false
theorem rwithin_eq (x lo hi:Int):Sh.ref23_within x lo hi = some (decide (lo ≤ x ∧ x ≤ hi)):=by
  unfold Sh.ref23_within
  by_cases h:lo ≤ x <;> simp [h,Fx.seq,Fx.fin,Sh.ref23_within_j1]
theorem prev64 {i:Nat} (h:0 < i) (hn:i ≤ 4611686018427387904):IntKind.i64.wrap ((i:Int) - 1) = ((i - 1:Nat):Int):=by rw [w64 (by omega)]; omega
structure OkAt {X:Type} (key:X → Int) (bad:X → Prop) (top:Int) (l:List X) (i:Nat) (h:i < l.length):Prop where
  lo:0 ≤ key l[i]
  hi:key l[i] ≤ top
  un:¬ bad l[i]
  up:∀ (k:0 < i),key (l[i - 1]'(by omega)) < key l[i]
def AllOk {X:Type} (key:X → Int) (bad:X → Prop) (top:Int) (l:List X) (n:Nat):Prop:=∀ i (h:i < l.length),i < n → OkAt key bad top l i h
def AllReg (m:QMark) (n:Nat):Prop:=AllOk (fun t:LTurn=>t.reg) (fun t=>t.old = t.new) 10 m.regs n
def AllSlot (m:QMark) (n:Nat):Prop:=AllOk (fun t:LCell=>t.slot) (fun t=>t.old = t.new) 31 m.slots n
theorem AllOk.succ {X:Type} {key:X → Int} {bad:X → Prop} {top:Int} {l:List X} {n:Nat} (h:AllOk key bad top l n) (hn:n < l.length) (k:OkAt key bad top l n hn):AllOk key bad top l (n + 1):=by
  intro i hi hin
  by_cases e:i = n
  · subst e; exact k
  · exact h i hi (by omega)
theorem regs_t {m:QMark} (hm:m.regs.length ≤ 1099511627776):∃ g,Fx.loop (fun (v:Int × Int)=>match v with | (v1,v2)=>Sh.trace_plain_l3 m v1 v2) (0,-1) = some g ∧ ((g = Sum.inl () ∧ AllReg m m.regs.length) ∨ (g = Sum.inr false ∧ ¬ AllReg m m.regs.length)):=by
  refine count_rule (body:=fun (v:Int × Int)=>match v with | (v1,v2)=>Sh.trace_plain_l3 m v1 v2) m.regs.length (fun i (a:Int)=>((i:Int),a)) (fun i a=>AllReg m i ∧ ((i = 0 ∧ a = -1) ∨ ∃ h:i - 1 < m.regs.length,0 < i ∧ a = (m.regs[i - 1]).reg)) _
    (fun i a hi hI=>?_) (fun a hI=>⟨Sum.inl (),by simp [Sh.trace_plain_l3],.inl ⟨rfl,hI.1⟩⟩) m.regs.length 0 (-1) (by omega) ⟨fun _ _ h=>by omega,.inl ⟨rfl,rfl⟩⟩
  show (∃ a',Sh.trace_plain_l3 m (i:Int) a = _ ∧ _) ∨ ∃ g,Sh.trace_plain_l3 m (i:Int) a = _ ∧ _
  obtain ⟨hA,ha⟩:=hI
  have hrange : -1 ≤ a ∧ a ≤ 10:=by
    rcases ha with ⟨_,rfl⟩ | ⟨h,h0,rfl⟩
    · omega
    · have:=hA (i - 1) h (by omega); have h1:=this.lo; have h2:=this.hi; omega
  have e1:IntKind.i64.wrap (a + 1) = a + 1:=w64 (by omega)
  have hup:∀ q:Int,(∀ (k:0 < i),(m.regs[i - 1]'(by omega)).reg < q) ∧ 0 ≤ q ↔ a + 1 ≤ q:=by
    intro q
    rcases ha with ⟨h0,rfl⟩ | ⟨h,h0,rfl⟩
    · subst h0; constructor
      · rintro ⟨_,h⟩; omega
      · intro h; exact ⟨fun k=>by omega,by omega⟩
    · have:=(hA (i - 1) h (by omega)).lo
      constructor
      · rintro ⟨h1,_⟩; have:=h1 h0; omega
      · intro h1; exact ⟨fun _=>by omega,by omega⟩
  simp only [Sh.trace_plain_l3,lt_dec,hi,decide_true,cond_true,get_at hi,Option.bind_some,within_eq,Sh.trace_plain_j4,e1]
  by_cases c:a + 1 ≤ (m.regs[i]).reg ∧ (m.regs[i]).reg ≤ 10
  · by_cases c':(m.regs[i]).old = (m.regs[i]).new
    · right
      refine ⟨Sum.inr false,by simp [c,c',seq_l],.inr ⟨rfl,fun h=>(h i hi hi).un c'⟩⟩
    · left
      refine ⟨(m.regs[i]).reg,by simp [c,c',seq_l,next64 hi (show m.regs.length ≤ _ by omega)],hA.succ hi ⟨((hup _).2 c.1).2,c.2,c',((hup _).2 c.1).1⟩,.inr ⟨by omega,by omega,rfl⟩⟩
  · right
    refine ⟨Sum.inr false,by simp [c,seq_l],.inr ⟨rfl,fun h=>c ⟨(hup _).1 ⟨(h i hi hi).up,(h i hi hi).lo⟩,(h i hi hi).hi⟩⟩⟩
theorem regs_r {m:QMark} (hm:m.regs.length ≤ 1099511627776):∃ g,Fx.loop (fun (v:Int)=>Sh.ref23_Plain_l3 m v) 0 = some g ∧ ((g = Sum.inl () ∧ AllReg m m.regs.length) ∨ (g = Sum.inr false ∧ ¬ AllReg m m.regs.length)):=by
  refine count_rule (body:=fun (v:Int)=>Sh.ref23_Plain_l3 m v) m.regs.length (fun i (a:Unit)=>(i:Int)) (fun i a=>AllReg m i) _
    (fun i a hi hA=>?_) (fun a hI=>⟨Sum.inl (),by simp [Sh.ref23_Plain_l3],.inl ⟨rfl,hI⟩⟩) m.regs.length 0 () (by omega) (fun _ _ h=>by omega)
  show (∃ a',Sh.ref23_Plain_l3 m (i:Int) = _ ∧ _) ∨ ∃ g,Sh.ref23_Plain_l3 m (i:Int) = _ ∧ _
  simp only [Sh.ref23_Plain_l3,lt_dec,hi,decide_true,cond_true,get_at hi,Option.bind_some,rwithin_eq,Sh.ref23_Plain_j4]
  by_cases c:0 ≤ (m.regs[i]).reg ∧ (m.regs[i]).reg ≤ 10
  · by_cases c':(m.regs[i]).old = (m.regs[i]).new
    · right
      refine ⟨Sum.inr false,by simp [c,c',seq_l],.inr ⟨rfl,fun h=>(h i hi hi).un c'⟩⟩
    · by_cases h0:0 < i
      · have h0':(0:Int) < (i:Int):=by omega
        have hp:i - 1 < m.regs.length:=by omega
        by_cases c2:(m.regs[i]).reg ≤ (m.regs[i - 1]).reg
        · right
          refine ⟨Sum.inr false,by simp [c,c',h0,prev64 h0 (by omega),get_at hp,c2,seq_l],.inr ⟨rfl,fun h=>?_⟩⟩
          have:=(h i hi hi).up h0
          omega
        · left
          refine ⟨(),by simp [c,c',h0,prev64 h0 (by omega),get_at hp,c2,seq_l,next64 hi (show m.regs.length ≤ _ by omega)],AllOk.succ hA hi ⟨c.1,c.2,c',fun _=>by omega⟩⟩
      · left
        have h0':¬ (0:Int) < (i:Int):=by omega
        refine ⟨(),by simp [c,c',h0,seq_l,next64 hi (show m.regs.length ≤ _ by omega)],AllOk.succ hA hi ⟨c.1,c.2,c',fun k=>absurd k h0⟩⟩
  · right
    refine ⟨Sum.inr false,by simp [c,seq_l],.inr ⟨rfl,fun h=>c ⟨(h i hi hi).lo,(h i hi hi).hi⟩⟩⟩
theorem slots_t {m:QMark} (hm:m.slots.length ≤ 1099511627776):∃ g,Fx.loop (fun (v:Int × Int)=>match v with | (v1,v2)=>Sh.trace_plain_l6 m v1 v2) (-1,0) = some g ∧ ((g = Sum.inl () ∧ AllSlot m m.slots.length) ∨ (g = Sum.inr false ∧ ¬ AllSlot m m.slots.length)):=by
  refine count_rule (body:=fun (v:Int × Int)=>match v with | (v1,v2)=>Sh.trace_plain_l6 m v1 v2) m.slots.length (fun i (a:Int)=>(a,(i:Int))) (fun i a=>AllSlot m i ∧ ((i = 0 ∧ a = -1) ∨ ∃ h:i - 1 < m.slots.length,0 < i ∧ a = (m.slots[i - 1]).slot)) _
    (fun i a hi hI=>?_) (fun a hI=>⟨Sum.inl (),by simp [Sh.trace_plain_l6],.inl ⟨rfl,hI.1⟩⟩) m.slots.length 0 (-1) (by omega) ⟨fun _ _ h=>by omega,.inl ⟨rfl,rfl⟩⟩
  show (∃ a',Sh.trace_plain_l6 m a (i:Int) = _ ∧ _) ∨ ∃ g,Sh.trace_plain_l6 m a (i:Int) = _ ∧ _
  obtain ⟨hA,ha⟩:=hI
  have hrange : -1 ≤ a ∧ a ≤ 31:=by
    rcases ha with ⟨_,rfl⟩ | ⟨h,h0,rfl⟩
    · omega
    · have:=hA (i - 1) h (by omega); have h1:=this.lo; have h2:=this.hi; omega
  have e1:IntKind.i64.wrap (a + 1) = a + 1:=w64 (by omega)
  have hup:∀ q:Int,(∀ (k:0 < i),(m.slots[i - 1]'(by omega)).slot < q) ∧ 0 ≤ q ↔ a + 1 ≤ q:=by
    intro q
    rcases ha with ⟨h0,rfl⟩ | ⟨h,h0,rfl⟩
    · subst h0; constructor
      · rintro ⟨_,h⟩; omega
      · intro h; exact ⟨fun k=>by omega,by omega⟩
    · have:=(hA (i - 1) h (by omega)).lo
      constructor
      · rintro ⟨h1,_⟩; have:=h1 h0; omega
      · intro h1; exact ⟨fun _=>by omega,by omega⟩
  simp only [Sh.trace_plain_l6,lt_dec,hi,decide_true,cond_true,get_at hi,Option.bind_some,within_eq,Sh.trace_plain_j7,e1]
  by_cases c:a + 1 ≤ (m.slots[i]).slot ∧ (m.slots[i]).slot ≤ 31
  · by_cases c':(m.slots[i]).old = (m.slots[i]).new
    · right
      refine ⟨Sum.inr false,by simp [c,c',seq_l],.inr ⟨rfl,fun h=>(h i hi hi).un c'⟩⟩
    · left
      refine ⟨(m.slots[i]).slot,by simp [c,c',seq_l,next64 hi (show m.slots.length ≤ _ by omega)],hA.succ hi ⟨((hup _).2 c.1).2,c.2,c',((hup _).2 c.1).1⟩,.inr ⟨by omega,by omega,rfl⟩⟩
  · right
    refine ⟨Sum.inr false,by simp [c,seq_l],.inr ⟨rfl,fun h=>c ⟨(hup _).1 ⟨(h i hi hi).up,(h i hi hi).lo⟩,(h i hi hi).hi⟩⟩⟩
theorem slots_r {m:QMark} (hm:m.slots.length ≤ 1099511627776):∃ g,Fx.loop (fun (v:Int)=>Sh.ref23_Plain_l6 m v) 0 = some g ∧ ((g = Sum.inl () ∧ AllSlot m m.slots.length) ∨ (g = Sum.inr false ∧ ¬ AllSlot m m.slots.length)):=by
  refine count_rule (body:=fun (v:Int)=>Sh.ref23_Plain_l6 m v) m.slots.length (fun i (a:Unit)=>(i:Int)) (fun i a=>AllSlot m i) _
    (fun i a hi hA=>?_) (fun a hI=>⟨Sum.inl (),by simp [Sh.ref23_Plain_l6],.inl ⟨rfl,hI⟩⟩) m.slots.length 0 () (by omega) (fun _ _ h=>by omega)
  show (∃ a',Sh.ref23_Plain_l6 m (i:Int) = _ ∧ _) ∨ ∃ g,Sh.ref23_Plain_l6 m (i:Int) = _ ∧ _
  simp only [Sh.ref23_Plain_l6,lt_dec,hi,decide_true,cond_true,get_at hi,Option.bind_some,rwithin_eq,Sh.ref23_Plain_j7]
  by_cases c:0 ≤ (m.slots[i]).slot ∧ (m.slots[i]).slot ≤ 31
  · by_cases c':(m.slots[i]).old = (m.slots[i]).new
    · right
      refine ⟨Sum.inr false,by simp [c,c',seq_l],.inr ⟨rfl,fun h=>(h i hi hi).un c'⟩⟩
    · by_cases h0:0 < i
      · have h0':(0:Int) < (i:Int):=by omega
        have hp:i - 1 < m.slots.length:=by omega
        by_cases c2:(m.slots[i]).slot ≤ (m.slots[i - 1]).slot
        · right
          refine ⟨Sum.inr false,by simp [c,c',h0,prev64 h0 (by omega),get_at hp,c2,seq_l],.inr ⟨rfl,fun h=>?_⟩⟩
          have:=(h i hi hi).up h0
          omega
        · left
          refine ⟨(),by simp [c,c',h0,prev64 h0 (by omega),get_at hp,c2,seq_l,next64 hi (show m.slots.length ≤ _ by omega)],AllOk.succ hA hi ⟨c.1,c.2,c',fun _=>by omega⟩⟩
      · left
        have h0':¬ (0:Int) < (i:Int):=by omega
        refine ⟨(),by simp [c,c',h0,seq_l,next64 hi (show m.slots.length ≤ _ by omega)],AllOk.succ hA hi ⟨c.1,c.2,c',fun k=>absurd k h0⟩⟩
  · right
    refine ⟨Sum.inr false,by simp [c,seq_l],.inr ⟨rfl,fun h=>c ⟨(h i hi hi).lo,(h i hi hi).hi⟩⟩⟩
def Differ (x y:List UInt8):Prop:=∀ i,i < x.length → x.getD i 0 ≠ y.getD i 0
structure OkP (l:List QPiece) (i:Nat) (h:i < l.length):Prop where
  lo : -1 ≤ (l[i]).table
  hi:(l[i]).table ≤ 7
  from0:0 ≤ (l[i]).from_
  ne:(l[i]).old.length ≠ 0
  eq:(l[i]).new.length = (l[i]).old.length
  top:(l[i]).from_ + ((l[i]).old.length:Int) ≤ 65535
  df:Differ (l[i]).old (l[i]).new
  up:∀ (k:0 < i),(l[i - 1]'(by omega)).table < (l[i]).table ∨ ((l[i - 1]'(by omega)).table = (l[i]).table ∧ (l[i - 1]'(by omega)).from_ + ((l[i - 1]'(by omega)).old.length:Int) < (l[i]).from_)
def AllP (l:List QPiece) (n:Nat):Prop:=∀ i (h:i < l.length),i < n → OkP l i h
theorem AllP.succ {l:List QPiece} {n:Nat} (h:AllP l n) (hn:n < l.length) (k:OkP l n hn):AllP l (n + 1):=by
  intro i hi hin
  by_cases e:i = n
  · subst e; exact k
  · exact h i hi (by omega)
theorem changed_len {x y:List UInt8} (h:y.length = x.length) (hx:x.length ≤ 1099511627776):∃ l,Sh.trace_changed_byte x y = some l ∧ l.length ≤ x.length ∧ (l.length = x.length ↔ Differ x y):=by
  unfold Sh.trace_changed_byte
  obtain ⟨g,h1,l,h2,h3,h4⟩:=count_rule (body:=fun (v:List Int × Int)=>match v with | (v1,v2)=>Sh.trace_changed_byte_l2 x y v1 v2) x.length (fun i (a:List Int)=>(a,(i:Int))) (fun i a=>a.length ≤ i ∧ (a.length = i ↔ ∀ j,j < i → x.getD j 0 ≠ y.getD j 0)) (fun g=>∃ l,g = Sum.inl l ∧ l.length ≤ x.length ∧ (l.length = x.length ↔ Differ x y))
    (fun i a hi ha=>.inl (by
      have ex:x.getD i 0 = x[i]:=by simp [List.getD,List.getElem?_eq_getElem hi]
      have ey:y.getD i 0 = y[i]'(by omega):=by simp [List.getD,List.getElem?_eq_getElem (show i < y.length by omega)]
      by_cases hc:x[i] = y[i]'(by omega)
      · refine ⟨a,by simp [Sh.trace_changed_byte_l2,Sh.trace_changed_byte_j3,hi,get_at hi,get_at (show i < y.length by omega),hc,seq_l,next64 hi (by omega)],by omega,?_⟩
        constructor
        · intro e; omega
        · intro e; exact absurd (by rw [ex,ey,hc]) (e i (by omega))
      · have hc':¬ ((x[i]).toNat:Int) = ((y[i]'(by omega)).toNat:Int):=fun e=>hc (UInt8.toNat_inj.1 (by omega))
        refine ⟨a ++ [(i:Int)],by simp [Sh.trace_changed_byte_l2,Sh.trace_changed_byte_j3,hi,get_at hi,get_at (show i < y.length by omega),hc',seq_l,next64 hi (by omega),app_ok (bytes:=8) (l:=a) (m:=[(i:Int)]) (by simp; omega) (by simp; omega)],by simp; omega,?_⟩
        simp only [List.length_append,List.length_singleton]
        constructor
        · intro e j hj
          by_cases hji:j = i
          · subst hji; rw [ex,ey]; exact hc
          · exact ha.2.1 (by omega) j (by omega)
        · intro e
          have:=ha.2.2 (fun j hj=>e j (by omega))
          omega))
    (fun a ha=>⟨Sum.inl a,by simp [Sh.trace_changed_byte_l2],a,rfl,ha.1,ha.2⟩) x.length 0 [] (by omega) (by simp)
  subst h2
  exact ⟨l,seq_eq h1 rfl,h3,h4⟩
end Go.Sp
end
section
namespace Go.Sp
open Go Go.Fw Go.Fx Go.Proofs
set_option linter.unusedVariables false
set_option linter.unusedSimpArgs false
theorem pieces_t {l:List QPiece} (hl:l.length ≤ 1099511627776):∃ g,Fx.loop (fun (v:Int × Int × Int)=>match v with | (v1,v2,v3)=>Sh.trace_plainPieces_l2 l v1 v2 v3) (0,-1,0) = some g ∧ ((g = Sum.inl () ∧ AllP l l.length) ∨ (g = Sum.inr false ∧ ¬ AllP l l.length)):=by
  refine count_rule (body:=fun (v:Int × Int × Int)=>match v with | (v1,v2,v3)=>Sh.trace_plainPieces_l2 l v1 v2 v3) l.length (fun i (a:Int × Int)=>((i:Int),a.1,a.2)) (fun i a=>AllP l i ∧ ((i = 0 ∧ a = (-1,0)) ∨ ∃ h:i - 1 < l.length,0 < i ∧ a = ((l[i - 1]).table,(l[i - 1]).from_ + ((l[i - 1]).old.length:Int) + 1))) _
    (fun i a hi hI=>?_) (fun a hI=>⟨Sum.inl (),by simp [Sh.trace_plainPieces_l2],.inl ⟨rfl,hI.1⟩⟩) l.length 0 (-1,0) (by omega) ⟨fun _ _ h=>by omega,.inl ⟨rfl,rfl⟩⟩
  obtain ⟨t,f⟩:=a
  obtain ⟨hA,ha⟩:=hI
  show (∃ a',Sh.trace_plainPieces_l2 l (i:Int) t f = _ ∧ _) ∨ ∃ g,Sh.trace_plainPieces_l2 l (i:Int) t f = _ ∧ _
  generalize hp:l[i] = p
  have ht : -1 ≤ t ∧ t ≤ 7 ∧ 0 ≤ f ∧ f ≤ 65536:=by
    rcases ha with ⟨_,e⟩ | ⟨h,h0,e⟩
    · cases e; omega
    · have:=hA (i - 1) h (by omega)
      have h1:=this.lo; have h2:=this.hi; have h3:=this.from0; have h4:=this.top
      cases e; omega
  have bad:(∀ h:OkP l i hi,False) → ∃ g,(some (Sum.inr (Sum.inr false)):Option ((Int × Int × Int) ⊕ (Unit ⊕ Bool))) = some (Sum.inr g) ∧ ((g = Sum.inl () ∧ AllP l l.length) ∨ (g = Sum.inr false ∧ ¬ AllP l l.length)) :=
    fun h=>⟨_,rfl,.inr ⟨rfl,fun k=>h (k i hi hi)⟩⟩
  -- what the place must be,said of the state (t,f)
  have hup:∀ h:OkP l i hi,t ≤ p.table ∧ (p.table = t → f ≤ p.from_):=by
    intro h
    rcases ha with ⟨h0,e⟩ | ⟨h',h0,e⟩
    · cases e; have:=h.lo; have:=h.from0; rw [hp] at *; exact ⟨by omega,fun _=>by omega⟩
    · cases e
      have:=h.up h0
      rw [hp] at this
      rcases this with h1 | ⟨h1,h2⟩
      · exact ⟨by omega,fun e=>by omega⟩
      · exact ⟨by omega,fun e=>by omega⟩
  have hdown:∀ q:Int,t ≤ p.table → 0 ≤ p.from_ → (p.table = t → f ≤ p.from_) → ∀ (k:0 < i),(l[i - 1]'(by omega)).table < p.table ∨ ((l[i - 1]'(by omega)).table = p.table ∧ (l[i - 1]'(by omega)).from_ + ((l[i - 1]'(by omega)).old.length:Int) < p.from_):=by
    intro q h1 h2 h3 k
    rcases ha with ⟨h0,e⟩ | ⟨h',h0,e⟩
    · omega
    · cases e
      by_cases hc:p.table = (l[i - 1]).table
      · right; have:=h3 hc; exact ⟨hc.symm,by omega⟩
      · left; omega
  have key:∀ f',0 ≤ f' ∧ f' ≤ 65536 → t ≤ p.table → p.table ≤ 7 → (f' ≤ p.from_ → 0 ≤ p.from_ → (p.table = t → f ≤ p.from_)) → (∀ h:OkP l i hi,f' ≤ p.from_) →
      (∃ a',Sh.trace_plainPieces_j3 (i:Int) p p.table f' = some (Sum.inl (((i + 1:Nat):Int),a'.1,a'.2)) ∧ AllP l (i + 1) ∧ ((i + 1 = 0 ∧ a' = ((-1,0):Int × Int)) ∨ ∃ h:i + 1 - 1 < l.length,0 < i + 1 ∧ a' = ((l[i + 1 - 1]).table,(l[i + 1 - 1]).from_ + ((l[i + 1 - 1]).old.length:Int) + 1))) ∨
      ∃ g,Sh.trace_plainPieces_j3 (i:Int) p p.table f' = some (Sum.inr g) ∧ ((g = Sum.inl () ∧ AllP l l.length) ∨ (g = Sum.inr false ∧ ¬ AllP l l.length)):=by
    intro f' hf h1 h2 h3 h4
    unfold Sh.trace_plainPieces_j3
    by_cases c1:(p.old.length:Int) = 0
    · right; simpa [c1,seq_l,Sh.trace_plainPieces_j4] using bad (fun h=>h.ne (by rw [hp]; omega))
    by_cases c2:(p.new.length:Int) = (p.old.length:Int)
    · by_cases c3:65535 < (p.old.length:Int)
      · right; simpa [c1,c2,c3,seq_l,Sh.trace_plainPieces_j4] using bad (fun h=>by have h5:=h.top; have h6:=h.from0; rw [hp] at h5 h6; omega)
      · have e1:IntKind.i64.wrap (65535 - (p.old.length:Int)) = 65535 - (p.old.length:Int):=w64 (by omega)
        simp only [c1,c2,c3,decide_false,decide_true,cond_false,Bool.not_true,within_eq,Option.bind_some,e1]
        by_cases c4:f' ≤ p.from_ ∧ p.from_ ≤ 65535 - (p.old.length:Int)
        · obtain ⟨x,hx,hx1,hx2⟩:=changed_len (x:=p.old) (y:=p.new) (by omega) (by omega)
          simp only [c4,decide_true,Bool.not_true,cond_false,and_self,hx,Option.bind_some,seq_l,Sh.trace_plainPieces_j4]
          by_cases c5:(x.length:Int) < (p.old.length:Int)
          · right
            rw [decide_eq_true c5]
            exact bad (fun h=>by have:=hx2.2 (by rw [← hp]; exact h.df); omega)
          · left
            have e2:IntKind.i64.wrap (IntKind.i64.wrap (p.from_ + (p.old.length:Int)) + 1) = p.from_ + (p.old.length:Int) + 1:=by rw [w64 (x:=p.from_ + (p.old.length:Int)) (by omega),w64 (by omega)]
            refine ⟨(p.table,p.from_ + (p.old.length:Int) + 1),by simp only [c5,decide_false,cond_false,next64 hi (show l.length ≤ _ by omega),e2],hA.succ hi ?_,.inr ⟨by omega,by omega,by simp [hp]⟩⟩
            have hd:=hx2.1 (by omega)
            refine ⟨by rw [hp]; omega,by rw [hp]; omega,by rw [hp]; omega,by rw [hp]; omega,by rw [hp]; omega,by rw [hp]; omega,by rw [hp]; exact hd,?_⟩
            rw [hp]
            exact hdown 0 h1 (by omega) (h3 c4.1 (by omega))
        · right
          simp only [c4,decide_false,Bool.not_false,cond_true,seq_l,Sh.trace_plainPieces_j4]
          exact bad (fun h=>c4 ⟨h4 h,by have h5:=h.top; rw [hp] at h5; omega⟩)
    · right; simpa [c1,c2,seq_l,Sh.trace_plainPieces_j4] using bad (fun h=>c2 (by have:=h.eq; rw [hp] at this; omega))
  simp only [Sh.trace_plainPieces_l2,lt_dec,hi,decide_true,cond_true,get_at hi,hp,Option.bind_some,within_eq]
  by_cases c:t ≤ p.table ∧ p.table ≤ 7
  · simp only [c,and_self,decide_true,Bool.not_true,cond_false]
    by_cases c':t < p.table
    · simp only [c',decide_true,cond_true,seq_l]
      exact key 0 (by omega) c.1 c.2 (fun _ _ e=>by omega) (fun h=>by have:=h.from0; rw [hp] at this; exact this)
    · have e:p.table = t:=by omega
      simp only [c',decide_false,cond_false,seq_l]
      have:=key f (by omega) c.1 c.2 (fun h _ _=>h) (fun h=>(hup h).2 e)
      rw [e] at this
      rw [e] at *
      exact this
  · simp only [c,decide_false,Bool.not_false,cond_true,seq_r]
    right
    exact bad (fun h=>c ⟨(hup h).1,by have:=h.hi; rw [hp] at this; exact this⟩)
theorem bytes_r {x:QPiece} (h:x.new.length = x.old.length) (hx:x.old.length ≤ 1099511627776):∃ g,Fx.loop (fun (v:Int)=>Sh.ref23_pieces_l6 x v) 0 = some g ∧ ((g = Sum.inl () ∧ Differ x.old x.new) ∨ (g = Sum.inr (Sum.inr (Sum.inr (Sum.inr false))) ∧ ¬ Differ x.old x.new)):=by
  refine count_rule (body:=fun (v:Int)=>Sh.ref23_pieces_l6 x v) x.old.length (fun i (a:Unit)=>(i:Int)) (fun i a=>∀ j,j < i → x.old.getD j 0 ≠ x.new.getD j 0) _
    (fun i a hi hA=>?_) (fun a hI=>⟨Sum.inl (),by simp [Sh.ref23_pieces_l6],.inl ⟨rfl,hI⟩⟩) x.old.length 0 () (by omega) (fun _ h=>by omega)
  have hi2:i < x.new.length:=by omega
  have ex:x.old.getD i 0 = x.old[i]:=by simp [List.getD,List.getElem?_eq_getElem hi]
  have ey:x.new.getD i 0 = x.new[i]:=by simp [List.getD,List.getElem?_eq_getElem hi2]
  by_cases hc:((x.old[i]).toNat:Int) = ((x.new[i]).toNat:Int)
  · right
    refine ⟨Sum.inr (Sum.inr (Sum.inr (Sum.inr false))),by simp [Sh.ref23_pieces_l6,hi,get_at hi,get_at hi2,hc],.inr ⟨rfl,fun hd=>hd i hi ?_⟩⟩
    rw [ex,ey]
    exact UInt8.toNat_inj.1 (by omega)
  · left
    refine ⟨(),by simp [Sh.ref23_pieces_l6,hi,get_at hi,get_at hi2,hc,next64 hi (show x.old.length ≤ _ by omega)],fun j hj=>?_⟩
    by_cases e:j = i
    · subst e; rw [ex,ey]; intro e; rw [e] at hc; exact hc rfl
    · exact hA j (by omega)
theorem pieces_r {l:List QPiece} (hl:l.length ≤ 1099511627776) (hq:∀ p ∈ l,p.old.length ≤ 1099511627776):∃ g,Fx.loop (fun (v:Int)=>Sh.ref23_pieces_l2 l v) 0 = some g ∧ ((g = Sum.inl () ∧ AllP l l.length) ∨ (g = Sum.inr false ∧ ¬ AllP l l.length)):=by
  refine count_rule (body:=fun (v:Int)=>Sh.ref23_pieces_l2 l v) l.length (fun i (a:Unit)=>(i:Int)) (fun i a=>AllP l i) _
    (fun i a hi hA=>?_) (fun a hI=>⟨Sum.inl (),by simp [Sh.ref23_pieces_l2],.inl ⟨rfl,hI⟩⟩) l.length 0 () (by omega) (fun _ _ h=>by omega)
  have hpl:=hq l[i] (List.getElem_mem hi)
  generalize hp:l[i] = p at hpl
  have bad:(∀ h:OkP l i hi,False) → ∃ g,(some (Sum.inr (Sum.inr false)):Option (Int ⊕ (Unit ⊕ Bool))) = some (Sum.inr g) ∧ ((g = Sum.inl () ∧ AllP l l.length) ∨ (g = Sum.inr false ∧ ¬ AllP l l.length)) :=
    fun h=>⟨_,rfl,.inr ⟨rfl,fun k=>h (k i hi hi)⟩⟩
  show (∃ a',Sh.ref23_pieces_l2 l (i:Int) = _ ∧ _) ∨ ∃ g,Sh.ref23_pieces_l2 l (i:Int) = _ ∧ _
  simp only [Sh.ref23_pieces_l2,lt_dec,hi,decide_true,cond_true,get_at hi,hp,Option.bind_some,rwithin_eq]
  by_cases c1 : -1 ≤ p.table ∧ p.table ≤ 7
  case neg=>right; simpa [c1,seq_l,Sh.ref23_pieces_j4,seq_r] using bad (fun h=>c1 ⟨by rw [← hp]; exact h.lo,by rw [← hp]; exact h.hi⟩)
  by_cases c2:0 ≤ p.from_ ∧ p.from_ ≤ 65535
  case neg=>right; simpa [c1,c2,seq_l,Sh.ref23_pieces_j4,seq_r] using bad (fun h=>c2 ⟨by rw [← hp]; exact h.from0,by have:=h.top; rw [hp] at this; omega⟩)
  by_cases c3:(p.old.length:Int) = (p.new.length:Int)
  case neg=>right; simpa [c1,c2,c3,seq_l,Sh.ref23_pieces_j4,seq_r] using bad (fun h=>c3 (by have:=h.eq; rw [hp] at this; omega))
  by_cases c4:(p.old.length:Int) = 0
  · right
    simp only [decide_eq_true c1,decide_eq_true c2,decide_eq_true c3,decide_eq_true c4,Bool.not_true,cond_false,cond_true,seq_l,Sh.ref23_pieces_j4,seq_r]
    exact bad (fun h=>h.ne (by rw [hp]; omega))
  by_cases c5:65535 < IntKind.i64.wrap (p.from_ + (p.old.length:Int))
  · right
    have:=bad (fun h=>by have h5:=h.top; rw [hp] at h5; rw [w64 (by omega)] at c5; omega)
    simp only [decide_eq_true c1,decide_eq_true c2,decide_eq_true c3,decide_eq_false c4,decide_eq_true c5,Bool.not_true,cond_false,cond_true,seq_l,Sh.ref23_pieces_j4,seq_r]
    exact this
  have c5':p.from_ + (p.old.length:Int) ≤ 65535:=by rw [w64 (by omega)] at c5; omega
  obtain ⟨g,hg,hgo⟩:=bytes_r (x:=p) (by omega) (by omega)
  have hred:∀ t,Sh.ref23_pieces_j4 l (i:Int) p false = t → seq (seq (bif !decide (-1 ≤ p.table ∧ p.table ≤ 7) then some (Sum.inl true) else bif !decide (0 ≤ p.from_ ∧ p.from_ ≤ 65535) then some (Sum.inl true) else bif !decide ((p.old.length:Int) = (p.new.length:Int)) then some (Sum.inl true) else bif decide ((p.old.length:Int) = 0) then some (Sum.inl true) else some (Sum.inl (decide (65535 < IntKind.i64.wrap (p.from_ + (p.old.length:Int)))))) fun v10065=>Sh.ref23_pieces_j4 l (i:Int) p v10065) (fun x=>Sh.ref23_pieces_j3 (i:Int)) = seq t (fun x=>Sh.ref23_pieces_j3 (i:Int)):=by
    intro t ht
    rw [decide_eq_true c1,decide_eq_true c2,decide_eq_true c3,decide_eq_false c4,decide_eq_false c5]
    simp only [Bool.not_true,cond_false,seq_l,ht]
  rcases hgo with ⟨rfl,hd⟩ | ⟨rfl,hd⟩
  · have hj4:Sh.ref23_pieces_j4 l (i:Int) p false = Sh.ref23_pieces_j5 l (i:Int) p:=by
      unfold Sh.ref23_pieces_j4
      simp only [cond_false]
      exact seq_eq hg rfl
    rw [hred _ hj4]
    have hok:(∀ (k:0 < i),(l[i - 1]'(by omega)).table < p.table ∨ ((l[i - 1]'(by omega)).table = p.table ∧ (l[i - 1]'(by omega)).from_ + ((l[i - 1]'(by omega)).old.length:Int) < p.from_)) → OkP l i hi:=by
      intro hu
      refine ⟨by rw [hp]; omega,by rw [hp]; omega,by rw [hp]; omega,by rw [hp]; omega,by rw [hp]; omega,by rw [hp]; omega,by rw [hp]; exact hd,?_⟩
      rw [hp]; exact hu
    unfold Sh.ref23_pieces_j5
    by_cases h0:i = 0
    · subst h0
      left
      exact ⟨(),by simp [seq_l,Sh.ref23_pieces_j3]; exact next64 hi (by omega),hA.succ hi (hok (fun k=>absurd k (by omega)))⟩
    · have h0':¬ (i:Int) = 0:=by omega
      have hpi:i - 1 < l.length:=by omega
      have hprev:=hA (i - 1) hpi (by omega)
      simp only [h0',decide_false,cond_false,prev64 (show 0 < i by omega) (by omega),get_at hpi,Option.bind_some]
      generalize hq:l[i - 1] = q at *
      have e1:IntKind.i64.wrap (q.from_ + (q.old.length:Int)) = q.from_ + (q.old.length:Int):=by
        have h1:=hprev.from0; have h2:=hprev.top; rw [hq] at h1 h2; exact w64 (by omega)
      by_cases d1:p.table < q.table
      · right
        simpa [d1,seq_l,seq_r,Sh.ref23_pieces_j7] using bad (fun h=>by have:=h.up (by omega); rw [hp,hq] at this; omega)
      · by_cases d2:p.table = q.table
        · by_cases d3:p.from_ ≤ q.from_ + (q.old.length:Int)
          · right
            simpa [d1,d2,d3,e1,seq_l,seq_r,Sh.ref23_pieces_j7] using bad (fun h=>by have:=h.up (by omega); rw [hp,hq] at this; omega)
          · left
            exact ⟨(),by simp [d1,d2,d3,e1,seq_l,Sh.ref23_pieces_j7,Sh.ref23_pieces_j3]; exact next64 hi (by omega),hA.succ hi (hok (fun k=>by rw [hq]; right; omega))⟩
        · left
          exact ⟨(),by simp [d1,d2,seq_l,Sh.ref23_pieces_j7,Sh.ref23_pieces_j3]; exact next64 hi (by omega),hA.succ hi (hok (fun k=>by rw [hq]; left; omega))⟩
  · have hj4:Sh.ref23_pieces_j4 l (i:Int) p false = some (Sum.inr (Sum.inr (Sum.inr false))):=by
      unfold Sh.ref23_pieces_j4
      simp only [cond_false]
      exact seq_eq hg rfl
    rw [hred _ hj4]
    right
    exact bad (fun h=>hd (by rw [← hp]; exact h.df))
theorem seq_two {τ τ' γ:Type} {t:Option (τ ⊕ γ)} {t':Option (τ' ⊕ γ)} {o:τ ⊕ γ} {o':τ' ⊕ γ} {k:τ → Option γ} {k':τ' → Option γ} (h:t = some o) (h':t' = some o') (e:Fx.fin k o = Fx.fin k' o'):Fx.seq t k = Fx.seq t' k':=by rw [h,h']; exact e
theorem Plain_eq {m:QMark} (h1:m.regs.length ≤ 1099511627776) (h2:m.slots.length ≤ 1099511627776) (h3:m.pieces.length ≤ 1099511627776) (h4:∀ p ∈ m.pieces,p.old.length ≤ 1099511627776):Sh.ref23_Plain m = Sh.trace_plain m:=by
  have k5:Sh.ref23_Plain_j5 m = Sh.trace_plain_j5 m:=by
    obtain ⟨g,e1,hg⟩:=pieces_r h3 h4
    obtain ⟨g',e1',hg'⟩:=pieces_t h3
    have hb:Sh.ref23_pieces m.pieces = Sh.trace_plainPieces m.pieces:=by
      unfold Sh.ref23_pieces Sh.trace_plainPieces
      refine seq_two e1 e1' ?_
      rcases hg with ⟨rfl,ha⟩ | ⟨rfl,ha⟩ <;> rcases hg' with ⟨rfl,ha'⟩ | ⟨rfl,ha'⟩
      · rfl
      · exact absurd ha ha'
      · exact absurd ha' ha
      · rfl
    simp only [Sh.ref23_Plain_j5,Sh.trace_plain_j5,hb]
  have k2:Sh.ref23_Plain_j2 m = Sh.trace_plain_j2 m:=by
    obtain ⟨g,e1,hg⟩:=slots_r h2
    obtain ⟨g',e1',hg'⟩:=slots_t h2
    unfold Sh.ref23_Plain_j2 Sh.trace_plain_j2
    refine seq_two e1 e1' ?_
    rcases hg with ⟨rfl,ha⟩ | ⟨rfl,ha⟩ <;> rcases hg' with ⟨rfl,ha'⟩ | ⟨rfl,ha'⟩
    · exact k5
    · exact absurd ha ha'
    · exact absurd ha' ha
    · rfl
  have k1:∀ v,Sh.ref23_Plain_j1 m v = Sh.trace_plain_j1 m v:=by
    intro v
    unfold Sh.ref23_Plain_j1 Sh.trace_plain_j1
    cases v
    · simp only [cond_false]
      obtain ⟨g,e1,hg⟩:=regs_r h1
      obtain ⟨g',e1',hg'⟩:=regs_t h1
      refine seq_two e1 e1' ?_
      rcases hg with ⟨rfl,ha⟩ | ⟨rfl,ha⟩ <;> rcases hg' with ⟨rfl,ha'⟩ | ⟨rfl,ha'⟩
      · exact k2
      · exact absurd ha ha'
      · exact absurd ha' ha
      · rfl
    · rfl
  unfold Sh.ref23_Plain Sh.trace_plain
  simp only [within_eq,rwithin_eq,k1]
end Go.Sp
end
section
namespace Go.Sp
open Go Go.Fw Go.Fx Go.Proofs
set_option linter.unusedVariables false
set_option linter.unusedSimpArgs false
structure St (b more:List UInt8) (r:QReader) (t:List UInt8):Prop where
  wf:Wf b r
  ok:r.e = 0 → b.drop r.at_.toNat ++ more = t
  bad:r.e ≠ 0 → r.e = 236 ∧ r.place = b.length ∧ more ≠ []
section
variable {b more:List UInt8} {r r1 r2:QReader} {t:List UInt8}
theorem St.any (h:St b more r t) (he:r.e ≠ 0) (t':List UInt8):St b more r t':=⟨h.wf,fun k=>absurd k he,h.bad⟩
theorem St.to {t':List UInt8} (h:St b more r t) (k:r.e = 0 → t = t'):St b more r t':=⟨h.wf,fun he=>(h.ok he).trans (k he),h.bad⟩
end
end Go.Sp
end
section
namespace Go.Sp
open Go Go.Fw Go.Fx Go.Proofs
set_option linter.unusedVariables false
set_option linter.unusedSimpArgs false
section
variable {b more:List UInt8} {r r1 r2:QReader} {t:List UInt8}
structure PlainM (m:QMark):Prop where
  at_:0 ≤ m.at_ ∧ m.at_ ≤ 4095
  next:0 ≤ m.next ∧ m.next ≤ 4095
  sent:m.sent.length ≤ 1
  regs:AllReg m m.regs.length
  slots:AllSlot m m.slots.length
  pieces:AllP m.pieces m.pieces.length
theorem plain_true {m:QMark} (h1:m.regs.length ≤ 1099511627776) (h2:m.slots.length ≤ 1099511627776) (h3:m.pieces.length ≤ 1099511627776) (h:Sh.trace_plain m = some true):PlainM m:=by
  unfold Sh.trace_plain at h
  simp only [within_eq,Option.bind_some] at h
  by_cases c1:0 ≤ m.at_ ∧ m.at_ ≤ 4095
  · by_cases c2:0 ≤ m.next ∧ m.next ≤ 4095
    · by_cases c3:1 < (m.sent.length:Int)
      · simp [c1,c2,c3,seq_l,Sh.trace_plain_j1] at h
      · have e1:decide (0 ≤ m.at_ ∧ m.at_ ≤ 4095) = true:=decide_eq_true c1
        have e2:decide (0 ≤ m.next ∧ m.next ≤ 4095) = true:=decide_eq_true c2
        have e3:decide (1 < (m.sent.length:Int)) = false:=decide_eq_false c3
        simp only [e1,e2,e3,Bool.not_true,cond_false,seq_l,Sh.trace_plain_j1] at h
        obtain ⟨g,p1,p2⟩:=regs_t h1
        rw [show Fx.loop (fun (v:Int × Int)=>match v with | (v1427,v1428)=>Sh.trace_plain_l3 m v1427 v1428) (0,-1) = some g from p1] at h
        rcases p2 with ⟨rfl,p2⟩ | ⟨rfl,_⟩
        · rw [show Fx.seq (some (Sum.inl ())) (fun _=>Sh.trace_plain_j2 m) = Sh.trace_plain_j2 m from rfl] at h
          unfold Sh.trace_plain_j2 at h
          obtain ⟨g,q1,q2⟩:=slots_t h2
          rw [show Fx.loop (fun (v:Int × Int)=>match v with | (v1889,v1890)=>Sh.trace_plain_l6 m v1889 v1890) (-1,0) = some g from q1] at h
          rcases q2 with ⟨rfl,q2⟩ | ⟨rfl,_⟩
          · rw [show Fx.seq (some (Sum.inl ())) (fun _=>Sh.trace_plain_j5 m) = Sh.trace_plain_j5 m from rfl] at h
            unfold Sh.trace_plain_j5 Sh.trace_plainPieces at h
            obtain ⟨g,r1,r2⟩:=pieces_t h3
            rw [show Fx.loop (fun (v:Int × Int × Int)=>match v with | (v1,v2,v3)=>Sh.trace_plainPieces_l2 m.pieces v1 v2 v3) (0,-1,0) = some g from r1] at h
            rcases r2 with ⟨rfl,r2⟩ | ⟨rfl,_⟩
            · exact ⟨c1,c2,by omega,p2,q2,r2⟩
            · simp [seq_r] at h
          · simp [seq_r] at h
        · simp [seq_r] at h
    · simp [c1,c2,seq_l,Sh.trace_plain_j1] at h
  · simp [c1,seq_l,Sh.trace_plain_j1] at h
end
end Go.Sp
end
section
namespace Go.Sp
open Go Go.Fw Go.Fx Go.Proofs
set_option linter.unusedVariables false
set_option linter.unusedSimpArgs false
theorem byteOf_band (x:Int):Fw.byteOf (band .i64 x 255) = Fw.byteOf x:=by
  have h1:(BitVec.ofInt IntKind.i64.bits x &&& BitVec.ofInt IntKind.i64.bits 255).toNat = (x % 256).toNat:=by
    show (BitVec.ofInt 64 x &&& BitVec.ofInt 64 255).toNat = (x % 256).toNat
    have e1:(BitVec.ofInt 64 255).toNat = 2 ^ 8 - 1:=by decide
    rw [BitVec.toNat_and,e1,Nat.and_two_pow_sub_one_eq_mod,BitVec.toNat_ofInt]
    omega
  have h2:band .i64 x 255 = x % 256:=by
    unfold band
    rw [h1]
    have h3:(((x % 256).toNat:Nat):Int) = x % 256:=by omega
    rw [h3]
    exact IntWalk.i64_in _ (by omega)
  rw [h2]
  unfold Fw.byteOf
  have:x % 256 % 256 = x % 256:=by omega
  rw [this]
abbrev N0:Nat:=70368744177664
theorem app1 {l m:List UInt8} (h:l.length + m.length ≤ N0):Fx.app 1 l m = some (l ++ m):=app_ok (by simp [N0] at h; omega) (by simp [N0] at h; omega)
theorem w_byte {l:List UInt8} {v:Int} (h:l.length + 1 ≤ N0):Sh.trace_writer_byte ⟨l⟩ v = some ⟨l ++ [Fw.byteOf v]⟩:=by
  unfold Sh.trace_writer_byte
  rw [app1 (by simpa using h)]; rfl
theorem w_number_loop (n:Nat) (hn:n ≤ 8):∀ (m i:Nat) (l:List UInt8) (v:Int),m + i = n → l.length + m ≤ N0 →
    Fx.loop (fun (x:QWriter × Int × Int)=>match x with | (v1,v2,v3)=>Sh.trace_writer_number_l1 (n:Int) v1 v2 v3) (⟨l⟩,v,(i:Int)) = some ⟨l ++ lows m v⟩:=by
  intro m
  induction m with
  | zero =>
    intro i l v h _
    obtain rfl:i = n:=by omega
    exact loop_out (by simp [Sh.trace_writer_number_l1,lows])
  | succ m ih =>
    intro i l v h hl
    have:=ih (i + 1) (l ++ [Fw.byteOf v]) (v.fdiv 256) (by omega) (by simp; omega)
    refine loop_go ?_ (this.trans (by simp [lows]))
    show Sh.trace_writer_number_l1 (n:Int) ⟨l⟩ v i = _
    simp only [Sh.trace_writer_number_l1,lt_dec,show i < n by omega,decide_true,cond_true,w_byte (l:=l) (v:=band .i64 v 255) (by omega),byteOf_band,Option.bind_some,next64 (show i < n by omega) (by omega)]
    rfl
theorem w_number {l:List UInt8} {v:Int} (n:Nat) (hn:n ≤ 8) (h:l.length + n ≤ N0):Sh.trace_writer_number ⟨l⟩ v (n:Int) = some ⟨l ++ lows n v⟩:=w_number_loop n hn n 0 l v (by omega) h
theorem w_two {l:List UInt8} {v:Int} (h:l.length + 2 ≤ N0):Sh.trace_writer_two ⟨l⟩ v = some ⟨l ++ lows 2 v⟩:=by
  unfold Sh.trace_writer_two; rw [show (2:Int) = ((2:Nat):Int) from rfl,w_number 2 (by omega) h]; rfl
theorem w_four {l:List UInt8} {v:Int} (h:l.length + 4 ≤ N0):Sh.trace_writer_four ⟨l⟩ v = some ⟨l ++ lows 4 v⟩:=by
  unfold Sh.trace_writer_four; rw [show (4:Int) = ((4:Nat):Int) from rfl,w_number 4 (by omega) h]; rfl
theorem w_eight {l:List UInt8} {v:Int} (h:l.length + 8 ≤ N0):Sh.trace_writer_eight ⟨l⟩ v = some ⟨l ++ lows 8 v⟩:=by
  unfold Sh.trace_writer_eight; rw [show (8:Int) = ((8:Nat):Int) from rfl,w_number 8 (by omega) h]; rfl
theorem encVal_len (v:LVal):(encVal v).length ≤ 11:=by
  unfold encVal encRest
  split <;> split <;> simp [lows_len]
theorem w_value {l:List UInt8} {v:LVal} (h:l.length + (encVal v).length ≤ N0):Sh.trace_writer_value ⟨l⟩ v = some ⟨l ++ encVal v⟩:=by
  unfold encVal encRest at h ⊢
  unfold Sh.trace_writer_value
  by_cases h5:v.kind = 5
  · simp [h5,lows_len] at h
    rw [w_byte (by omega)]
    simp only [Option.bind_some,h5,decide_true,cond_true]
    rw [w_byte (by simp; omega)]
    simp only [Option.bind_some]
    rw [w_byte (by simp; omega)]
    simp only [Option.bind_some,seq_l,Sh.trace_writer_value_j1,h5]
    rw [w_eight (by simp; omega)]
    simp
  · by_cases h0:v.kind = 0
    · simp [h0] at h
      rw [w_byte (by omega)]
      simp [h0,seq_l,Sh.trace_writer_value_j1]
    · simp [h0,h5,lows_len] at h
      rw [w_byte (by omega)]
      simp only [Option.bind_some,h5,decide_false,cond_false,seq_l,Sh.trace_writer_value_j1,h0,Bool.not_false,cond_true]
      rw [w_eight (by simp; omega)]
      simp
theorem encBytes_le (l:List UInt8) (m:Int) (n:Nat):∀ i,(encBytes l m i n).length ≤ n:=by
  induction n with
  | zero=>intro i; simp [encBytes]
  | succ n ih=>intro i; have:=ih (i + 1); simp only [encBytes,List.length_append]; split <;> simp <;> omega
theorem w_slot_loop (s:LSlot):∀ (n i:Nat) (l:List UInt8),n + i = 8 → l.length + 8 ≤ N0 → l.length + n ≤ N0 - 8 →
    Fx.loop (fun (x:QWriter × Int)=>match x with | (v1,v2)=>Sh.trace_writer_slot_l1 s v1 v2) (⟨l⟩,(i:Int)) = some ⟨l ++ encBytes s.bytes.l s.mask i n⟩:=by
  intro n
  induction n with
  | zero =>
    intro i l h _ _
    obtain rfl:i = 8:=by omega
    exact loop_out (by simp [Sh.trace_writer_slot_l1,encBytes])
  | succ n ih =>
    intro i l h hl hl2
    have hi:i < s.bytes.l.length:=by rw [s.bytes.len]; omega
    have hlt:(i:Int) < 8:=by omega
    by_cases hb:bit s.mask i = true
    · have:=ih (i + 1) (l ++ [s.bytes.l[i]]) (by omega) (by simp [N0] at hl2 ⊢; omega) (by simp; omega)
      refine loop_go ?_ (this.trans (by simp [encBytes,hb,List.getD,List.getElem?_eq_getElem hi]))
      have hb1:band .i64 (shr .i64 s.mask i) 1 = 1:=by simpa [bit] using hb
      show Sh.trace_writer_slot_l1 s ⟨l⟩ i = _
      simp only [Sh.trace_writer_slot_l1,hlt,decide_true,cond_true,get_at hi,Option.bind_some,Fx.must,Int.natCast_nonneg,Int.toNat_natCast,hb1,app1 (l:=l) (m:=[s.bytes.l[i]]) (by simp; omega),seq_l,Sh.trace_writer_slot_j2,next64 (n:=8) (show i < 8 by omega) (by omega)]
    · have:=ih (i + 1) l (by omega) hl (by omega)
      refine loop_go ?_ (this.trans (by simp [encBytes,hb]))
      have hb1:¬ band .i64 (shr .i64 s.mask i) 1 = 1:=by simpa [bit] using hb
      show Sh.trace_writer_slot_l1 s ⟨l⟩ i = _
      simp only [Sh.trace_writer_slot_l1,hlt,decide_true,cond_true,get_at hi,Option.bind_some,Fx.must,Int.natCast_nonneg,Int.toNat_natCast,hb1,decide_false,cond_false,seq_l,Sh.trace_writer_slot_j2,next64 (n:=8) (show i < 8 by omega) (by omega)]
theorem encSlot_len (s:LSlot):(encSlot s).length ≤ 11:=by
  unfold encSlot
  split
  · have:=encBytes_le s.bytes.l s.mask 8 0; simp; omega
  · exact encVal_len _
theorem w_slot {l:List UInt8} {s:LSlot} (h:l.length + 32 ≤ N0):Sh.trace_writer_slot ⟨l⟩ s = some ⟨l ++ encSlot s⟩:=by
  unfold encSlot Sh.trace_writer_slot
  by_cases h0:s.ptr.kind = 0
  · simp only [h0,decide_true,Bool.not_true,cond_false]
    rw [w_byte (by omega)]
    simp only [Option.bind_some]
    rw [w_byte (by simp; omega)]
    simp only [Option.bind_some]
    refine (w_slot_loop s 8 0 _ rfl (by simp; omega) (by simp [N0] at h ⊢; omega)).trans ?_
    simp; rfl
  · have:=encVal_len s.ptr
    simp only [h0,decide_false,Bool.not_false,cond_true]
    rw [w_value (by omega)]
    simp
theorem wloop {X γ:Type} (xs:List X) (enc:X → List UInt8) {body:QWriter × Int → Option ((QWriter × Int) ⊕ γ)} (out:QWriter → γ) (N:Nat) (hn:xs.length ≤ 4611686018427387904)
    (hs:∀ (i:Nat) (h:i < xs.length) (l:List UInt8),l.length + (enc xs[i]).length ≤ N → body (⟨l⟩,(i:Int)) = some (.inl (⟨l ++ enc xs[i]⟩,IntKind.i64.wrap ((i:Int) + 1))))
    (he:∀ l,body (⟨l⟩,(xs.length:Int)) = some (.inr (out ⟨l⟩))) (l:List UInt8) (hl:l.length + (xs.flatMap enc).length ≤ N):Fx.loop body (⟨l⟩,0) = some (out ⟨l ++ xs.flatMap enc⟩):=by
  have key:∀ (m i:Nat) (l:List UInt8),m + i = xs.length → l.length + ((xs.drop i).flatMap enc).length ≤ N → Fx.loop body (⟨l⟩,(i:Int)) = some (out ⟨l ++ (xs.drop i).flatMap enc⟩):=by
    intro m
    induction m with
    | zero =>
      intro i l h _
      obtain rfl:i = xs.length:=by omega
      rw [List.drop_length]
      simpa using loop_out (he l)
    | succ m ih =>
      intro i l h hl
      have hi:i < xs.length:=by omega
      rw [List.drop_eq_getElem_cons hi,List.flatMap_cons,List.length_append] at hl
      have:=hs i hi l (by omega)
      rw [next64 hi hn] at this
      refine loop_go this ((ih (i + 1) (l ++ enc xs[i]) (by omega) (by simp only [List.length_append]; omega)).trans ?_)
      rw [List.drop_eq_getElem_cons hi,List.flatMap_cons,List.append_assoc]
  exact key xs.length 0 l (by omega) hl
theorem flat_len {X:Type} {enc:X → List UInt8} (h:∀ x,1 ≤ (enc x).length) (xs:List X):xs.length ≤ (xs.flatMap enc).length:=by
  induction xs with
  | nil=>simp
  | cons x xs ih=>have:=h x; simp only [List.length_cons,List.flatMap_cons,List.length_append]; omega
theorem flat_le {X:Type} {enc:X → List UInt8} {xs:List X} {x:X} (h:x ∈ xs):(enc x).length ≤ (xs.flatMap enc).length:=by
  induction xs with
  | nil=>cases h
  | cons y xs ih =>
    simp only [List.flatMap_cons,List.length_append]
    rcases List.mem_cons.1 h with rfl | h
    · omega
    · have:=ih h; omega
theorem w_turns (m:QMark) (l:List UInt8) (h:l.length + (m.regs.flatMap encTurn).length ≤ N0):Fx.loop (fun (x:QWriter × Int)=>match x with | (v1,v2)=>Sh.trace_writer_mark_l3 m v1 v2) (⟨l⟩,0) = some (Sum.inl ⟨l ++ m.regs.flatMap encTurn⟩):=by
  have hx:=flat_len (enc:=encTurn) (fun x=>by simp [encTurn]) m.regs
  refine wloop m.regs encTurn Sum.inl N0 (by simp only [N0] at h; omega) (fun i hi l hl=>?_) (fun l=>?_) l h
  · show Sh.trace_writer_mark_l3 m ⟨l⟩ i = _
    generalize ht:m.regs[i] = t at hl
    simp only [encTurn,List.length_append,List.length_singleton] at hl
    simp only [Sh.trace_writer_mark_l3,lt_dec,hi,decide_true,cond_true,get_at hi,ht,Option.bind_some]
    rw [w_byte (by omega)]
    simp only [Option.bind_some]
    rw [w_value (by simp; omega)]
    simp only [Option.bind_some]
    rw [w_value (by simp; omega)]
    simp [encTurn]
  · show Sh.trace_writer_mark_l3 m ⟨l⟩ _ = _
    simp [Sh.trace_writer_mark_l3]
theorem w_cells (m:QMark) (l:List UInt8) (h:l.length + (m.slots.flatMap encCell).length ≤ N0 - 64):Fx.loop (fun (x:QWriter × Int)=>match x with | (v1,v2)=>Sh.trace_writer_mark_l5 m v1 v2) (⟨l⟩,0) = some (Sum.inl ⟨l ++ m.slots.flatMap encCell⟩):=by
  have hx:=flat_len (enc:=encCell) (fun x=>by simp [encCell]) m.slots
  refine wloop m.slots encCell Sum.inl (N0 - 64) (by simp only [N0] at h; omega) (fun i hi l hl=>?_) (fun l=>?_) l h
  · show Sh.trace_writer_mark_l5 m ⟨l⟩ i = _
    generalize ht:m.slots[i] = t at hl
    simp only [encCell,List.length_append,List.length_singleton,N0] at hl
    simp only [Sh.trace_writer_mark_l5,lt_dec,hi,decide_true,cond_true,get_at hi,ht,Option.bind_some]
    rw [w_byte (by simp only [N0]; omega)]
    simp only [Option.bind_some]
    rw [w_slot (by simp [N0]; omega)]
    simp only [Option.bind_some]
    rw [w_slot (by simp [N0]; omega)]
    simp [encCell]
  · show Sh.trace_writer_mark_l5 m ⟨l⟩ _ = _
    simp [Sh.trace_writer_mark_l5]
theorem w_pieces (m:QMark) (l:List UInt8) (h:l.length + (m.pieces.flatMap encPiece).length ≤ N0):Fx.loop (fun (x:QWriter × Int)=>match x with | (v1,v2)=>Sh.trace_writer_mark_l7 m v1 v2) (⟨l⟩,0) = some (Sum.inl ⟨l ++ m.pieces.flatMap encPiece⟩):=by
  have hx:=flat_len (enc:=encPiece) (fun x=>by simp [encPiece]) m.pieces
  refine wloop m.pieces encPiece Sum.inl N0 (by simp only [N0] at h; omega) (fun i hi l hl=>?_) (fun l=>?_) l h
  · show Sh.trace_writer_mark_l7 m ⟨l⟩ i = _
    generalize ht:m.pieces[i] = t at hl
    simp only [encPiece,List.length_append,List.length_singleton,lows_len] at hl
    simp only [Sh.trace_writer_mark_l7,lt_dec,hi,decide_true,cond_true,get_at hi,ht,Option.bind_some]
    rw [w_byte (by omega)]
    simp only [Option.bind_some]
    rw [w_two (by simp; omega)]
    simp only [Option.bind_some]
    rw [w_two (by simp [lows_len]; omega)]
    simp only [Option.bind_some]
    rw [app1 (by simp [lows_len]; omega)]
    simp only [Option.bind_some]
    rw [app1 (by simp [lows_len]; omega)]
    simp [encPiece]
  · show Sh.trace_writer_mark_l7 m ⟨l⟩ _ = _
    simp [Sh.trace_writer_mark_l7]
theorem w_sents (m:QMark) (l:List UInt8) (h:l.length + (m.sent.flatMap (lows 8)).length ≤ N0):Fx.loop (fun (x:QWriter × Int)=>match x with | (v1,v2)=>Sh.trace_writer_mark_l8 m v1 v2) (⟨l⟩,0) = some ⟨l ++ m.sent.flatMap (lows 8)⟩:=by
  have hx:=flat_len (enc:=lows 8) (fun x=>by simp [lows_len]) m.sent
  refine wloop m.sent (lows 8) id N0 (by simp only [N0] at h; omega) (fun i hi l hl=>?_) (fun l=>?_) l h
  · show Sh.trace_writer_mark_l8 m ⟨l⟩ i = _
    simp only [lows_len] at hl
    simp only [Sh.trace_writer_mark_l8,lt_dec,hi,decide_true,cond_true,get_at hi,Option.bind_some]
    rw [w_eight (by omega)]
    simp
  · show Sh.trace_writer_mark_l8 m ⟨l⟩ _ = _
    simp [Sh.trace_writer_mark_l8]
theorem w_mark {l:List UInt8} {m:QMark} (h:l.length + (encMark m).length ≤ N0 - 64):Sh.trace_writer_mark ⟨l⟩ m = some ⟨l ++ encMark m⟩:=by
  simp only [encMark,List.length_append,List.length_singleton,lows_len,N0] at h
  have hd:∀ l:List UInt8,l.length + 1 ≤ N0 → Fx.seq (bif m.done then ((Sh.trace_writer_byte ⟨l⟩ 1).bind fun y1197=>(some (Sum.inl y1197))) else ((Sh.trace_writer_byte ⟨l⟩ 0).bind fun y1201=>(some (Sum.inl y1201)))) (fun v1192=>Sh.trace_writer_mark_j1 m v1192) = Sh.trace_writer_mark_j1 m ⟨l ++ [if m.done then 1 else 0]⟩:=by
    intro l hl
    cases m.done
    · simp only [cond_false]; rw [w_byte hl]; rfl
    · simp only [cond_true]; rw [w_byte hl]; rfl
  unfold Sh.trace_writer_mark
  rw [w_two (by simp only [N0]; omega)]
  simp only [Option.bind_some]
  rw [w_two (by simp [N0,lows_len]; omega)]
  simp only [Option.bind_some]
  rw [hd _ (by simp [N0,lows_len]; omega)]
  unfold Sh.trace_writer_mark_j1
  rw [w_byte (by simp [N0,lows_len]; omega)]
  simp only [Option.bind_some]
  refine seq_eq (w_turns m _ (by simp only [List.length_append,lows_len,List.length_singleton,N0]; omega)) ?_
  simp only [Fx.fin,Sh.trace_writer_mark_j2]
  rw [w_byte (by simp only [List.length_append,lows_len,List.length_singleton,N0]; omega)]
  simp only [Option.bind_some]
  refine seq_eq (w_cells m _ (by simp only [List.length_append,lows_len,List.length_singleton,N0]; omega)) ?_
  simp only [Fx.fin,Sh.trace_writer_mark_j4]
  rw [w_four (by simp only [List.length_append,lows_len,List.length_singleton,N0]; omega)]
  simp only [Option.bind_some]
  refine seq_eq (w_pieces m _ (by simp only [List.length_append,lows_len,List.length_singleton,N0]; omega)) ?_
  simp only [Fx.fin,Sh.trace_writer_mark_j6]
  rw [w_byte (by simp only [List.length_append,lows_len,List.length_singleton,N0]; omega)]
  simp only [Option.bind_some]
  refine (w_sents m _ (by simp only [List.length_append,lows_len,List.length_singleton,N0]; omega)).trans ?_
  simp only [encMark,List.append_assoc]
end Go.Sp
end
section
namespace Go.Sp
open Go Go.Fw Go.Fx Go.Proofs
set_option linter.unusedVariables false
set_option linter.unusedSimpArgs false
theorem goodValue_ok {v:LVal} (h:GoodV v):Sh.trace_goodValue v = some true:=by
  unfold Sh.trace_goodValue
  rcases h with ⟨h1,h2,h3⟩ | rfl | ⟨h1,h2,h3⟩
  · simp [h1,within_eq,h2,h3,seq_l,Sh.trace_goodValue_j1]
  · rfl
  · have h5:¬ v.kind = 5:=by omega
    have h0:¬ v.kind = 0:=by omega
    have e:v = LVal.mk v.kind 0 0 v.x:=by cases v; simp at h2 h3; subst h2 h3; rfl
    simp only [h5,h0,decide_false,cond_false,within_eq,h1,and_self,decide_true,Option.bind_some,cond_true,seq_l,Sh.trace_goodValue_j2,← e]
theorem band_one (x:Int):band .i64 x 1 = 0 ∨ band .i64 x 1 = 1:=by
  have h1:(BitVec.ofInt IntKind.i64.bits x &&& BitVec.ofInt IntKind.i64.bits 1).toNat ≤ 1:=by
    show (BitVec.ofInt 64 x &&& BitVec.ofInt 64 1).toNat ≤ 1
    rw [BitVec.toNat_and]
    exact Nat.and_le_right
  unfold band
  generalize (BitVec.ofInt IntKind.i64.bits x &&& BitVec.ofInt IntKind.i64.bits 1).toNat = k at h1
  have:k = 0 ∨ k = 1:=by omega
  rcases this with rfl | rfl
  · left; rfl
  · right; rfl
theorem goodSlot_ok {s:LSlot} (h:GoodS s):Sh.trace_goodSlot s = some true:=by
  unfold Sh.trace_goodSlot
  rcases h with ⟨h1,h2,h3⟩ | ⟨h1,h2,h3,h4⟩
  · have h0:s.ptr.kind = 0:=by rw [h1]; rfl
    simp only [h0,decide_true,Bool.not_true,cond_false]
    obtain ⟨g,e1,e2⟩:=count_rule (body:=fun (v:Int)=>Sh.trace_goodSlot_l3 s v) 8 (fun i (a:Unit)=>(i:Int)) (fun i a=>True) (fun g=>g = Sum.inl ())
      (fun i a hi _=>.inl ⟨(),by
        have hl:i < s.bytes.l.length:=by rw [s.bytes.len]; exact hi
        have h8:(i:Int) < 8:=by omega
        simp only [Sh.trace_goodSlot_l3,h8,decide_true,cond_true,get_at hl,Option.bind_some]
        by_cases hz:((s.bytes.l[i]).toNat:Int) = 0
        · simp only [hz,decide_true,Bool.not_true,cond_false,seq_l,Sh.trace_goodSlot_j4,next64 (n:=8) hi (by omega)]
        · have hb:bit s.mask i = true:=by
            cases hb:bit s.mask i
            · have:=h3 i hi hb
              rw [List.getD_eq_getElem?_getD,List.getElem?_eq_getElem hl,Option.getD_some] at this
              rw [this] at hz; exact absurd rfl hz
            · rfl
          have hb1:band .i64 (shr .i64 s.mask i) 1 = 1:=by simpa [bit] using hb
          simp only [hz,decide_false,Bool.not_false,cond_true,Fx.must,Int.natCast_nonneg,decide_true,Int.toNat_natCast,hb1,seq_l,Sh.trace_goodSlot_j4,next64 (n:=8) hi (by omega)]
          rfl,trivial⟩)
      (fun a _=>⟨Sum.inl (),by simp [Sh.trace_goodSlot_l3],rfl⟩) 8 0 () (by omega) trivial
    subst e2
    refine seq_eq e1 ?_
    simp only [Fx.fin,Sh.trace_goodSlot_j2,h1,decide_true,cond_true,within_eq,Option.bind_some,seq_l,Sh.trace_goodSlot_j5]
    have:0 ≤ s.mask ∧ s.mask ≤ 255:=by omega
    simp [this]
  · simp only [h1,decide_false,Bool.not_false,cond_true,goodValue_ok h3,Option.bind_some,h2,← h4,decide_true,seq_l,Sh.trace_goodSlot_j1]
theorem goodMark_ok {m:QMark} (h:GoodM m):Sh.trace_goodMark m = some true:=by
  obtain ⟨h1,h2,h3,h4,h5,h6⟩:=h
  have k1:Sh.trace_goodMark_j1 m = some true:=by
    unfold Sh.trace_goodMark_j1
    obtain ⟨g,e1,e2⟩:=count_rule (body:=fun (v:Int)=>Sh.trace_goodMark_l5 m v) m.slots.length (fun i (a:Unit)=>(i:Int)) (fun i a=>True) (fun g=>g = Sum.inl ())
      (fun i a hi _=>.inl ⟨(),by
        have:=h2 m.slots[i] (List.getElem_mem hi)
        simp only [Sh.trace_goodMark_l5,lt_dec,hi,decide_true,cond_true,get_at hi,Option.bind_some,goodSlot_ok this.1,goodSlot_ok this.2,Bool.not_true,cond_false,seq_l,Sh.trace_goodMark_j6,next64 hi (show m.slots.length ≤ _ by omega)],trivial⟩)
      (fun a _=>⟨Sum.inl (),by simp [Sh.trace_goodMark_l5],rfl⟩) m.slots.length 0 () (by omega) trivial
    subst e2
    exact seq_eq e1 rfl
  unfold Sh.trace_goodMark
  simp only [h3,Option.bind_some,Bool.not_true,cond_false]
  obtain ⟨g,e1,e2⟩:=count_rule (body:=fun (v:Int)=>Sh.trace_goodMark_l2 m v) m.regs.length (fun i (a:Unit)=>(i:Int)) (fun i a=>True) (fun g=>g = Sum.inl ())
    (fun i a hi _=>.inl ⟨(),by
      have:=h1 m.regs[i] (List.getElem_mem hi)
      simp only [Sh.trace_goodMark_l2,lt_dec,hi,decide_true,cond_true,get_at hi,Option.bind_some,goodValue_ok this.1,goodValue_ok this.2,Bool.not_true,cond_false,seq_l,Sh.trace_goodMark_j3,next64 hi (show m.regs.length ≤ _ by omega)],trivial⟩)
    (fun a _=>⟨Sum.inl (),by simp [Sh.trace_goodMark_l2],rfl⟩) m.regs.length 0 () (by omega) trivial
  subst e2
  exact seq_eq e1 k1
theorem goodInput_ok {i:QInput} (h1:i.ctx.length ≤ 65535) (h2:i.tables.length ≤ 8) (h3:∀ t ∈ i.tables,t.length ≤ 65535):Sh.trace_goodInput i = some true:=by
  obtain ⟨g,e1,e2⟩:=count_rule (body:=fun (v:Int)=>Sh.trace_goodInput_l6 i v) i.tables.length (fun i (a:Unit)=>(i:Int)) (fun i a=>True) (fun g=>g = Sum.inl ())
    (fun k a hi _=>.inl ⟨(),by
      have:=h3 i.tables[k] (List.getElem_mem hi)
      have hx:¬ (65535:Int) < ((i.tables[k]).length:Int):=by omega
      simp only [Sh.trace_goodInput_l6,lt_dec,hi,decide_true,cond_true,get_at hi,Option.bind_some,hx,decide_false,seq_l,Sh.trace_goodInput_c7,cond_false,next64 hi (show i.tables.length ≤ _ by omega)],trivial⟩)
    (fun a _=>⟨Sum.inl (),by simp [Sh.trace_goodInput_l6],rfl⟩) i.tables.length 0 () (by omega) trivial
  subst e2
  unfold Sh.trace_goodInput
  have hc:¬ (65535:Int) < (i.ctx.length:Int):=by omega
  have h8:(i.tables.length:Int) ≤ 8:=by omega
  simp only [hc,decide_false,seq_l,Sh.trace_goodInput_c2,Bool.not_false,cond_true,h8,decide_true]
  have e1':Fx.loop (fun v1908=>Sh.trace_goodInput_l6 i v1908) 0 = some (Sum.inl ()):=e1
  rw [e1']
  rfl
theorem encode_ok {p:QRecord} (hp:GoodR p) (hl:(encRecord p).length ≤ 16777216):Sh.trace_Encode p = some (encRecord p,0):=by
  obtain ⟨h1,h2,h3,h4,h5⟩:=hp
  have hE:encRecord p = encRecord p:=rfl
  conv at hE=>rhs; unfold encRecord
  have hl':=hl
  rw [hE] at hl'
  simp only [List.length_append,List.length_singleton,lows_len,List.length_cons,List.length_nil] at hl'
  have hml:p.marks.length ≤ (p.marks.flatMap encMark).length:=flat_len (fun x=>by simp only [encMark,List.length_append,List.length_singleton]; omega) _
  have htl:p.in_.tables.length ≤ (p.in_.tables.flatMap encRow).length:=flat_len (fun x=>by simp only [encRow,List.length_append,lows_len]; omega) _
  unfold Sh.trace_Encode
  simp only [goodInput_ok h1 h2 h3,Option.bind_some,Bool.not_true,cond_false]
  obtain ⟨g,e1,e2⟩:=count_rule (body:=fun (v:Int)=>Sh.trace_Encode_l2 p v) p.marks.length (fun i (a:Unit)=>(i:Int)) (fun i a=>True) (fun g=>g = Sum.inl ())
    (fun i a hi _=>.inl ⟨(),by
      simp only [Sh.trace_Encode_l2,lt_dec,hi,decide_true,cond_true,get_at hi,Option.bind_some,goodMark_ok (h5 _ (List.getElem_mem hi)),Bool.not_true,cond_false,next64 hi (show p.marks.length ≤ _ by omega)],trivial⟩)
    (fun a _=>⟨Sum.inl (),by simp [Sh.trace_Encode_l2],rfl⟩) p.marks.length 0 () (by omega) trivial
  subst e2
  refine seq_eq e1 ?_
  have h4':(p.end_ = 0 ∨ (80 ≤ p.end_ ∧ p.end_ ≤ 89)) = True:=eq_true h4
  simp only [Fx.fin,Sh.trace_Encode_j1,goodEnd_eq,h4',decide_true,Option.bind_some,Bool.not_true,cond_false]
  rw [w_two (by simp [N0])]
  simp only [Option.bind_some]
  rw [app1 (by simp [N0,lows_len]; omega)]
  simp only [Option.bind_some]
  rw [w_byte (by simp [N0,lows_len]; omega)]
  simp only [Option.bind_some]
  refine seq_eq (wloop p.in_.tables encRow Sum.inl N0 (by omega) (fun i hi l hl=>?_) (fun l=>?_) _ ?_) ?_
  · show Sh.trace_Encode_l4 p ⟨l⟩ i = _
    generalize ht:p.in_.tables[i] = t at hl
    simp only [encRow,List.length_append,lows_len] at hl
    simp only [Sh.trace_Encode_l4,lt_dec,hi,decide_true,cond_true,get_at hi,ht,Option.bind_some]
    rw [w_two (by omega)]
    simp only [Option.bind_some]
    rw [app1 (by simp [lows_len]; omega)]
    simp [encRow]
  · show Sh.trace_Encode_l4 p ⟨l⟩ _ = _
    simp [Sh.trace_Encode_l4]
  · simp only [List.length_append,lows_len,List.length_singleton,N0,List.length_cons,List.length_nil]; omega
  simp only [Fx.fin,Sh.trace_Encode_j3]
  rw [w_byte (by simp only [List.length_append,lows_len,List.length_singleton,N0,List.length_cons,List.length_nil]; omega)]
  simp only [Option.bind_some]
  rw [w_four (by simp only [List.length_append,lows_len,List.length_singleton,N0,List.length_cons,List.length_nil]; omega)]
  simp only [Option.bind_some]
  refine seq_eq (wloop p.marks encMark Sum.inl 16777216 (by omega) (fun i hi l hl=>?_) (fun l=>?_) _ ?_) ?_
  · show Sh.trace_Encode_l6 p ⟨l⟩ i = _
    generalize ht:p.marks[i] = t at hl
    simp only [Sh.trace_Encode_l6,lt_dec,hi,decide_true,cond_true,get_at hi,ht,Option.bind_some]
    rw [w_mark (by simp only [N0]; omega)]
    have hx:¬ (16777216:Int) < ((l ++ encMark t).length:Int):=by simp only [List.length_append]; omega
    simp only [Option.bind_some,hx,decide_false,cond_false]
  · show Sh.trace_Encode_l6 p ⟨l⟩ _ = _
    simp [Sh.trace_Encode_l6]
  · simp only [List.length_append,lows_len,List.length_singleton,N0,List.length_cons,List.length_nil]; omega
  have hx:¬ (16777216:Int) < ((encRecord p).length:Int):=by omega
  show (bif decide ((16777216:Int) < ((encRecord p).length:Int)) then _ else some (encRecord p,(0:Int))) = _
  rw [decide_eq_false hx]; rfl
end Go.Sp
end
section
namespace Go.Sp
open Go Go.Fw Go.Fx Go.Proofs
set_option linter.unusedVariables false
set_option linter.unusedSimpArgs false
def Says (o:Option Bool) (P:Prop):Prop:=∃ t,o = some t ∧ (t = true ↔ P)
theorem Says.eq {o o':Option Bool} {P:Prop} (h:Says o P) (h':Says o' P):o = o':=by
  obtain ⟨t,rfl,ht⟩:=h
  obtain ⟨t',rfl,ht'⟩:=h'
  congr 1
  cases t <;> cases t' <;> simp_all
theorem Says.true {o:Option Bool} {P:Prop} (h:Says o P) (hp:P):o = some true:=by
  obtain ⟨t,rfl,ht⟩:=h
  rw [ht.2 hp]
theorem Says.false {o:Option Bool} {P:Prop} (h:Says o P) (hp:¬ P):o = some false:=by
  obtain ⟨t,rfl,ht⟩:=h
  cases t
  · rfl
  · exact absurd (ht.1 rfl) hp
theorem Says.of {P:Prop} [Decidable P]:Says (some (decide P)) P:=⟨_,rfl,by simp⟩
theorem scan {γ:Type} {body:Int → Option (Int ⊕ γ)} {ok bad:γ} (n:Nat) (P:Nat → Prop) (hn:n ≤ 4611686018427387904)
    (h:∀ i:Nat,i < n → (P i ∧ body (i:Int) = some (.inl (IntKind.i64.wrap ((i:Int) + 1)))) ∨ (¬ P i ∧ body (i:Int) = some (.inr bad))) (h':body (n:Int) = some (.inr ok)) :
    ∃ g,Fx.loop body 0 = some g ∧ ((g = ok ∧ ∀ i,i < n → P i) ∨ (g = bad ∧ ¬ ∀ i,i < n → P i)):=by
  refine count_rule (body:=body) n (fun i (a:Unit)=>(i:Int)) (fun i a=>∀ j,j < i → P j) _ (fun i a hi hI=>?_) (fun a hI=>⟨ok,h',.inl ⟨rfl,hI⟩⟩) n 0 () (by omega) (fun j hj=>by omega)
  rcases h i hi with ⟨hp,hb⟩ | ⟨hp,hb⟩
  · left
    refine ⟨(),by rw [hb,next64 hi hn],fun j hj=>?_⟩
    by_cases e:j = i
    · subst e; exact hp
    · exact hI j (by omega)
  · exact .inr ⟨bad,hb,.inr ⟨rfl,fun k=>hp (k i hi)⟩⟩
theorem scan2 {γ:Type} {body:Bool × Int → Option ((Bool × Int) ⊕ γ)} {ok:Bool → γ} (n:Nat) (P:Nat → Prop) (hn:n ≤ 4611686018427387904) (a:Bool)
    (h:∀ (i:Nat) (a:Bool),i < n → ∃ t,body (a,(i:Int)) = some (.inl (t,IntKind.i64.wrap ((i:Int) + 1))) ∧ (t = true ↔ a = true ∧ P i)) (h':∀ a,body (a,(n:Int)) = some (.inr (ok a))) :
    ∃ t,Fx.loop body (a,0) = some (ok t) ∧ (t = true ↔ a = true ∧ ∀ i,i < n → P i):=by
  obtain ⟨g,h1,t,rfl,h2⟩:=count_rule (body:=body) n (fun i (x:Bool)=>(x,(i:Int))) (fun i x=>(x = true ↔ a = true ∧ ∀ j,j < i → P j)) (fun g=>∃ t,g = ok t ∧ (t = true ↔ a = true ∧ ∀ i,i < n → P i))
    (fun i x hi hI=>.inl (by
      obtain ⟨t,ht,hx⟩:=h i x hi
      refine ⟨t,by rw [ht,next64 hi hn],hx.trans ?_⟩
      rw [hI]
      constructor
      · rintro ⟨⟨h1,h2⟩,h3⟩
        refine ⟨h1,fun j hj=>?_⟩
        by_cases e:j = i
        · subst e; exact h3
        · exact h2 j (by omega)
      · rintro ⟨h1,h2⟩
        exact ⟨⟨h1,fun j hj=>h2 j (by omega)⟩,h2 i (by omega)⟩))
    (fun x hI=>⟨ok x,h' x,x,rfl,hI⟩) n 0 a (by omega) (by simp)
  exact ⟨t,h1,h2⟩
theorem zero_iff {v:LVal}:v = LVal.zero ↔ v.kind = 0 ∧ v.table = 0 ∧ v.row = 0 ∧ v.x = 0:=by
  cases v; simp [LVal.zero]
theorem t_goodV (v:LVal):Says (Sh.trace_goodValue v) (GoodV v):=by
  unfold Sh.trace_goodValue GoodV
  by_cases h5:v.kind = 5
  · have hz:¬ v = LVal.zero:=fun h=>by rw [h] at h5; cases h5
    by_cases h1:0 ≤ v.table ∧ v.table ≤ 7
    · by_cases h2:0 ≤ v.row ∧ v.row ≤ 63 <;> exact ⟨_,by simp only [h5,decide_true,cond_true,within_eq,h1,h2,and_self,and_true,true_and,Option.bind_some,seq_l,Sh.trace_goodValue_j1]; rfl,by simp [h5,hz,h1,h2]⟩
    · exact ⟨_,by simp only [h5,decide_true,cond_true,within_eq,h1,decide_false,cond_false,Option.bind_some,seq_l,Sh.trace_goodValue_j1]; rfl,by simp [hz,h1]; omega⟩
  · by_cases h0:v.kind = 0
    · exact ⟨_,by simp only [h0,show ¬ (0:Int) = 5 by decide,decide_false,cond_false,decide_true,cond_true]; rfl,by simp [h0]⟩
    · have hz:¬ v = LVal.zero:=fun h=>by rw [h] at h0; exact h0 rfl
      have he:v = LVal.mk v.kind 0 0 v.x ↔ v.table = 0 ∧ v.row = 0:=by cases v; simp
      by_cases h1:1 ≤ v.kind ∧ v.kind ≤ 4
      · exact ⟨_,by simp only [h5,h0,decide_false,cond_false,within_eq,h1,and_self,decide_true,cond_true,Option.bind_some,seq_l,Sh.trace_goodValue_j2]; rfl,by rw [decide_eq_true_iff,he]; simp [h5,hz,h1]⟩
      · exact ⟨_,by simp only [h5,h0,decide_false,cond_false,within_eq,h1,Option.bind_some,seq_l,Sh.trace_goodValue_j2]; rfl,by simp [h5,hz]; omega⟩
theorem r_goodV (v:LVal):Says (Sh.ref23_goodValue v) (GoodV v):=by
  unfold Sh.ref23_goodValue GoodV
  simp only [rwithin_eq,Option.bind_some]
  by_cases hk:0 ≤ v.kind ∧ v.kind ≤ 5
  · rw [decide_eq_true hk]
    simp only [Bool.not_true,cond_false]
    by_cases h5:v.kind = 5
    · have hz:¬ v = LVal.zero:=fun h=>by rw [h] at h5; cases h5
      by_cases h1:0 ≤ v.table ∧ v.table ≤ 7
      · by_cases h2:0 ≤ v.row ∧ v.row ≤ 63 <;> exact ⟨_,by simp only [h5,decide_true,cond_true,h1,h2,and_self,and_true,true_and,Option.bind_some,seq_l,Sh.ref23_goodValue_j1]; rfl,by simp [h5,hz,h1,h2]⟩
      · exact ⟨_,by simp only [h5,decide_true,cond_true,h1,decide_false,cond_false,Option.bind_some,seq_l,Sh.ref23_goodValue_j1]; rfl,by simp [hz,h1]; omega⟩
    · rw [decide_eq_false h5]
      simp only [cond_false]
      by_cases h1:v.table = 0
      · by_cases h2:v.row = 0
        · by_cases h0:v.kind = 0
          · exact ⟨_,by simp only [h1,h2,h0,decide_true,cond_true,Bool.not_true,cond_false,seq_l,Sh.ref23_goodValue_j2]; rfl,by rw [zero_iff]; simp [h0,h1,h2]⟩
          · exact ⟨_,by simp only [h1,h2,h0,decide_true,cond_true,decide_false,Bool.not_false,seq_l,Sh.ref23_goodValue_j2]; rfl,by rw [zero_iff]; simp [h0,h1,h2]; omega⟩
        · exact ⟨_,by simp only [h1,h2,decide_true,cond_true,decide_false,cond_false,seq_l,Sh.ref23_goodValue_j2]; rfl,by rw [zero_iff]; simp [h5,h2]⟩
      · exact ⟨_,by simp only [h1,decide_false,cond_false,seq_l,Sh.ref23_goodValue_j2]; rfl,by rw [zero_iff]; simp [h5,h1]⟩
  · rw [decide_eq_false hk]
    exact ⟨false,rfl,by rw [zero_iff]; simp; omega⟩
theorem bit_zero {m:Int} {i:Nat}:band .i64 (shr .i64 m i) 1 = 0 ↔ bit m i = false:=by
  unfold bit
  rcases band_one (shr .i64 m i) with h | h <;> simp [h]
def ZeroAt (s:LSlot) (i:Nat):Prop:=bit s.mask i = false → s.bytes.l.getD i 0 = 0
theorem byte_zero {x:UInt8}:((x.toNat:Int) = 0) ↔ x = 0:=by
  constructor
  · intro h; apply UInt8.toNat_inj.1; simp; omega
  · rintro rfl; rfl
theorem t_goodS (s:LSlot):Says (Sh.trace_goodSlot s) (GoodS s):=by
  unfold Sh.trace_goodSlot GoodS
  by_cases h0:s.ptr.kind = 0
  · rw [decide_eq_true h0]
    simp only [Bool.not_true,cond_false]
    obtain ⟨g,e1,e2⟩:=scan (body:=fun (v:Int)=>Sh.trace_goodSlot_l3 s v) (ok:=Sum.inl ()) (bad:=Sum.inr false) 8 (ZeroAt s) (by omega) (fun i hi=>by
      have hl:i < s.bytes.l.length:=by rw [s.bytes.len]; exact hi
      have h8:(i:Int) < 8:=by omega
      have hd:s.bytes.l.getD i 0 = s.bytes.l[i]:=by simp [List.getD,List.getElem?_eq_getElem hl]
      simp only [Sh.trace_goodSlot_l3,h8,decide_true,cond_true,get_at hl,Option.bind_some]
      unfold ZeroAt
      rw [hd]
      by_cases hz:s.bytes.l[i] = 0
      · left
        exact ⟨fun _=>hz,by simp only [byte_zero.2 hz,decide_true,Bool.not_true,cond_false,seq_l,Sh.trace_goodSlot_j4]⟩
      · have hz':¬ ((s.bytes.l[i]).toNat:Int) = 0:=fun h=>hz (byte_zero.1 h)
        by_cases hb:bit s.mask i = false
        · right
          exact ⟨fun h=>hz (h hb),by simp only [hz',decide_false,Bool.not_false,cond_true,Fx.must,Int.natCast_nonneg,decide_true,Int.toNat_natCast,bit_zero.2 hb,seq_l,Sh.trace_goodSlot_j4]⟩
        · left
          have hb':¬ band .i64 (shr .i64 s.mask i) 1 = 0:=fun h=>hb (bit_zero.1 h)
          exact ⟨fun h=>absurd h hb,by simp only [hz',decide_false,Bool.not_false,cond_true,Fx.must,Int.natCast_nonneg,decide_true,Int.toNat_natCast,hb',seq_l,Sh.trace_goodSlot_j4,cond_false]⟩)
      (by simp [Sh.trace_goodSlot_l3])
    rw [show Fx.loop (fun v382=>Sh.trace_goodSlot_l3 s v382) 0 = some g from e1]
    rcases e2 with ⟨rfl,hz⟩ | ⟨rfl,hz⟩
    · rw [show Fx.seq (some (Sum.inl ())) (fun _=>Sh.trace_goodSlot_j2 s) = Sh.trace_goodSlot_j2 s from rfl]
      unfold Sh.trace_goodSlot_j2
      by_cases hp:s.ptr = LVal.zero
      · exact ⟨_,by simp only [hp,decide_true,cond_true,within_eq,Option.bind_some,seq_l,Sh.trace_goodSlot_j5]; rfl,by
          rw [decide_eq_true_iff]
          constructor
          · intro h; exact .inl ⟨hp,by omega,hz⟩
          · rintro (⟨_,h,_⟩ | ⟨h,_⟩)
            · omega
            · exact absurd h0 h⟩
      · exact ⟨_,by simp only [hp,decide_false,cond_false,seq_l,Sh.trace_goodSlot_j5]; rfl,by simp [hp,h0]⟩
    · exact ⟨false,rfl,by
        simp only [Bool.false_eq_true,false_iff]
        rintro (⟨_,_,h⟩ | ⟨h,_⟩)
        · exact hz h
        · exact h h0⟩
  · rw [decide_eq_false h0]
    simp only [Bool.not_false,cond_true]
    have hpz:¬ s.ptr = LVal.zero:=fun h=>h0 (by rw [h]; rfl)
    by_cases hg:GoodV s.ptr
    · rw [(t_goodV s.ptr).true hg]
      by_cases h1:s.ptr.kind = 1
      · exact ⟨false,by simp only [Option.bind_some,cond_true,h1,decide_true,Bool.not_true,cond_false,seq_l,Sh.trace_goodSlot_j1],by simp [hpz,h1]⟩
      · exact ⟨_,by simp only [Option.bind_some,cond_true,h1,decide_false,Bool.not_false,seq_l,Sh.trace_goodSlot_j1]; rfl,by simp [hpz,h1,h0,hg]⟩
    · rw [(t_goodV s.ptr).false hg]
      exact ⟨false,rfl,by simp [hpz,hg]⟩
open Classical in
theorem r_goodS (s:LSlot):Says (Sh.ref23_goodSlot s) (GoodS s):=by
  unfold Sh.ref23_goodSlot GoodS
  by_cases h0:s.ptr.kind = 0
  · rw [decide_eq_true h0]
    simp only [Bool.not_true,cond_false]
    have key:∀ c,Sh.ref23_goodSlot_j2 s c = some (!c && decide (∀ i,i < 8 → ZeroAt s i)):=by
      intro c
      cases c
      · obtain ⟨g,e1,e2⟩:=scan (body:=fun (v:Int)=>Sh.ref23_goodSlot_l4 s v) (ok:=Sum.inl ()) (bad:=Sum.inr false) 8 (ZeroAt s) (by omega) (fun i hi=>by
          have hl:i < s.bytes.l.length:=by rw [s.bytes.len]; exact hi
          have h8:(i:Int) < 8:=by omega
          have hd:s.bytes.l.getD i 0 = s.bytes.l[i]:=by simp [List.getD,List.getElem?_eq_getElem hl]
          simp only [Sh.ref23_goodSlot_l4,h8,decide_true,cond_true,Fx.must,Int.natCast_nonneg,Int.toNat_natCast]
          unfold ZeroAt
          rw [hd]
          by_cases hb:bit s.mask i = false
          · by_cases hz:s.bytes.l[i] = 0
            · left
              exact ⟨fun _=>hz,by simp only [bit_zero.2 hb,decide_true,cond_true,get_at hl,Option.bind_some,byte_zero.2 hz,Bool.not_true,seq_l,Sh.ref23_goodSlot_j5,cond_false]⟩
            · right
              have hz':¬ ((s.bytes.l[i]).toNat:Int) = 0:=fun h=>hz (byte_zero.1 h)
              exact ⟨fun h=>hz (h hb),by simp only [bit_zero.2 hb,decide_true,cond_true,get_at hl,Option.bind_some,hz',decide_false,Bool.not_false,seq_l,Sh.ref23_goodSlot_j5]⟩
          · left
            have hb':¬ band .i64 (shr .i64 s.mask i) 1 = 0:=fun h=>hb (bit_zero.1 h)
            exact ⟨fun h=>absurd h hb,by simp only [hb',decide_false,cond_false,seq_l,Sh.ref23_goodSlot_j5]⟩)
          (by simp [Sh.ref23_goodSlot_l4])
        unfold Sh.ref23_goodSlot_j2
        simp only [cond_false]
        rw [show Fx.loop (fun v496=>Sh.ref23_goodSlot_l4 s v496) 0 = some g from e1]
        rcases e2 with ⟨rfl,hz⟩ | ⟨rfl,hz⟩
        · simp [seq_l,Sh.ref23_goodSlot_j3,eq_true hz]
        · simp [seq_r,eq_false hz]
      · rfl
    by_cases hp:s.ptr = LVal.zero
    · have hp1:decide (s.ptr = LVal.zero) = true:=decide_eq_true hp
      refine ⟨_,by simp only [hp1,Bool.not_true,cond_false,rwithin_eq,Option.bind_some,seq_l,key]; rfl,?_⟩
      simp only [Bool.not_not,Bool.and_eq_true,decide_eq_true_iff]
      constructor
      · rintro ⟨h1,h2⟩; exact .inl ⟨hp,by omega,h2⟩
      · rintro (⟨_,h1,h2⟩ | ⟨h,_⟩)
        · exact ⟨by omega,h2⟩
        · exact absurd h0 h
    · have hp1:decide (s.ptr = LVal.zero) = false:=decide_eq_false hp
      exact ⟨false,by simp only [hp1,Bool.not_false,cond_true,seq_l,key]; rfl,by simp [hp,h0]⟩
  · rw [decide_eq_false h0]
    simp only [Bool.not_false,cond_true]
    have hpz:¬ s.ptr = LVal.zero:=fun h=>h0 (by rw [h]; rfl)
    by_cases hg:GoodV s.ptr
    · rw [(r_goodV s.ptr).true hg]
      by_cases h1:s.ptr.kind = 1
      · exact ⟨false,by simp only [Option.bind_some,cond_true,h1,decide_true,Bool.not_true,cond_false,seq_l,Sh.ref23_goodSlot_j1],by simp [hpz,h1]⟩
      · have hs:s = LSlot.mk s.ptr ⟨List.replicate 8 0,rfl⟩ 0 ↔ s.mask = 0 ∧ s.bytes = ⟨List.replicate 8 0,rfl⟩:=by
          cases s; simp; exact And.comm
        by_cases hm:s.mask = 0
        · exact ⟨_,by simp only [Option.bind_some,cond_true,h1,hm,decide_false,decide_true,Bool.not_false,seq_l,Sh.ref23_goodSlot_j1]; rfl,by rw [decide_eq_true_iff,hs]; simp [hpz,h1,h0,hg,hm]⟩
        · exact ⟨false,by simp only [Option.bind_some,cond_true,h1,hm,decide_false,cond_false,Bool.not_false,seq_l,Sh.ref23_goodSlot_j1],by rw [hs]; simp [hpz,hm]⟩
    · rw [(r_goodV s.ptr).false hg]
      exact ⟨false,rfl,by simp [hpz,hg]⟩
end Go.Sp
end
section
namespace Go.Sp
open Go Go.Fw Go.Fx Go.Proofs
set_option linter.unusedVariables false
set_option linter.unusedSimpArgs false
theorem all_at {X:Type} {l:List X} {Q:X → Prop}:(∀ i,i < l.length → ∀ h:i < l.length,Q l[i]) ↔ ∀ t ∈ l,Q t:=by
  constructor
  · intro h t ht
    obtain ⟨i,hi,rfl⟩:=List.mem_iff_getElem.1 ht
    exact h i hi hi
  · intro h i hi _; exact h _ (List.getElem_mem hi)
theorem rise_len {X:Type} {key:X → Int} {bad:X → Prop} {top:Int} {l:List X} (h:AllOk key bad top l l.length):(l.length:Int) ≤ top + 1 ∨ l = []:=by
  have k:∀ i (hi:i < l.length),(i:Int) ≤ key l[i]:=by
    intro i
    induction i with
    | zero=>intro hi; have:=(h 0 hi hi).lo; omega
    | succ i ih =>
      intro hi
      have h1:=ih (by omega)
      have h2:=(h (i + 1) hi hi).up (by omega)
      simp only [Nat.add_sub_cancel] at h2
      omega
  by_cases hl:l.length = 0
  · right; exact List.length_eq_zero_iff.1 hl
  · left
    have h1:=k (l.length - 1) (by omega)
    have h2:=(h (l.length - 1) (by omega) (by omega)).hi
    omega
theorem t_goodM {m:QMark} (h1:m.regs.length ≤ 1099511627776) (h2:m.slots.length ≤ 1099511627776) (h3:m.pieces.length ≤ 4294967296):Says (Sh.trace_goodMark m) (GoodM m):=by
  unfold Sh.trace_goodMark
  obtain ⟨q,hq⟩:=plain_ok (m:=m) h1 h2 (by omega)
  rw [hq]
  simp only [Option.bind_some]
  cases q
  · exact ⟨false,rfl,by simp [GoodM,hq]⟩
  · simp only [Bool.not_true,cond_false]
    have hP:=plain_true h1 h2 (by omega) hq
    have hr:=rise_len hP.regs
    have hs:=rise_len hP.slots
    have hr':m.regs.length ≤ 255:=by rcases hr with h | h; omega; simp [h]
    have hs':m.slots.length ≤ 255:=by rcases hs with h | h; omega; simp [h]
    obtain ⟨g,e1,e2⟩:=scan (body:=fun (v:Int)=>Sh.trace_goodMark_l2 m v) (ok:=Sum.inl ()) (bad:=Sum.inr false) m.regs.length (fun i=>∀ h:i < m.regs.length,GoodV m.regs[i].old ∧ GoodV m.regs[i].new) (by omega) (fun i hi=>by
      simp only [Sh.trace_goodMark_l2,lt_dec,hi,decide_true,cond_true,get_at hi,Option.bind_some]
      by_cases c1:GoodV m.regs[i].old
      · rw [(t_goodV _).true c1]
        by_cases c2:GoodV m.regs[i].new
        · rw [(t_goodV _).true c2]; exact .inl ⟨fun _=>⟨c1,c2⟩,rfl⟩
        · rw [(t_goodV _).false c2]; exact .inr ⟨fun h=>c2 (h trivial).2,rfl⟩
      · rw [(t_goodV _).false c1]; exact .inr ⟨fun h=>c1 (h trivial).1,rfl⟩) (by simp [Sh.trace_goodMark_l2])
    rw [show Fx.loop (fun v1080=>Sh.trace_goodMark_l2 m v1080) 0 = some g from e1]
    rcases e2 with ⟨rfl,ha⟩ | ⟨rfl,ha⟩
    · rw [all_at (l:=m.regs) (Q:=fun t:LTurn=>GoodV t.old ∧ GoodV t.new)] at ha
      rw [show Fx.seq (some (Sum.inl ())) (fun _=>Sh.trace_goodMark_j1 m) = Sh.trace_goodMark_j1 m from rfl]
      unfold Sh.trace_goodMark_j1
      obtain ⟨g,e1,e2⟩:=scan (body:=fun (v:Int)=>Sh.trace_goodMark_l5 m v) (ok:=Sum.inl ()) (bad:=Sum.inr false) m.slots.length (fun i=>∀ h:i < m.slots.length,GoodS m.slots[i].old ∧ GoodS m.slots[i].new) (by omega) (fun i hi=>by
        simp only [Sh.trace_goodMark_l5,lt_dec,hi,decide_true,cond_true,get_at hi,Option.bind_some]
        by_cases c1:GoodS m.slots[i].old
        · rw [(t_goodS _).true c1]
          by_cases c2:GoodS m.slots[i].new
          · rw [(t_goodS _).true c2]; exact .inl ⟨fun _=>⟨c1,c2⟩,rfl⟩
          · rw [(t_goodS _).false c2]; exact .inr ⟨fun h=>c2 (h trivial).2,rfl⟩
        · rw [(t_goodS _).false c1]; exact .inr ⟨fun h=>c1 (h trivial).1,rfl⟩) (by simp [Sh.trace_goodMark_l5])
      rw [show Fx.loop (fun v1446=>Sh.trace_goodMark_l5 m v1446) 0 = some g from e1]
      rcases e2 with ⟨rfl,hb⟩ | ⟨rfl,hb⟩
      · rw [all_at (l:=m.slots) (Q:=fun t:LCell=>GoodS t.old ∧ GoodS t.new)] at hb
        exact ⟨true,rfl,by simp only [true_iff]; exact ⟨ha,hb,hq,hr',hs',h3⟩⟩
      · rw [all_at (l:=m.slots) (Q:=fun t:LCell=>GoodS t.old ∧ GoodS t.new)] at hb
        exact ⟨false,rfl,by simp only [Bool.false_eq_true,false_iff]; exact fun h=>hb h.2.1⟩
    · rw [all_at (l:=m.regs) (Q:=fun t:LTurn=>GoodV t.old ∧ GoodV t.new)] at ha
      exact ⟨false,rfl,by simp only [Bool.false_eq_true,false_iff]; exact fun h=>ha h.1⟩
theorem r_goodM {m:QMark} (h1:m.regs.length ≤ 1099511627776) (h2:m.slots.length ≤ 1099511627776) (h3:m.pieces.length ≤ 4294967296) (h4:∀ p ∈ m.pieces,p.old.length ≤ 1099511627776):Says (Sh.ref23_goodMark m) (GoodM m):=by
  unfold Sh.ref23_goodMark
  rw [Plain_eq h1 h2 (by omega) h4]
  obtain ⟨q,hq⟩:=plain_ok (m:=m) h1 h2 (by omega)
  rw [hq]
  simp only [Option.bind_some]
  obtain ⟨t,e1,e2⟩:=scan2 (body:=fun (v:Bool × Int)=>match v with | (v754,v755)=>Sh.ref23_goodMark_l2 m v754 v755) (ok:=fun a=>Sum.inl a) m.regs.length (fun i=>∀ h:i < m.regs.length,GoodV m.regs[i].old ∧ GoodV m.regs[i].new) (by omega) q (fun i a hi=>by
    show ∃ t,Sh.ref23_goodMark_l2 m a i = _ ∧ _
    simp only [Sh.ref23_goodMark_l2,lt_dec,hi,decide_true,cond_true,get_at hi,Option.bind_some]
    cases a
    · exact ⟨false,rfl,by simp⟩
    · simp only [cond_true]
      by_cases c1:GoodV m.regs[i].old
      · rw [(r_goodV _).true c1]
        by_cases c2:GoodV m.regs[i].new
        · rw [(r_goodV _).true c2]; exact ⟨true,rfl,by simp [hi,c1,c2]⟩
        · rw [(r_goodV _).false c2]; exact ⟨false,rfl,by simp [hi,c2]⟩
      · rw [(r_goodV _).false c1]; exact ⟨false,rfl,by simp [hi,c1]⟩) (fun a=>by show Sh.ref23_goodMark_l2 m a _ = _; simp [Sh.ref23_goodMark_l2])
  rw [all_at (l:=m.regs) (Q:=fun t:LTurn=>GoodV t.old ∧ GoodV t.new)] at e2
  rw [show Fx.loop (fun (v:Bool × Int)=>match v with | (v754,v755)=>Sh.ref23_goodMark_l2 m v754 v755) (q,0) = some (Sum.inl t) from e1]
  rw [show Fx.seq (some (Sum.inl t)) (fun v697=>Sh.ref23_goodMark_j1 m v697) = Sh.ref23_goodMark_j1 m t from rfl]
  unfold Sh.ref23_goodMark_j1
  obtain ⟨u,f1,f2⟩:=scan2 (body:=fun (v:Bool × Int)=>match v with | (v754,v755)=>Sh.ref23_goodMark_l5 m v754 v755) (ok:=fun a=>Sum.inl a) m.slots.length (fun i=>∀ h:i < m.slots.length,GoodS m.slots[i].old ∧ GoodS m.slots[i].new) (by omega) t (fun i a hi=>by
    show ∃ t,Sh.ref23_goodMark_l5 m a i = _ ∧ _
    simp only [Sh.ref23_goodMark_l5,lt_dec,hi,decide_true,cond_true,get_at hi,Option.bind_some]
    cases a
    · exact ⟨false,rfl,by simp⟩
    · simp only [cond_true]
      by_cases c1:GoodS m.slots[i].old
      · rw [(r_goodS _).true c1]
        by_cases c2:GoodS m.slots[i].new
        · rw [(r_goodS _).true c2]; exact ⟨true,rfl,by simp [hi,c1,c2]⟩
        · rw [(r_goodS _).false c2]; exact ⟨false,rfl,by simp [hi,c2]⟩
      · rw [(r_goodS _).false c1]; exact ⟨false,rfl,by simp [hi,c1]⟩) (fun a=>by show Sh.ref23_goodMark_l5 m a _ = _; simp [Sh.ref23_goodMark_l5])
  rw [all_at (l:=m.slots) (Q:=fun t:LCell=>GoodS t.old ∧ GoodS t.new)] at f2
  rw [show Fx.loop (fun (v:Bool × Int)=>match v with | (v754,v755)=>Sh.ref23_goodMark_l5 m v754 v755) (t,0) = some (Sum.inl u) from f1]
  refine ⟨u,rfl,?_⟩
  rw [f2,e2]
  constructor
  · rintro ⟨⟨rfl,ha⟩,hb⟩
    have hP:=plain_true h1 h2 (by omega) hq
    have hr:=rise_len hP.regs
    have hs:=rise_len hP.slots
    exact ⟨ha,hb,hq,by rcases hr with h | h; omega; simp [h],by rcases hs with h | h; omega; simp [h],h3⟩
  · rintro ⟨ha,hb,h,_⟩
    exact ⟨⟨Option.some.inj (hq.symm.trans h),ha⟩,hb⟩
def InOk (i:QInput):Prop:=i.ctx.length ≤ 65535 ∧ i.tables.length ≤ 8 ∧ ∀ t ∈ i.tables,t.length ≤ 65535
theorem t_goodIn (i:QInput):Says (Sh.trace_goodInput i) (InOk i):=by
  unfold Sh.trace_goodInput InOk
  by_cases c1:i.ctx.length ≤ 65535
  · have d1:decide ((65535:Int) < (i.ctx.length:Int)) = false:=decide_eq_false (by omega)
    by_cases c2:i.tables.length ≤ 8
    · have d2:decide ((i.tables.length:Int) ≤ 8) = true:=decide_eq_true (by omega)
      simp only [d1,seq_l,Sh.trace_goodInput_c2,Bool.not_false,cond_true,d2]
      obtain ⟨g,e1,e2⟩:=count_rule (body:=fun (v:Int)=>Sh.trace_goodInput_l6 i v) i.tables.length (fun k (a:Unit)=>(k:Int)) (fun k a=>∀ j,j < k → ∀ h:j < i.tables.length,(i.tables[j]).length ≤ 65535)
        (fun g=>(g = Sum.inl () ∧ ∀ t ∈ i.tables,t.length ≤ 65535) ∨ (∃ k:Nat,g = Sum.inr (Sum.inl (k:Int))) ∧ ¬ ∀ t ∈ i.tables,t.length ≤ 65535)
        (fun k a hk hI=>by
          simp only [Sh.trace_goodInput_l6,lt_dec,hk,decide_true,cond_true,get_at hk,Option.bind_some,seq_l,Sh.trace_goodInput_c7]
          by_cases c3:(i.tables[k]).length ≤ 65535
          · left
            have d3:decide ((65535:Int) < ((i.tables[k]).length:Int)) = false:=decide_eq_false (by omega)
            refine ⟨(),by rw [d3,cond_false,next64 hk (by omega)],fun j hj h=>?_⟩
            by_cases e:j = k
            · subst e; exact c3
            · exact hI j (by omega) h
          · right
            have d3:decide ((65535:Int) < ((i.tables[k]).length:Int)) = true:=decide_eq_true (by omega)
            exact ⟨_,by rw [d3,cond_true],.inr ⟨⟨k,rfl⟩,fun h=>c3 (h _ (List.getElem_mem hk))⟩⟩)
        (fun a hI=>⟨Sum.inl (),by simp [Sh.trace_goodInput_l6],.inl ⟨rfl,all_at.1 hI⟩⟩) i.tables.length 0 () (by omega) (fun j hj=>by omega)
      rw [show Fx.loop (fun v1908=>Sh.trace_goodInput_l6 i v1908) 0 = some g from e1]
      rcases e2 with ⟨rfl,ha⟩ | ⟨⟨k,rfl⟩,ha⟩
      · exact ⟨true,rfl,by simp only [true_iff]; exact ⟨c1,c2,ha⟩⟩
      · refine ⟨false,?_,by simp only [Bool.false_eq_true,false_iff]; exact fun h=>ha h.2.2⟩
        have dk:decide (0 ≤ (k:Int)) = true:=decide_eq_true (by omega)
        simp only [seq_r,seq_l,Sh.trace_goodInput_c4,dk,Sh.trace_goodInput_c3,Sh.trace_goodInput_j1,Bool.not_true]
    · have d2:decide ((i.tables.length:Int) ≤ 8) = false:=decide_eq_false (by omega)
      exact ⟨false,by simp only [d1,seq_l,Sh.trace_goodInput_c2,Bool.not_false,cond_true,d2,cond_false,Sh.trace_goodInput_j1],by simp only [Bool.false_eq_true,false_iff]; exact fun h=>c2 h.2.1⟩
  · have d1:decide ((65535:Int) < (i.ctx.length:Int)) = true:=decide_eq_true (by omega)
    exact ⟨false,by simp only [d1,seq_l,Sh.trace_goodInput_c2,Bool.not_true,cond_false,Sh.trace_goodInput_j1],by simp only [Bool.false_eq_true,false_iff]; exact fun h=>c1 h.1⟩
theorem r_goodIn (i:QInput):Says (Sh.ref23_inputPlain i) (InOk i):=by
  unfold Sh.ref23_inputPlain InOk
  by_cases c1:i.ctx.length ≤ 65535
  · have d1:decide ((65535:Int) < (i.ctx.length:Int)) = false:=decide_eq_false (by omega)
    by_cases c2:i.tables.length ≤ 8
    · have d2:decide ((8:Int) < (i.tables.length:Int)) = false:=decide_eq_false (by omega)
      simp only [d1,d2,cond_false,seq_l,Sh.ref23_inputPlain_j1]
      obtain ⟨g,e1,e2⟩:=scan (body:=fun (v:Int)=>Sh.ref23_inputPlain_l3 i v) (ok:=Sum.inl ()) (bad:=Sum.inr false) i.tables.length (fun k=>∀ h:k < i.tables.length,(i.tables[k]).length ≤ 65535) (by omega) (fun k hk=>by
        simp only [Sh.ref23_inputPlain_l3,lt_dec,hk,decide_true,cond_true,get_at hk,Option.bind_some]
        by_cases c3:(i.tables[k]).length ≤ 65535
        · exact .inl ⟨fun _=>c3,by rw [decide_eq_false (by omega),cond_false]⟩
        · exact .inr ⟨fun h=>c3 (h trivial),by rw [decide_eq_true (by omega),cond_true]⟩) (by simp [Sh.ref23_inputPlain_l3])
      rw [all_at (l:=i.tables) (Q:=fun t:List UInt8=>t.length ≤ 65535)] at e2
      rw [show Fx.loop (fun v140=>Sh.ref23_inputPlain_l3 i v140) 0 = some g from e1]
      rcases e2 with ⟨rfl,ha⟩ | ⟨rfl,ha⟩
      · exact ⟨true,rfl,by simp only [true_iff]; exact ⟨c1,c2,ha⟩⟩
      · exact ⟨false,rfl,by simp only [Bool.false_eq_true,false_iff]; exact fun h=>ha h.2.2⟩
    · have d2:decide ((8:Int) < (i.tables.length:Int)) = true:=decide_eq_true (by omega)
      exact ⟨false,by simp only [d1,d2,cond_false,seq_l,Sh.ref23_inputPlain_j1,cond_true],by simp only [Bool.false_eq_true,false_iff]; exact fun h=>c2 h.2.1⟩
  · have d1:decide ((65535:Int) < (i.ctx.length:Int)) = true:=decide_eq_true (by omega)
    exact ⟨false,by simp only [d1,cond_true,seq_l,Sh.ref23_inputPlain_j1],by simp only [Bool.false_eq_true,false_iff]; exact fun h=>c1 h.1⟩
theorem r_goodEnd (x:Int):Sh.ref23_goodEnd x = some (decide (x = 0 ∨ (80 ≤ x ∧ x ≤ 89))):=by
  unfold Sh.ref23_goodEnd
  by_cases h:x = 0
  · simp [h,seq_l,Sh.ref23_goodEnd_j1]
  · by_cases h':80 ≤ x <;> simp [h,h',rwithin_eq,seq_l,Sh.ref23_goodEnd_j1]
end Go.Sp
end
section
namespace Go.Sp
open Go Go.Fw Go.Fx Go.Proofs
set_option linter.unusedVariables false
set_option linter.unusedSimpArgs false
theorem r_low_loop (n:Nat) (hn:n ≤ 8):∀ (m i:Nat) (l:List UInt8) (v:Int),m + i = n → l.length + m ≤ N0 →
    Fx.loop (fun (x:List UInt8 × Int × Int)=>match x with | (v1,v2,v3)=>Sh.ref23_low_l2 (n:Int) v1 v2 v3) (l,v,(i:Int)) = some (Sum.inl (l ++ lows m v)):=by
  intro m
  induction m with
  | zero =>
    intro i l v h _
    obtain rfl:i = n:=by omega
    exact loop_out (by simp [Sh.ref23_low_l2,lows])
  | succ m ih =>
    intro i l v h hl
    have:=ih (i + 1) (l ++ [Fw.byteOf v]) (v.fdiv 256) (by omega) (by simp; omega)
    refine loop_go ?_ (this.trans (by simp [lows]))
    show Sh.ref23_low_l2 (n:Int) l v i = _
    simp only [Sh.ref23_low_l2,lt_dec,show i < n by omega,decide_true,cond_true,app1 (l:=l) (m:=[Fw.byteOf v]) (by simp; omega),Option.bind_some,next64 (show i < n by omega) (by omega)]
    rfl
theorem r_low {l:List UInt8} {v:Int} (n:Nat) (hn:n ≤ 8) (h:l.length + n ≤ N0):Sh.ref23_low l v (n:Int) = some (l ++ lows n v):=by
  unfold Sh.ref23_low
  exact seq_eq (r_low_loop n hn n 0 l v (by omega) h) rfl
theorem r_two {l:List UInt8} {v:Int} (h:l.length + 2 ≤ N0):Sh.ref23_low l v 2 = some (l ++ lows 2 v):=r_low 2 (by omega) h
theorem r_four {l:List UInt8} {v:Int} (h:l.length + 4 ≤ N0):Sh.ref23_low l v 4 = some (l ++ lows 4 v):=r_low 4 (by omega) h
theorem r_eight {l:List UInt8} {v:Int} (h:l.length + 8 ≤ N0):Sh.ref23_low l v 8 = some (l ++ lows 8 v):=r_low 8 (by omega) h
theorem r_value {l:List UInt8} {v:LVal} (h:l.length + 16 ≤ N0):Sh.ref23_value2 l v = some (l ++ encVal v):=by
  unfold encVal encRest Sh.ref23_value2
  rw [app1 (by simp; omega)]
  simp only [Option.bind_some]
  by_cases h5:v.kind = 5
  · simp only [h5,decide_true,cond_true]
    rw [app1 (by simp; omega)]
    simp only [Option.bind_some,seq_l,Sh.ref23_value2_j1,h5,show ¬ (5:Int) = 0 by decide,decide_false,Bool.not_false,cond_true]
    rw [r_eight (by simp; omega)]
    simp [seq_l,Sh.ref23_value2_j2]
  · by_cases h0:v.kind = 0
    · simp [h0,seq_l,Sh.ref23_value2_j1,Sh.ref23_value2_j2]
    · simp only [h5,decide_false,cond_false,seq_l,Sh.ref23_value2_j1,h0,Bool.not_false,cond_true]
      rw [r_eight (by simp; omega)]
      simp [seq_l,Sh.ref23_value2_j2]
theorem r_slot_loop (s:LSlot):∀ (n i:Nat) (l:List UInt8),n + i = 8 → l.length + n ≤ N0 - 8 →
    Fx.loop (fun (x:List UInt8 × Int)=>match x with | (v1,v2)=>Sh.ref23_slot2_l2 s v1 v2) (l,(i:Int)) = some (Sum.inl (l ++ encBytes s.bytes.l s.mask i n)):=by
  intro n
  induction n with
  | zero =>
    intro i l h _
    obtain rfl:i = 8:=by omega
    exact loop_out (by simp [Sh.ref23_slot2_l2,encBytes])
  | succ n ih =>
    intro i l h hl
    have hi:i < s.bytes.l.length:=by rw [s.bytes.len]; omega
    have hlt:(i:Int) < 8:=by omega
    by_cases hb:bit s.mask i = true
    · have:=ih (i + 1) (l ++ [s.bytes.l[i]]) (by omega) (by simp; omega)
      refine loop_go ?_ (this.trans (by simp [encBytes,hb,List.getD,List.getElem?_eq_getElem hi]))
      have hb1:band .i64 (shr .i64 s.mask i) 1 = 1:=by simpa [bit] using hb
      show Sh.ref23_slot2_l2 s l i = _
      simp only [Sh.ref23_slot2_l2,hlt,decide_true,cond_true,get_at hi,Option.bind_some,Fx.must,Int.natCast_nonneg,Int.toNat_natCast,hb1,app1 (l:=l) (m:=[s.bytes.l[i]]) (by simp; omega),seq_l,Sh.ref23_slot2_j3,next64 (n:=8) (show i < 8 by omega) (by omega)]
    · have:=ih (i + 1) l (by omega) (by omega)
      refine loop_go ?_ (this.trans (by simp [encBytes,hb]))
      have hb1:¬ band .i64 (shr .i64 s.mask i) 1 = 1:=by simpa [bit] using hb
      show Sh.ref23_slot2_l2 s l i = _
      simp only [Sh.ref23_slot2_l2,hlt,decide_true,cond_true,get_at hi,Option.bind_some,Fx.must,Int.natCast_nonneg,Int.toNat_natCast,hb1,decide_false,cond_false,seq_l,Sh.ref23_slot2_j3,next64 (n:=8) (show i < 8 by omega) (by omega)]
theorem r_slot {l:List UInt8} {s:LSlot} (h:l.length + 32 ≤ N0):Sh.ref23_slot2 l s = some (l ++ encSlot s):=by
  unfold encSlot Sh.ref23_slot2
  by_cases h0:s.ptr.kind = 0
  · simp only [h0,decide_true,Bool.not_true,cond_false]
    rw [app1 (by simp; omega)]
    simp only [Option.bind_some]
    refine seq_eq (r_slot_loop s 8 0 _ rfl (by simp [N0] at h ⊢; omega)) ?_
    simp [Fx.fin,Sh.ref23_slot2_j1]
  · simp only [h0,decide_false,Bool.not_false,cond_true]
    rw [r_value (by omega)]
    simp
theorem rloop {X γ:Type} (xs:List X) (enc:X → List UInt8) {body:List UInt8 × Int → Option ((List UInt8 × Int) ⊕ γ)} (out:List UInt8 → γ) (N:Nat) (hn:xs.length ≤ 4611686018427387904)
    (hs:∀ (i:Nat) (h:i < xs.length) (l:List UInt8),l.length + (enc xs[i]).length ≤ N → body (l,(i:Int)) = some (.inl (l ++ enc xs[i],IntKind.i64.wrap ((i:Int) + 1))))
    (he:∀ l,body (l,(xs.length:Int)) = some (.inr (out l))) (l:List UInt8) (hl:l.length + (xs.flatMap enc).length ≤ N):Fx.loop body (l,0) = some (out (l ++ xs.flatMap enc)):=by
  have key:∀ (m i:Nat) (l:List UInt8),m + i = xs.length → l.length + ((xs.drop i).flatMap enc).length ≤ N → Fx.loop body (l,(i:Int)) = some (out (l ++ (xs.drop i).flatMap enc)):=by
    intro m
    induction m with
    | zero =>
      intro i l h _
      obtain rfl:i = xs.length:=by omega
      rw [List.drop_length]
      simpa using loop_out (he l)
    | succ m ih =>
      intro i l h hl
      have hi:i < xs.length:=by omega
      rw [List.drop_eq_getElem_cons hi,List.flatMap_cons,List.length_append] at hl
      have:=hs i hi l (by omega)
      rw [next64 hi hn] at this
      refine loop_go this ((ih (i + 1) (l ++ enc xs[i]) (by omega) (by simp only [List.length_append]; omega)).trans ?_)
      rw [List.drop_eq_getElem_cons hi,List.flatMap_cons,List.append_assoc]
  exact key xs.length 0 l (by omega) hl
theorem r_mark {l:List UInt8} {m:QMark} (h:l.length + (encMark m).length ≤ N0 - 64):Sh.ref23_mark l m = some (l ++ encMark m):=by
  have x1:=flat_len (enc:=encTurn) (fun x=>by simp [encTurn]) m.regs
  have x2:=flat_len (enc:=encCell) (fun x=>by simp [encCell]) m.slots
  have x3:=flat_len (enc:=encPiece) (fun x=>by simp [encPiece]) m.pieces
  have x4:=flat_len (enc:=lows 8) (fun x=>by simp [lows_len]) m.sent
  simp only [encMark,List.length_append,List.length_singleton,lows_len,N0] at h
  unfold Sh.ref23_mark
  rw [r_two (by simp only [N0]; omega)]
  simp only [Option.bind_some]
  rw [r_two (by simp [N0,lows_len]; omega)]
  simp only [Option.bind_some]
  have hd:∀ l,Fx.seq (bif m.done then (some (Sum.inl 1)) else (some (Sum.inl 0))) (fun v1305=>Sh.ref23_mark_j1 m l v1305) = Sh.ref23_mark_j1 m l (if m.done then 1 else 0):=by
    intro l; cases m.done <;> rfl
  have hd':Fw.byteOf (if m.done then 1 else 0) = if m.done then 1 else 0:=by cases m.done <;> rfl
  rw [hd]
  unfold Sh.ref23_mark_j1
  rw [hd',app1 (by simp [N0,lows_len]; omega)]
  simp only [Option.bind_some]
  refine seq_eq (rloop m.regs encTurn Sum.inl (N0 - 64) (by omega) (fun i hi l hl=>?_) (fun l=>?_) _ (by simp only [List.length_append,lows_len,List.length_singleton,N0,List.length_cons,List.length_nil]; omega)) ?_
  · show Sh.ref23_mark_l3 m l i = _
    generalize ht:m.regs[i] = t at hl
    simp only [encTurn,List.length_append,List.length_singleton,N0] at hl
    have k1:=encVal_len t.old
    have k2:1 ≤ (encVal t.new).length:=by simp [encVal]
    simp only [Sh.ref23_mark_l3,lt_dec,hi,decide_true,cond_true,get_at hi,ht,Option.bind_some]
    rw [app1 (by simp [N0]; omega)]
    simp only [Option.bind_some]
    rw [r_value (by simp [N0]; omega)]
    simp only [Option.bind_some]
    rw [r_value (by simp [N0]; omega)]
    simp [encTurn]
  · show Sh.ref23_mark_l3 m l _ = _
    simp [Sh.ref23_mark_l3]
  simp only [Fx.fin,Sh.ref23_mark_j2]
  rw [app1 (by simp only [List.length_append,lows_len,List.length_singleton,N0,List.length_cons,List.length_nil]; omega)]
  simp only [Option.bind_some]
  refine seq_eq (rloop m.slots encCell Sum.inl (N0 - 64) (by omega) (fun i hi l hl=>?_) (fun l=>?_) _ (by simp only [List.length_append,lows_len,List.length_singleton,N0,List.length_cons,List.length_nil]; omega)) ?_
  · show Sh.ref23_mark_l5 m l i = _
    generalize ht:m.slots[i] = t at hl
    simp only [encCell,List.length_append,List.length_singleton,N0] at hl
    have k1:=encSlot_len t.old
    simp only [Sh.ref23_mark_l5,lt_dec,hi,decide_true,cond_true,get_at hi,ht,Option.bind_some]
    rw [app1 (by simp [N0]; omega)]
    simp only [Option.bind_some]
    rw [r_slot (by simp [N0]; omega)]
    simp only [Option.bind_some]
    rw [r_slot (by simp [N0]; omega)]
    simp [encCell]
  · show Sh.ref23_mark_l5 m l _ = _
    simp [Sh.ref23_mark_l5]
  simp only [Fx.fin,Sh.ref23_mark_j4]
  rw [r_four (by simp only [List.length_append,lows_len,List.length_singleton,N0,List.length_cons,List.length_nil]; omega)]
  simp only [Option.bind_some]
  refine seq_eq (rloop m.pieces encPiece Sum.inl (N0 - 64) (by omega) (fun i hi l hl=>?_) (fun l=>?_) _ (by simp only [List.length_append,lows_len,List.length_singleton,N0,List.length_cons,List.length_nil]; omega)) ?_
  · show Sh.ref23_mark_l7 m l i = _
    generalize ht:m.pieces[i] = t at hl
    simp only [encPiece,List.length_append,List.length_singleton,N0,lows_len] at hl
    simp only [Sh.ref23_mark_l7,lt_dec,hi,decide_true,cond_true,get_at hi,ht,Option.bind_some]
    rw [app1 (by simp [N0]; omega)]
    simp only [Option.bind_some]
    rw [r_two (by simp [N0]; omega)]
    simp only [Option.bind_some]
    rw [r_two (by simp [N0,lows_len]; omega)]
    simp only [Option.bind_some]
    rw [app1 (by simp [N0,lows_len]; omega)]
    simp only [Option.bind_some]
    rw [app1 (by simp [N0,lows_len]; omega)]
    simp [encPiece]
  · show Sh.ref23_mark_l7 m l _ = _
    simp [Sh.ref23_mark_l7]
  simp only [Fx.fin,Sh.ref23_mark_j6]
  rw [app1 (by simp only [List.length_append,lows_len,List.length_singleton,N0,List.length_cons,List.length_nil]; omega)]
  simp only [Option.bind_some]
  refine seq_eq (rloop m.sent (lows 8) Sum.inl (N0 - 64) (by omega) (fun i hi l hl=>?_) (fun l=>?_) _ (by simp only [List.length_append,lows_len,List.length_singleton,N0,List.length_cons,List.length_nil]; omega)) ?_
  · show Sh.ref23_mark_l9 m l i = _
    simp only [lows_len,N0] at hl
    simp only [Sh.ref23_mark_l9,lt_dec,hi,decide_true,cond_true,get_at hi,Option.bind_some]
    rw [r_eight (by simp only [N0]; omega)]
    simp
  · show Sh.ref23_mark_l9 m l _ = _
    simp [Sh.ref23_mark_l9]
  simp only [Fx.fin,Sh.ref23_mark_j8,encMark]
  simp only [List.append_assoc,List.cons_append,List.nil_append,List.singleton_append]
structure SmallE (p:QRecord):Prop where
  all:(encRecord p).length ≤ 1099511627776
  regs:∀ m ∈ p.marks,m.regs.length ≤ 1099511627776
  pieces:∀ m ∈ p.marks,m.pieces.length ≤ 4294967295
theorem enc_parts (p:QRecord):(encRecord p).length = 4 + 2 + p.in_.ctx.length + 1 + (p.in_.tables.flatMap encRow).length + 1 + 4 + (p.marks.flatMap encMark).length:=by
  simp only [encRecord,List.length_append,List.length_singleton,lows_len,List.length_cons,List.length_nil]
def EncSays (p:QRecord) (o:List UInt8 × Int):Prop:=(o.2 ≠ 0 ∧ o.1 = []) ∨ (o = (encRecord p,0) ∧ GoodR p ∧ (encRecord p).length ≤ 16777216)
theorem enc_eq {p:QRecord} (hs:SmallE p):∃ o,Sh.trace_Encode p = some o ∧ Sh.ref23_Encode p = some o ∧ EncSays p o:=by
  have hA:=hs.all
  have hE:=enc_parts p
  have hml:p.marks.length ≤ (p.marks.flatMap encMark).length:=flat_len (fun x=>by simp only [encMark,List.length_append,List.length_singleton]; omega) _
  have htl:p.in_.tables.length ≤ (p.in_.tables.flatMap encRow).length:=flat_len (fun x=>by simp only [encRow,List.length_append,lows_len]; omega) _
  have hm1:∀ m ∈ p.marks,(encMark m).length ≤ 1099511627776:=fun m hm=>by have:=flat_le (enc:=encMark) hm; omega
  have hms:∀ m ∈ p.marks,m.regs.length ≤ 1099511627776 ∧ m.slots.length ≤ 1099511627776 ∧ m.pieces.length ≤ 4294967295 ∧ ∀ q ∈ m.pieces,q.old.length ≤ 1099511627776:=fun m hm=>by
    have h1:=hm1 m hm
    have x2:=flat_len (enc:=encCell) (fun x=>by simp [encCell]) m.slots
    have e:(encMark m).length = (encMark m).length:=rfl
    conv at e=>rhs; unfold encMark
    simp only [List.length_append,List.length_singleton,lows_len] at e
    refine ⟨hs.regs m hm,by omega,hs.pieces m hm,fun q hq=>?_⟩
    have:=flat_le (enc:=encPiece) hq
    have e':(encPiece q).length = 1 + 2 + 2 + q.old.length + q.new.length:=by simp only [encPiece,List.length_append,List.length_singleton,lows_len]
    omega
  unfold Sh.trace_Encode Sh.ref23_Encode
  by_cases c1:InOk p.in_
  · rw [(t_goodIn _).true c1,(r_goodIn _).true c1]
    simp only [Option.bind_some,Bool.not_true,cond_false]
    obtain ⟨g,e1,e2⟩:=scan (body:=fun (v:Int)=>Sh.trace_Encode_l2 p v) (ok:=Sum.inl ()) (bad:=Sum.inr (([]:List UInt8),(230:Int))) p.marks.length (fun i=>∀ h:i < p.marks.length,GoodM p.marks[i]) (by omega) (fun i hi=>by
      obtain ⟨k1,k2,k3,k4⟩:=hms _ (List.getElem_mem hi)
      simp only [Sh.trace_Encode_l2,lt_dec,hi,decide_true,cond_true,get_at hi,Option.bind_some]
      by_cases c:GoodM p.marks[i]
      · rw [(t_goodM k1 k2 (by omega)).true c]; exact .inl ⟨fun _=>c,rfl⟩
      · rw [(t_goodM k1 k2 (by omega)).false c]; exact .inr ⟨fun h=>c (h trivial),rfl⟩) (by simp [Sh.trace_Encode_l2])
    obtain ⟨g',e1',e2'⟩:=scan (body:=fun (v:Int)=>Sh.ref23_Encode_l2 p v) (ok:=Sum.inl ()) (bad:=Sum.inr (([]:List UInt8),(230:Int))) p.marks.length (fun i=>∀ h:i < p.marks.length,GoodM p.marks[i]) (by omega) (fun i hi=>by
      obtain ⟨k1,k2,k3,k4⟩:=hms _ (List.getElem_mem hi)
      simp only [Sh.ref23_Encode_l2,lt_dec,hi,decide_true,cond_true,get_at hi,Option.bind_some]
      by_cases c:GoodM p.marks[i]
      · rw [(r_goodM k1 k2 (by omega) k4).true c]; exact .inl ⟨fun _=>c,rfl⟩
      · rw [(r_goodM k1 k2 (by omega) k4).false c]; exact .inr ⟨fun h=>c (h trivial),rfl⟩) (by simp [Sh.ref23_Encode_l2])
    rw [show Fx.loop (fun v1152=>Sh.trace_Encode_l2 p v1152) 0 = some g from e1,show Fx.loop (fun v1073=>Sh.ref23_Encode_l2 p v1073) 0 = some g' from e1']
    rw [all_at (l:=p.marks) (Q:=fun t:QMark=>GoodM t)] at e2 e2'
    rcases e2 with ⟨rfl,ha⟩ | ⟨rfl,ha⟩ <;> rcases e2' with ⟨rfl,ha'⟩ | ⟨rfl,ha'⟩
    · rw [show Fx.seq (some (Sum.inl ())) (fun _=>Sh.trace_Encode_j1 p) = Sh.trace_Encode_j1 p from rfl,show Fx.seq (some (Sum.inl ())) (fun _=>Sh.ref23_Encode_j1 p) = Sh.ref23_Encode_j1 p from rfl]
      unfold Sh.trace_Encode_j1 Sh.ref23_Encode_j1
      rw [goodEnd_eq,r_goodEnd]
      simp only [Option.bind_some]
      by_cases c2:p.end_ = 0 ∨ (80 ≤ p.end_ ∧ p.end_ ≤ 89)
      · rw [decide_eq_true c2]
        simp only [Bool.not_true,cond_false]
        have hg:GoodR p:=⟨c1.1,c1.2.1,c1.2.2,c2,ha⟩
        -- the reference
        have hr:(Sh.ref23_low [84,82,67,49] (p.in_.ctx.length:Int) 2).bind (fun y1113=>(Fx.app 1 y1113 p.in_.ctx).bind fun x1117=>(Fx.app 1 x1117 [Fw.byteOf (p.in_.tables.length:Int)]).bind fun x1119=>Fx.seq (Fx.loop (fun (v:List UInt8 × Int)=>match v with | (v1287,v1290)=>Sh.ref23_Encode_l4 p v1287 v1290) (x1119,0)) fun v1244=>Sh.ref23_Encode_j3 p v1244) = Sh.ref23_Encode_j5 (encRecord p):=by
          rw [r_two (by simp [N0])]
          simp only [Option.bind_some]
          rw [app1 (by simp [N0,lows_len]; omega)]
          simp only [Option.bind_some]
          rw [app1 (by simp [N0,lows_len]; omega)]
          simp only [Option.bind_some]
          refine seq_eq (rloop p.in_.tables encRow Sum.inl (N0 - 64) (by omega) (fun i hi l hl=>?_) (fun l=>?_) _ (by simp only [List.length_append,lows_len,List.length_singleton,N0,List.length_cons,List.length_nil]; omega)) ?_
          · show Sh.ref23_Encode_l4 p l i = _
            generalize ht:p.in_.tables[i] = t at hl
            simp only [encRow,List.length_append,lows_len,N0] at hl
            simp only [Sh.ref23_Encode_l4,lt_dec,hi,decide_true,cond_true,get_at hi,ht,Option.bind_some]
            rw [r_two (by simp only [N0]; omega)]
            simp only [Option.bind_some]
            rw [app1 (by simp [lows_len,N0]; omega)]
            simp [encRow]
          · show Sh.ref23_Encode_l4 p l _ = _
            simp [Sh.ref23_Encode_l4]
          simp only [Fx.fin,Sh.ref23_Encode_j3]
          rw [app1 (by simp only [List.length_append,lows_len,List.length_singleton,N0,List.length_cons,List.length_nil]; omega)]
          simp only [Option.bind_some]
          rw [r_four (by simp only [List.length_append,lows_len,List.length_singleton,N0,List.length_cons,List.length_nil]; omega)]
          simp only [Option.bind_some]
          refine seq_eq (rloop p.marks encMark Sum.inl (N0 - 64) (by omega) (fun i hi l hl=>?_) (fun l=>?_) _ (by simp only [List.length_append,lows_len,List.length_singleton,N0,List.length_cons,List.length_nil]; omega)) ?_
          · show Sh.ref23_Encode_l6 p l i = _
            generalize ht:p.marks[i] = t at hl
            simp only [Sh.ref23_Encode_l6,lt_dec,hi,decide_true,cond_true,get_at hi,ht,Option.bind_some]
            rw [r_mark hl]
            rfl
          · show Sh.ref23_Encode_l6 p l _ = _
            simp [Sh.ref23_Encode_l6]
          rfl
        rw [hr]
        by_cases hlong:(encRecord p).length ≤ 16777216
        · refine ⟨(encRecord p,0),?_,?_,.inr ⟨rfl,hg,hlong⟩⟩
          · have:=encode_ok hg hlong
            unfold Sh.trace_Encode at this
            rw [(t_goodIn _).true c1] at this
            simp only [Option.bind_some,Bool.not_true,cond_false] at this
            rw [show Fx.loop (fun v1152=>Sh.trace_Encode_l2 p v1152) 0 = some (Sum.inl ()) from e1,show Fx.seq (some (Sum.inl ())) (fun _=>Sh.trace_Encode_j1 p) = Sh.trace_Encode_j1 p from rfl] at this
            unfold Sh.trace_Encode_j1 at this
            rw [goodEnd_eq,decide_eq_true c2] at this
            simp only [Option.bind_some,Bool.not_true,cond_false] at this
            exact this
          · have hx:decide ((16777216:Int) < ((encRecord p).length:Int)) = false:=decide_eq_false (by omega)
            simp only [Sh.ref23_Encode_j5,hx,cond_false]
        · have hx:decide ((16777216:Int) < ((encRecord p).length:Int)) = true:=decide_eq_true (by omega)
          refine ⟨([],2),?_,by simp only [Sh.ref23_Encode_j5,hx,cond_true],.inl ⟨by decide,rfl⟩⟩
          rw [w_two (by simp [N0])]
          simp only [Option.bind_some]
          rw [app1 (by simp [N0,lows_len]; omega)]
          simp only [Option.bind_some]
          rw [w_byte (by simp [N0,lows_len]; omega)]
          simp only [Option.bind_some]
          refine seq_eq (wloop p.in_.tables encRow Sum.inl N0 (by omega) (fun i hi l hl=>?_) (fun l=>?_) _ ?_) ?_
          · show Sh.trace_Encode_l4 p ⟨l⟩ i = _
            generalize ht:p.in_.tables[i] = t at hl
            simp only [encRow,List.length_append,lows_len] at hl
            simp only [Sh.trace_Encode_l4,lt_dec,hi,decide_true,cond_true,get_at hi,ht,Option.bind_some]
            rw [w_two (by omega)]
            simp only [Option.bind_some]
            rw [app1 (by simp [lows_len]; omega)]
            simp [encRow]
          · show Sh.trace_Encode_l4 p ⟨l⟩ _ = _
            simp [Sh.trace_Encode_l4]
          · simp only [List.length_append,lows_len,List.length_singleton,N0,List.length_cons,List.length_nil]; omega
          simp only [Fx.fin,Sh.trace_Encode_j3]
          rw [w_byte (by simp only [List.length_append,lows_len,List.length_singleton,N0,List.length_cons,List.length_nil]; omega)]
          simp only [Option.bind_some]
          rw [w_four (by simp only [List.length_append,lows_len,List.length_singleton,N0,List.length_cons,List.length_nil]; omega)]
          simp only [Option.bind_some]
          -- the loop ends early,or at the end: too long both ways
          have key:∀ (m i:Nat) (l:List UInt8),m + i = p.marks.length → l.length ≤ 16777216 + 1099511627776 → 16777216 < l.length + ((p.marks.drop i).flatMap encMark).length →
              ∃ l',Fx.loop (fun (v:QWriter × Int)=>match v with | (v1716,v1719)=>Sh.trace_Encode_l6 p v1716 v1719) (⟨l⟩,(i:Int)) = some (Sum.inl ⟨l'⟩) ∧ 16777216 < l'.length:=by
            intro m
            induction m with
            | zero =>
              intro i l h hl hlt
              obtain rfl:i = p.marks.length:=by omega
              rw [List.drop_length] at hlt
              exact ⟨l,loop_out (by simp [Sh.trace_Encode_l6]),by simpa using hlt⟩
            | succ m ih =>
              intro i l h hl hlt
              have hi:i < p.marks.length:=by omega
              rw [List.drop_eq_getElem_cons hi,List.flatMap_cons,List.length_append] at hlt
              have hmi:=hm1 _ (List.getElem_mem hi)
              have hw:=w_mark (l:=l) (m:=p.marks[i]) (by simp only [N0]; omega)
              by_cases hbig:16777216 < (l ++ encMark p.marks[i]).length
              · refine ⟨l ++ encMark p.marks[i],loop_out ?_,hbig⟩
                have hx:decide ((16777216:Int) < ((l ++ encMark p.marks[i]).length:Int)) = true:=decide_eq_true (by omega)
                show Sh.trace_Encode_l6 p ⟨l⟩ i = _
                simp only [Sh.trace_Encode_l6,lt_dec,hi,decide_true,cond_true,get_at hi,Option.bind_some,hw,hx]
              · obtain ⟨l',k1,k2⟩:=ih (i + 1) (l ++ encMark p.marks[i]) (by omega) (by omega) (by simp only [List.length_append]; omega)
                refine ⟨l',loop_go ?_ k1,k2⟩
                have hx:decide ((16777216:Int) < ((l ++ encMark p.marks[i]).length:Int)) = false:=decide_eq_false (by omega)
                show Sh.trace_Encode_l6 p ⟨l⟩ i = _
                simp only [Sh.trace_Encode_l6,lt_dec,hi,decide_true,cond_true,get_at hi,Option.bind_some,hw,hx,cond_false,next64 hi (show p.marks.length ≤ _ by omega)]
          have key2:∀ l:List UInt8,l.length ≤ 16777216 + 1099511627776 → 16777216 < l.length + (p.marks.flatMap encMark).length → Fx.seq (Fx.loop (fun (v:QWriter × Int)=>match v with | (v1716,v1719)=>Sh.trace_Encode_l6 p v1716 v1719) (⟨l⟩,0)) (fun v1637=>Sh.trace_Encode_j5 v1637) = some ([],2):=by
            intro l hl hlt
            obtain ⟨l',k1,k2⟩:=key p.marks.length 0 l (by omega) hl (by simpa using hlt)
            refine seq_eq k1 ?_
            have hx:decide ((16777216:Int) < (l'.length:Int)) = true:=decide_eq_true (by omega)
            simp only [Fx.fin,Sh.trace_Encode_j5,hx,cond_true]
          refine key2 _ ?_ ?_
          · simp only [List.length_append,lows_len,List.length_singleton,List.length_cons,List.length_nil]; omega
          · simp only [List.length_append,lows_len,List.length_singleton,List.length_cons,List.length_nil]; omega
      · rw [decide_eq_false c2]
        exact ⟨([],233),rfl,rfl,.inl ⟨by decide,rfl⟩⟩
    · exact absurd ha ha'
    · exact absurd ha' ha
    · exact ⟨([],230),rfl,rfl,.inl ⟨by decide,rfl⟩⟩
  · rw [(t_goodIn _).false c1,(r_goodIn _).false c1]
    exact ⟨([],3),rfl,rfl,.inl ⟨by decide,rfl⟩⟩
end Go.Sp
end
section
namespace Go.Sp
open Go Go.Fw Go.Fx Go.Proofs
set_option linter.unusedVariables false
set_option linter.unusedSimpArgs false
theorem pass {γ:Type} {body:Int → Option (Int ⊕ γ)} {g:γ} (n:Nat) (hn:n ≤ 4611686018427387904) (h:∀ i:Nat,i < n → body (i:Int) = some (.inl (IntKind.i64.wrap ((i:Int) + 1)))) (h':body (n:Int) = some (.inr g)):Fx.loop body 0 = some g:=by
  obtain ⟨g',h1,h2⟩:=count_rule (body:=body) n (fun i (a:Unit)=>(i:Int)) (fun i a=>True) (fun g'=>g' = g)
    (fun i a hi _=>.inl ⟨(),by rw [h i hi,next64 hi hn],trivial⟩) (fun a _=>⟨g,h',rfl⟩) n 0 () (by omega) trivial
  subst h2; exact h1
def SmallM (m:QMark):Prop:=m.regs.length ≤ 1099511627776 ∧ m.slots.length ≤ 1099511627776 ∧ m.pieces.length ≤ 1099511627776 ∧ m.sent.length ≤ 1099511627776
def SmallR (p:QRecord):Prop:=p.in_.tables.length ≤ 1099511627776 ∧ p.marks.length ≤ 1099511627776 ∧ ∀ m ∈ p.marks,SmallM m
theorem sameInts_refl {l:List Int} (h:l.length ≤ 1099511627776):Sh.law00_SameInts l l = some true:=by
  unfold Sh.law00_SameInts
  simp only [decide_true,Bool.not_true,cond_false]
  exact seq_eq (pass (g:=Sum.inl ()) l.length (by omega) (fun i hi=>by simp [Sh.law00_SameInts_l2,hi,get_at hi]) (by simp [Sh.law00_SameInts_l2])) rfl
theorem sameRows_refl {l:List (List UInt8)} (h:l.length ≤ 1099511627776):Sh.law00_SameRows l l = some true:=by
  unfold Sh.law00_SameRows
  simp only [decide_true,Bool.not_true,cond_false]
  exact seq_eq (pass (g:=Sum.inl ()) l.length (by omega) (fun i hi=>by simp [Sh.law00_SameRows_l2,hi,get_at hi,Sh.law00_SameBytes]) (by simp [Sh.law00_SameRows_l2])) rfl
theorem sameInput_refl {i:QInput} (h:i.tables.length ≤ 1099511627776):Sh.law00_SameInput i i = some true:=by
  simp [Sh.law00_SameInput,Sh.law00_SameBytes,sameRows_refl h,seq_l,Sh.law00_SameInput_j1]
theorem sameMark_refl {m:QMark} (h:SmallM m):Sh.law23_sameMark m m = some true:=by
  obtain ⟨h1,h2,h3,h4⟩:=h
  have k4:Sh.law23_sameMark_j4 m m = some true :=
    seq_eq (pass (g:=Sum.inl ()) m.pieces.length (by omega) (fun i hi=>by simp [Sh.law23_sameMark_l7,hi,get_at hi,Sh.law00_SameBytes,seq_l,Sh.law23_sameMark_j8]) (by simp [Sh.law23_sameMark_l7])) rfl
  have k2:Sh.law23_sameMark_j2 m m = some true :=
    seq_eq (pass (g:=Sum.inl ()) m.slots.length (by omega) (fun i hi=>by simp [Sh.law23_sameMark_l5,hi,get_at hi]) (by simp [Sh.law23_sameMark_l5])) k4
  have k1:Sh.law23_sameMark_j1 m m false = some true :=
    seq_eq (pass (g:=Sum.inl ()) m.regs.length (by omega) (fun i hi=>by simp [Sh.law23_sameMark_l3,hi,get_at hi]) (by simp [Sh.law23_sameMark_l3])) k2
  unfold Sh.law23_sameMark
  simp only [decide_true,Bool.not_true,cond_false,sameInts_refl h4,Option.bind_some,seq_l,k1]
theorem sameRecord_refl {p:QRecord} (h:SmallR p):Sh.law23_sameRecord p p = some true:=by
  obtain ⟨h1,h2,h3⟩:=h
  have k1:Sh.law23_sameRecord_j1 p p false = some true :=
    seq_eq (pass (g:=Sum.inl ()) p.marks.length (by omega) (fun i hi=>by simp [Sh.law23_sameRecord_l3,hi,get_at hi,sameMark_refl (h3 _ (List.getElem_mem hi))]) (by simp [Sh.law23_sameRecord_l3])) rfl
  unfold Sh.law23_sameRecord
  simp only [decide_true,Bool.not_true,cond_false,sameInput_refl h1,Option.bind_some,seq_l,k1]
end Go.Sp
end
section
namespace Go.Sp
open Go Go.Fw Go.Fx Go.Proofs
set_option linter.unusedVariables false
set_option linter.unusedSimpArgs false
section
variable {b:List UInt8} {r r1 r2:QReader}
theorem two {σ γ τ δ X:Type} (N n:Nat) {body1:σ → Option (σ ⊕ γ)} {body2:τ → Option (τ ⊕ δ)} (st1:List X → QReader → Int → σ) (out1:List X → QReader → γ) (st2:List X → QCursor → Int → τ) (out2:List X → QCursor → δ)
    (he1:∀ xs r m,(m = 0 ∨ r.e ≠ 0) → body1 (st1 xs r m) = some (.inr (out1 xs r)))
    (he2:∀ xs c i,(i = (n:Int) ∨ c.e ≠ 0) → body2 (st2 xs c i) = some (.inr (out2 xs c)))
    (hs:∀ xs r (m i:Nat),Wf b r → r.e = 0 → m + 1 + i = n → xs.length < N → ∃ x x' r',body1 (st1 xs r ((m + 1:Nat):Int)) = some (.inl (st1 (xs ++ [x]) r' (m:Int))) ∧
      body2 (st2 xs (cur r) (i:Int)) = some (.inl (st2 (xs ++ [x']) (cur r') ((i + 1:Nat):Int))) ∧ Wf b r' ∧ (r'.e = 0 → x' = x)) :
    ∀ (m i:Nat) xs xs' r,m + i = n → Wf b r → xs.length + m ≤ N → (r.e = 0 → xs' = xs) →
      ∃ ys ys' r',loop body1 (st1 xs r (m:Int)) = some (out1 (xs ++ ys) r') ∧ loop body2 (st2 xs' (cur r) (i:Int)) = some (out2 (xs' ++ ys') (cur r')) ∧ Wf b r' ∧ (r'.e = 0 → xs' ++ ys' = xs ++ ys):=by
  intro m
  induction m with
  | zero =>
    intro i xs xs' r hi hw _ hx
    refine ⟨[],[],r,?_,?_,hw,fun h=>by rw [hx h]⟩
    · rw [List.append_nil]; exact loop_out (he1 _ _ _ (.inl rfl))
    · rw [List.append_nil]; exact loop_out (he2 _ _ _ (.inl (by omega)))
  | succ m ih =>
    intro i xs xs' r hi hw hN hx
    by_cases he:r.e = 0
    · obtain rfl:=hx he
      obtain ⟨x,x',r1,h1,h2,h3,h4⟩:=hs xs' r m i hw he hi (by omega)
      obtain ⟨ys,ys',r2,k1,k2,k3,k4⟩:=ih (i + 1) (xs' ++ [x]) (xs' ++ [x']) r1 (by omega) h3 (by simp; omega) (fun h=>by rw [h4 h])
      exact ⟨x :: ys,x' :: ys',r2,loop_go h1 (by rw [k1]; simp),loop_go h2 (by rw [k2]; simp),k3,fun h=>by simpa using k4 h⟩
    · refine ⟨[],[],r,?_,?_,hw,fun h=>absurd h he⟩
      · rw [List.append_nil]; exact loop_out (he1 _ _ _ (.inr he))
      · rw [List.append_nil]; exact loop_out (he2 _ _ _ (.inr he))
theorem c1 (hb:b.length ≤ 16777216) (hw:Wf b r) {v:Int} (h:Sh.trace_reader_number r 1 = some (v,r1)):Sh.ref23_cursor_number (cur r) 1 = some (v,cur r1):=(c_number hb hw 1 (by omega) h).1
theorem c2 (hb:b.length ≤ 16777216) (hw:Wf b r) {v:Int} (h:Sh.trace_reader_number r 2 = some (v,r1)):Sh.ref23_cursor_number (cur r) 2 = some (v,cur r1):=(c_number hb hw 2 (by omega) h).1
theorem c4 (hb:b.length ≤ 16777216) (hw:Wf b r) {v:Int} (h:Sh.trace_reader_number r 4 = some (v,r1)):Sh.ref23_cursor_number (cur r) 4 = some (v,cur r1):=(c_number hb hw 4 (by omega) h).1
end
end Go.Sp
end
