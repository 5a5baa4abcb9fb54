/- Ground for the claim TraceSends. -/
import Derived.Lib.BytesEntry
import Derived.Laws.StandIn
import Derived.RangeFuncRecord
import Derived.Test.YtmgnkohlfbjjnaaGreatRSe6
set_option linter.unusedVariables false
set_option linter.unusedSimpArgs false
open Sum
section
namespace Go.Fx
open Go Go.Fw
section
variable {P:Program}{n:Nat}{F:List (Nat×Value)}{a:Act}{dd:List Deferred}{w:World}{o:Oper}{J:Value→World→Prop}
theorem Qm{f:FuncId}{xs:List Operand}{ts:Array TypeId}{vs:List Value}{v:Value}(hcall:(callFunc f vs.toArray).run P w = .ok (.value v) w)(hF:Fr n F a dd)
  (ho:o.op = .call { callee:=.value (.func f),args:=xs.toArray,argTypes:=ts }) (hx:evs F xs=some vs) (next:Unit→J v w):Yd P o a.eval w J:=by
 unfold Yd
 simp only[execOp,ho,resolve,Act.eval,Deferred.ofValue,invoke,Sem.run_bind,Sem.run_pure,Result.andThen_ok,ab0,hF.evals hx,ab1,ab2,hcall]
 exact next ()
theorem FH{lo:Nat}{s:SV}{l:List UInt8}(h:cg lo w s l):(Extern.Bytes.bytesOf s.v).run P w = .ok ⟨l.toArray⟩ w:=by
 have hl:=h.len
 have hc:=h.cells
 obtain⟨sa,sl,sc⟩:=s
 simp only at hl;subst hl
 cases sa with
 | none =>
  have hn:l = []:=hc.1
  subst hn
  rfl
 | some ad =>
  obtain⟨b,off,sp⟩:=ad
  obtain⟨h1,h2,h3⟩:=hc
  have he:Lib.bytesOf (l.map fun b=>(b.toNat:Int))=l:=by
   unfold Lib.bytesOf
   rw[acN]
   conv=>rhs;rw[←List.map_id l]
   exact acQ fun b _=>by simp
  have hx:=Lib.run_loadBytesX (P:=P) w (l.map fun b=>(b.toNat:Int)) ⟨b,off,sp⟩ .empty (fun j x hj=>by
   rw[abE]at hj
   obtain⟨y,hy,rfl⟩:=aax.1 hj
   have hj':j<l.length:=(aap.1 hy).1
   have h1:sp=none:=h1.resolve_left fun h=>by rw[h]at hj'; exact absurd hj' (abM _)
   subst h1
   rw[eC]
   have:=h3 (j*du.sz UInt8) (.int .u8 (y.toNat:Int)) (qH hy rfl)
   simpa[du.sz]using this)
  rw[he,abl]at hx
  have e0:(⟨ByteArray.empty.data++l.toArray⟩ : ByteArray)=⟨l.toArray⟩:=by
   apply ByteArray.ext
   show(#[]:Array UInt8)++l.toArray=l.toArray
   simp
  rw[e0]at hx
  exact hx
theorem S8{lo lo':Nat}{s t:SV}{l m:List UInt8}(h:cg lo w s l)(k:cg lo' w t m):(Extern.BytealgCompare.compare #[s.v,t.v]).run P w = .ok (.int .i64 (Lib.compareBytes l m)) w:=by
 change Sem.run P (do pure (goInt (Extern.BytealgCompare.cmp (←Extern.Bytes.bytesOf s.v) (←Extern.Bytes.bytesOf t.v)))) w=_
 simp only[Sem.run_bind,Sem.run_pure,FH h,FH k,Result.andThen_ok,Lib.cmp_eq]
 rfl
theorem Tv{lo:Nat}{s:SV}{l:List UInt8}{c:UInt8}(h:cg lo w s l):(Extern.BytealgIndexByte.indexByte #[s.v,.int .u8 (c.toNat:Int)]).run P w = .ok (.int .i64 (Lib.indexByte l c)) w:=by
 have hs:=Lib.run_indexByteString (P:=P) ⟨l.toArray⟩ (c.toNat:Int) w
 change Sem.run P (do
  let b←Extern.Bytes.bytesOf s.v
  let c←Extern.Bytes.asByte (.int .u8 (c.toNat:Int))
  match(List.range b.size).find? fun i=>b[i]! == c with
  | some i=>pure (goInt i)
  | none=>pure (goInt (-1))) w=_
 change Sem.run P (do
  let b←Extern.Bytes.bytesOf (.string ⟨l.toArray⟩)
  let c←Extern.Bytes.asByte (.int .u8 (c.toNat:Int))
  match(List.range b.size).find? fun i=>b[i]! == c with
  | some i=>pure (goInt i)
  | none=>pure (goInt (-1))) w=_ at hs
 have e1:(Extern.Bytes.bytesOf (.string ⟨l.toArray⟩)).run P w = .ok ⟨l.toArray⟩ w:=rfl
 simp only[Sem.run_bind,FH h,e1,Result.andThen_ok]at hs ⊢
 rw[hs]
 simp
theorem hY{t:TypeId}{x:Operand}{v:Value}(hc:P.concrete t=true)(hF:Fr n F a dd)(ho:o.op = .makeInterface t x)(hx:ev F x=some v):(execOp a.eval o).run P w = .ok (.value (.iface t v)) w:=by
 simp[execOp,ho,hF.eval hx,run_makeInterface w t v hc]
theorem PN{f:FuncId}{T:TypeId}{r:Operand}{name:String}{x:Value}{R:Value→World→Prop}(hi:∀ w,(invoke (.fn (.method name) #[]) #[.iface T x]).run P w = .ok (.enter f #[x]) w)(hF:Fr n F a dd)
  (ho:o.op = .call { callee:=.invoke r name,args:=#[],argTypes:=#[] }) (hr:ev F r=some (.iface T x)) (hc:Calls P f #[x] w (fZ R)) (next:∀ v w',R v w' → J v w'):Yd P o a.eval w J:=by
 unfold Yd
 simp only[execOp,ho,resolve,hF.eval hr,Sem.run_bind,Sem.run_pure,Result.andThen_ok,ab0,aa5,ab2,hi]
 exact Calls.mono hc fun e w' he=>by cases e<;>first|exact next _ _ he|exact he
end
end Go.Fx
end
section
namespace Go.Proofs
open Go Go.Fw Go.Fx
noncomputable def Sh.sO(x0:Int):Option ((pe×Bool)) :=
 (bif (decide (x0=1))then(some (pe.mk [2,4,1,0,0] (cj.mk (0) (65535) false false),true))else(bif (decide (x0=2))then(some (pe.mk [3,2,4,0,0] cj.zero,true))else(bif (decide (x0=3))then(some (pe.mk [3,1,4,0,0] cj.zero,true))else(bif (decide (x0=4))then(some (pe.mk [2,2,4,0,0] (cj.mk (-1) 1 false false),true))else(bif (decide (x0=5))then(some (pe.mk [2,4,1,0,0] (cj.mk (-1) (65534) false false),true))else(bif (decide (x0=6))then(some (pe.mk [1,0,0,0,0] (cj.mk (-1) 0 false false),true))else(bif (decide (x0=7))then(some (pe.mk [1,1,0,0,0] (cj.mk 0 0 false false),true))else(bif (decide (x0=8))then(some (pe.mk [1,1,0,0,0] (cj.mk 0 0 true true),true))else(some (pe.mk [] cj.zero,false))))))))))
end Go.Proofs
end
noncomputable section
namespace Go.Proofs
open Go Go.Fw Go.Fx
set_option maxRecDepth 10000
def Sh.G2(x0:List UInt8)(x1:List UInt8):Option Int :=
 (some (Lib.compareBytes x0 x1))
def Sh.FG(x0:List UInt8)(x1:UInt8):Option Int :=
 (some (Lib.indexByte x0 x1))
def Sh.aJc(x0:List UInt8)(x1:List UInt8):Option Int :=
 ((Sh.G2 x0 x1).bind fun y9=>(some y9))
def Sh.Hl(x0:List UInt8)(x1:Int):Option Int :=
 ((Sh.FG x0 (Fw.byteOf x1)).bind fun y7=>(some y7))
def Sh.dH(x0:ai)(x1:Int)(x2:Int):Option (List UInt8) :=
 ((Fx.get x0.a8.l x1).bind fun RX=>((Fx.get x0.a8.l x1).bind fun RY=>((Sh.kT x0 RX RY.x x2).bind fun C_=>(some C_))))
def Sh.lO(c0:Int)(c1:Bool):Option ((Int⊕(Unit⊕(Vec Int 6×Bool)))) :=
 (bif c1 then(some (inr (inr ((⟨List.replicate 6 0,rfl⟩ : Vec Int 6),false))))else(some (inl (IntKind.i64.wrap (c0+1)))))
def Sh.cD(x0:ai)(x1:List Int)(c1:Int):Option ((Int⊕(Unit⊕(Vec Int 6×Bool)))) :=
 (bif (decide (c1<(x1.length:Int)))then((Fx.get x1 c1).bind fun c2=>((Fx.get x0.a8.l (IntKind.i64.wrap (c1+1))).bind fun c0=>(Fx.seq (bif (decide (c2=1))then((Sh.cI c0).bind fun c4=>(bif (!c4)then(some (inl true))else(bif (decide (c2=4))then(bif (decide (c0.x<0))then(some (inl true))else(some (inl (decide (65535<c0.x)))))else(some (inl false)))))else(bif (decide (c2=4))then((Sh.cI c0).bind fun c5=>(bif (!c5)then(some (inl true))else(bif (decide (c0.x<0))then(some (inl true))else(some (inl (decide (65535<c0.x)))))))else(some (inl false)))) fun c3=>Sh.lO c1 c3)))else(some (inr (inl ()))))
def Sh.lR(x1:List Int)(c0:Int):Option ((Int⊕(Int⊕(Vec Int 6⊕((Vec Int 6×Int)⊕(Vec Int 6⊕(Vec Int 6×Bool))))))) :=
 ((Fx.get x1 c0).bind fun c1=>(bif (!decide (c1=4))then(some (inl (IntKind.i64.wrap (c0+1))))else(some (inr (inl c0)))))
def Sh.kW(x0:ai)(c1:Vec Int 6)(c2:Int)(c5:Int)(c3:aj)(c0:aj)(c4:Bool):Option ((Vec Int 6⊕((Vec Int 6×Int)⊕(Vec Int 6⊕(Vec Int 6×Bool))))) :=
 (bif c4 then(some (inr (inr (inr ((c1.set ((IntKind.i64.wrap (c2+1)):Int).toNat c0.x),false)))))else(bif (decide (c5=3))then(bif (decide (c3.kind=4))then(some (inr (inr (inr ((c1.set ((IntKind.i64.wrap (c2+1)):Int).toNat c0.x),false)))))else(some (inl (c1.set ((IntKind.i64.wrap (c2+1)):Int).toNat c0.x))))else((Sh.eT x0 c3 c3.x c0.x).bind fun c6=>(bif (!decide (c6=0))then(some (inr (inr (inr ((c1.set ((IntKind.i64.wrap (c2+1)):Int).toNat c0.x),false)))))else(some (inl (c1.set ((IntKind.i64.wrap (c2+1)):Int).toNat c0.x)))))))
def Sh.lQ(x0:ai)(c2:Vec Int 6)(c1:Int)(c6:Int)(c4:Int):Option ((Vec Int 6⊕((Vec Int 6×Int)⊕(Vec Int 6⊕(Vec Int 6×Bool))))) :=
 ((Fx.get x0.a8.l (IntKind.i64.wrap (c1+1))).bind fun c0=>((Fx.get x0.a8.l (IntKind.i64.wrap (c4+1))).bind fun c3=>((Fx.get c2.l (IntKind.i64.wrap (c1+1))).bind fun c9=>(Fx.seq ((Sh.hS c0).bind fun c7=>(bif (!c7)then(some (inl true))else((Sh.eQ x0 c0 c0.x c3.x).bind fun c8=>(some (inl (!c8)))))) fun c5=>Sh.kW x0 c2 c1 c6 c0 c3 c5))))
def Sh.lP(x0:ai)(x1:List Int)(c0:Vec Int 6)(c1:Int)(c5:Int)(c2:Bool):Option ((Vec Int 6⊕((Vec Int 6×Int)⊕(Vec Int 6⊕(Vec Int 6×Bool))))) :=
 (bif c2 then(some (inl c0))else(Fx.seq (Fx.loop (fun c4=>Sh.lR x1 c4) (IntKind.i64.wrap (c1+1))) fun c3=>Sh.lQ x0 c0 c1 c5 c3))
def Sh.rB(c0:Int)(c1:Vec Int 6):Option (((Vec Int 6×Int)⊕(Vec Int 6⊕(Vec Int 6×Bool)))) :=
 (some (inl (c1,(IntKind.i64.wrap (c0+1)))))
def Sh.iJ(x0:ai)(x1:List Int)(c2:Vec Int 6)(c0:Int):Option (((Vec Int 6×Int)⊕(Vec Int 6⊕(Vec Int 6×Bool)))) :=
 (bif (decide (c0<(x1.length:Int)))then(Fx.seq ((Fx.get x1 c0).bind fun c1=>(Fx.seq (bif (!decide (c1=2))then(some (inl (!decide (c1=3))))else(some (inl false))) fun c4=>Sh.lP x0 x1 c2 c0 c1 c4)) fun c3=>Sh.rB c0 c3)else(some (inr (inl c2))))
def Sh.FD(c0:Vec Int 6):Option ((Vec Int 6×Bool)) :=
 (some (c0,true))
def Sh.fV(x0:ai)(x1:List Int):Option ((Vec Int 6×Bool)) :=
 (Fx.seq (Fx.loop (fun(c1,c2)=>Sh.iJ x0 x1 c1 c2) ((⟨List.replicate 6 0,rfl⟩ : Vec Int 6),0)) fun c0=>Sh.FD c0)
def Sh.gD(x0:ai)(x1:List Int):Option ((Vec Int 6×Bool)) :=
 (Fx.seq (Fx.loop (fun c0=>Sh.cD x0 x1 c0) 0) fun _=>Sh.fV x0 x1)
def Sh.jC(c3:aj)(c2:List UInt8)(c1:List UInt8)(c0:Int):Option (((List UInt8×Int)⊕(List UInt8⊕((aj×Vec bn 32×List UInt8×List (List UInt8)×List Int)⊕(Int×Int×ai))))) :=
 (bif (decide (c0<(c2.length:Int)))then((Fx.get c1 c0).bind fun c4=>(some (inl ((c1.set (c0:Int).toNat (Fw.byteOf c3.x)),(IntKind.i64.wrap (c0+1))))))else(some (inr (inl c1))))
def Sh.sY(x0:ai)(c4:aj)(c3:aj)(c1:List UInt8):Option (((aj×Vec bn 32×List UInt8×List (List UInt8)×List Int)⊕(Int×Int×ai))) :=
 ((Fx.get x0.a8.l 1).bind fun c2=>((Sh.fK x0 c2 c3.x c1).bind fun c0=>(some (inl (c4,c0.ae.bh,c0.ae.cq,c0.ae.ah,x0.a7)))))
def Sh.nH(x0:ai)(c3:aj)(c1:aj)(c2:aj)(c0:Bool):Option (((aj×Vec bn 32×List UInt8×List (List UInt8)×List Int)⊕(Int×Int×ai))) :=
 (bif c0 then(some (inl ((aj.mk 5 c1.x c2.x 0),x0.ae.bh,x0.ae.cq,x0.ae.ah,x0.a7)))else(some (inl (c3,x0.ae.bh,x0.ae.cq,x0.ae.ah,x0.a7))))
def Sh.nG(x0:ai)(c5:aj)(c1:aj)(c0:aj)(c2:Bool):Option (((aj×Vec bn 32×List UInt8×List (List UInt8)×List Int)⊕(Int×Int×ai))) :=
 (bif c2 then(some (inr (0,87,x0)))else(Fx.seq (bif (decide (0≤c0.x))then((Fx.get x0.ae.sizes c1.x).bind fun c4=>(some (inl (decide (c0.x<c4.rows)))))else(some (inl false))) fun c3=>Sh.nH x0 c5 c1 c0 c3))
def Sh.dI(c1:Vec aj 11)(c0:Int):Option (((Vec aj 11×Int)⊕(Vec aj 11⊕(Int×Int×ai)))) :=
 (bif (decide (c0≤5))then((Fx.get c1.l c0).bind fun c2=>(some (inl ((c1.set (c0:Int).toNat aj.zero),(IntKind.i64.wrap (c0+1))))))else(some (inr (inl c1))))
def Sh.FH(x0:ai)(c0:Vec bn 32)(c1:List UInt8)(c2:List (List UInt8))(c3:List Int)(c4:Vec aj 11):Option ((Int×Int×ai)) :=
 (some (0,0,(ai.mk (fq.mk c0 c1 c2 x0.ae.data x0.ae.sizes) x0.code x0.dq x0.da c4 c3 x0.at_ x0.steps x0.done)))
def Sh.cJ(x0:ai)(c0:aj)(c1:Vec bn 32)(c2:List UInt8)(c3:List (List UInt8))(c4:List Int):Option ((Int×Int×ai)) :=
 ((Fx.get x0.a8.l 0).bind fun c8=>(Fx.seq (Fx.loop (fun(c6,c7)=>Sh.dI c6 c7) ((x0.a8.set (0:Int).toNat c0),1)) fun c5=>Sh.FH x0 c1 c2 c3 c4 c5))
def Sh.fJ(x0:ai)(x1:bg):Option ((Int×Int×ai)) :=
 ((Sh.sO x1.jN).bind fun c7=>(bif (!c7.2)then(some (0,87,x0))else((Sh.gD x0 c7.1.args).bind fun c2=>(bif (!c2.2)then(some (0,87,x0))else((Sh.cZ 0).bind fun c0=>((Fx.get x0.a8.l 1).bind fun c1=>((Fx.get x0.a8.l 2).bind fun c4=>((Fx.get x0.a8.l 3).bind fun c6=>(Fx.seq (bif (decide (x1.jN=1))then((Fx.get c2.1.l 1).bind fun d7=>((Sh.dH x0 1 d7).bind fun g5=>((Sh.aGm g5 c6.x).bind fun g6=>(some (inl ((aj.mk c0.kind c0.table c0.row g6),x0.ae.bh,x0.ae.cq,x0.ae.ah,x0.a7))))))else(bif (decide (x1.jN=2))then((Fx.get x0.a8.l 1).bind fun d8=>((Fx.get c2.1.l 2).bind fun d9=>((Sh.dH x0 2 d9).bind fun g7=>((Sh.fK x0 d8 c1.x g7).bind fun c3=>(some (inl (c0,c3.ae.bh,c3.ae.cq,c3.ae.ah,x0.a7)))))))else(bif (decide (x1.jN=3))then((Fx.get c2.1.l 1).bind fun g0=>((Fx.mk 1 (0:UInt8) g0).bind fun c5=>(Fx.seq (Fx.loop (fun(d4,d5)=>Sh.jC c4 c5 d4 d5) (c5,0)) fun d3=>Sh.sY x0 c0 c1 d3)))else(bif (decide (x1.jN=4))then((Fx.get c2.1.l 1).bind fun g1=>((Fx.get c2.1.l 2).bind fun g2=>((Sh.dH x0 1 g1).bind fun g8=>((Sh.dH x0 2 g2).bind fun g9=>((Sh.aJc g8 g9).bind fun i0=>(some (inl ((aj.mk c0.kind c0.table c0.row i0),x0.ae.bh,x0.ae.cq,x0.ae.ah,x0.a7))))))))else(bif (decide (x1.jN=5))then((Fx.get c2.1.l 1).bind fun g3=>((Sh.dH x0 1 g3).bind fun i1=>((Sh.Hl i1 c6.x).bind fun i2=>(some (inl ((aj.mk c0.kind c0.table c0.row i2),x0.ae.bh,x0.ae.cq,x0.ae.ah,x0.a7))))))else(bif (decide (x1.jN=6))then(bif (decide (64≤(x0.a7.length:Int)))then(some (inl ((aj.mk c0.kind c0.table c0.row (-1)),x0.ae.bh,x0.ae.cq,x0.ae.ah,x0.a7)))else((Fx.app 8 x0.a7 [c1.x]).bind fun g4=>(some (inl (c0,x0.ae.bh,x0.ae.cq,x0.ae.ah,g4)))))else(bif (decide (x1.jN=7))then(Fx.seq (bif (decide (c1.x<0))then(some (inl true))else(some (inl (decide ((x0.ae.sizes.length:Int)≤c1.x))))) fun d6=>Sh.nG x0 c0 c1 c4 d6)else(bif (decide (x1.jN=8))then((Sh.F8 c1.x c4.x).bind fun i3=>(some (inl ((aj.mk c0.kind c0.table c0.row i3),x0.ae.bh,x0.ae.cq,x0.ae.ah,x0.a7))))else(some (inl (c0,x0.ae.bh,x0.ae.cq,x0.ae.ah,x0.a7))))))))))) fun(c8,c9,d0,d1,d2)=>Sh.cJ x0 c8 c9 d0 d1 d2)))))))))
end Go.Proofs
end
noncomputable section
namespace Go.Proofs
open Go Go.Fw Go.Fx
set_option maxRecDepth 10000
def Sh.sZ(x0:ai)(x1:bg)(c1:List UInt8)(c2:List (List UInt8))(c3:List Int):Option (((Vec bn 32×List UInt8×List (List UInt8)×Vec aj 11×List Int×Bool×Int)⊕Int)) :=
 ((Sh.cH (ai.mk (fq.mk x0.ae.bh c1 c2 x0.ae.data x0.ae.sizes) x0.code x0.dq x0.da x0.a8 c3 x0.at_ x0.steps x0.done) x1).bind fun c0=>(some (inl (x0.ae.bh,c1,c2,c0.2.2.a8,c3,x0.done,c0.2.1))))
def Sh.tA(x0:ai)(x1:bg)(c1:List UInt8)(c2:List (List UInt8))(c3:List Int):Option (((Vec bn 32×List UInt8×List (List UInt8)×Vec aj 11×List Int×Bool×Int)⊕Int)) :=
 ((Sh.jW (ai.mk (fq.mk x0.ae.bh c1 c2 x0.ae.data x0.ae.sizes) x0.code x0.dq x0.da x0.a8 c3 x0.at_ x0.steps x0.done) x1).bind fun c0=>(some (inl (x0.ae.bh,c1,c2,c0.2.2.a8,c3,x0.done,c0.2.1))))
def Sh.tB(x0:ai)(x1:bg)(c1:List UInt8)(c2:List (List UInt8))(c3:List Int):Option (((Vec bn 32×List UInt8×List (List UInt8)×Vec aj 11×List Int×Bool×Int)⊕Int)) :=
 ((Sh.eJ (ai.mk (fq.mk x0.ae.bh c1 c2 x0.ae.data x0.ae.sizes) x0.code x0.dq x0.da x0.a8 c3 x0.at_ x0.steps x0.done) x1).bind fun c0=>(some (inl (x0.ae.bh,c1,c2,c0.2.2.a8,c3,x0.done,c0.2.1))))
def Sh.tC(x0:ai)(x1:bg)(c1:List UInt8)(c2:List (List UInt8))(c3:List Int):Option (((Vec bn 32×List UInt8×List (List UInt8)×Vec aj 11×List Int×Bool×Int)⊕Int)) :=
 ((Sh.jV (ai.mk (fq.mk x0.ae.bh c1 c2 x0.ae.data x0.ae.sizes) x0.code x0.dq x0.da x0.a8 c3 x0.at_ x0.steps x0.done) x1).bind fun c0=>(some (inl (x0.ae.bh,c1,c2,c0.2.2.a8,c3,x0.done,c0.2.1))))
def Sh.tD(x0:ai)(x1:bg)(c2:List UInt8)(c3:List (List UInt8))(c1:List Int):Option (((Vec bn 32×List UInt8×List (List UInt8)×Vec aj 11×List Int×Bool×Int)⊕Int)) :=
 ((Sh.iK (ai.mk (fq.mk x0.ae.bh c2 c3 x0.ae.data x0.ae.sizes) x0.code x0.dq x0.da x0.a8 c1 x0.at_ x0.steps x0.done) x1).bind fun c0=>(some (inl (c0.2.2.ae.bh,c0.2.2.ae.cq,c0.2.2.ae.ah,x0.a8,c1,x0.done,c0.2.1))))
def Sh.tE(x0:ai)(x1:bg)(c2:List UInt8)(c3:List (List UInt8))(c1:List Int):Option (((Vec bn 32×List UInt8×List (List UInt8)×Vec aj 11×List Int×Bool×Int)⊕Int)) :=
 ((Sh.jT (ai.mk (fq.mk x0.ae.bh c2 c3 x0.ae.data x0.ae.sizes) x0.code x0.dq x0.da x0.a8 c1 x0.at_ x0.steps x0.done) x1).bind fun c0=>(some (inl (c0.2.2.ae.bh,c0.2.2.ae.cq,c0.2.2.ae.ah,c0.2.2.a8,c1,x0.done,c0.2.1))))
def Sh.tF(x0:ai)(x1:bg)(c0:List UInt8)(c1:List (List UInt8))(c2:List Int):Option (((Vec bn 32×List UInt8×List (List UInt8)×Vec aj 11×List Int×Bool×Int)⊕Int)) :=
 ((Sh.jU (ai.mk (fq.mk x0.ae.bh c0 c1 x0.ae.data x0.ae.sizes) x0.code x0.dq x0.da x0.a8 c2 x0.at_ x0.steps x0.done) x1).bind fun c3=>(some (inl (x0.ae.bh,c0,c1,x0.a8,c2,x0.done,c3.2))))
def Sh.rC(x0:ai)(x1:bg)(c0:List UInt8)(c1:List (List UInt8))(c2:List Int):Option (((Vec bn 32×List UInt8×List (List UInt8)×Vec aj 11×List Int×Bool×Int)⊕Int)) :=
 ((Sh.hK (ai.mk (fq.mk x0.ae.bh c0 c1 x0.ae.data x0.ae.sizes) x0.code x0.dq x0.da x0.a8 c2 x0.at_ x0.steps x0.done) x1).bind fun c3=>(some (inl (x0.ae.bh,c0,c1,x0.a8,c2,x0.done,c3.2))))
def Sh.rD(x0:ai)(x1:bg)(c1:List UInt8)(c2:List (List UInt8))(c3:List Int):Option (((Vec bn 32×List UInt8×List (List UInt8)×Vec aj 11×List Int×Bool×Int)⊕Int)) :=
 ((Sh.fJ (ai.mk (fq.mk x0.ae.bh c1 c2 x0.ae.data x0.ae.sizes) x0.code x0.dq x0.da x0.a8 c3 x0.at_ x0.steps x0.done) x1).bind fun c0=>(some (inl (c0.2.2.ae.bh,c0.2.2.ae.cq,c0.2.2.ae.ah,c0.2.2.a8,c0.2.2.a7,x0.done,c0.2.1))))
def Sh.rE(x0:ai)(x1:bg)(c1:List UInt8)(c2:List (List UInt8))(c3:List Int):Option (((Vec bn 32×List UInt8×List (List UInt8)×Vec aj 11×List Int×Bool×Int)⊕Int)) :=
 ((Sh.eP (ai.mk (fq.mk x0.ae.bh c1 c2 x0.ae.data x0.ae.sizes) x0.code x0.dq x0.da x0.a8 c3 x0.at_ x0.steps x0.done) x1).bind fun c0=>(some (inl (x0.ae.bh,c1,c2,x0.a8,c3,c0.2.2.done,c0.2.1))))
def Sh.tG(c1:Vec bn 32)(c2:List UInt8)(c3:List (List UInt8))(c4:Vec aj 11)(c5:List Int)(c6:Bool)(c0:Int):Option Int :=
 (bif (!decide (c0=0))then(some c0)else(some 89))
def Sh.nC(x0:ai)(x1:bg):Option Int :=
 ((Sh.aN x0.ae.cq).bind fun c0=>((Sh.iY x0.ae.ah).bind fun c1=>((Sh.bG x0.a7).bind fun c2=>(Fx.seq (Fx.seq (bif (decide (x1.op≤15))then(some (inl (inl ())))else(bif (decide (x1.op≤19))then(some (inl (inr (inl ()))))else(bif (decide (x1.op≤21))then(some (inl (inr (inr (inl ())))))else(bif (decide (x1.op≤23))then(some (inl (inr (inr (inr (inl ()))))))else(bif (decide (x1.op=24))then(some (inl (inr (inr (inr (inr (inl ())))))))else(bif (decide (x1.op=25))then(some (inl (inr (inr (inr (inr (inr (inl ()))))))))else(bif (decide (x1.op=26))then(some (inl (inr (inr (inr (inr (inr (inr (inl ())))))))))else(bif (decide (x1.op≤37))then(some (inl (inr (inr (inr (inr (inr (inr (inr (inl ()))))))))))else(bif (decide (x1.op=38))then(some (inl (inr (inr (inr (inr (inr (inr (inr (inr (inl ())))))))))))else(some (inl (inr (inr (inr (inr (inr (inr (inr (inr (inr ())))))))))))))))))))) (Sum.elim (fun _=>Sh.sZ x0 x1 c0 c1 c2) (Sum.elim (fun _=>Sh.tA x0 x1 c0 c1 c2) (Sum.elim (fun _=>Sh.tB x0 x1 c0 c1 c2) (Sum.elim (fun _=>Sh.tC x0 x1 c0 c1 c2) (Sum.elim (fun _=>Sh.tD x0 x1 c0 c1 c2) (Sum.elim (fun _=>Sh.tE x0 x1 c0 c1 c2) (Sum.elim (fun _=>Sh.tF x0 x1 c0 c1 c2) (Sum.elim (fun _=>Sh.rC x0 x1 c0 c1 c2) (Sum.elim (fun _=>Sh.rD x0 x1 c0 c1 c2) (fun _=>Sh.rE x0 x1 c0 c1 c2))))))))))) fun(c3,c4,c5,c6,c7,c8,c9)=>Sh.tG c3 c4 c5 c6 c7 c8 c9))))
def Sh.jA(x0:ai)(c1:bg):Option (((Vec bn 32×List UInt8×List (List UInt8)×Vec aj 11×List Int×Bool×Int×Int)⊕(Int×ai))) :=
 ((Sh.cH x0 c1).bind fun c0=>(some (inl (x0.ae.bh,x0.ae.cq,x0.ae.ah,c0.2.2.a8,x0.a7,x0.done,c0.1,c0.2.1))))
def Sh.sV(x0:ai)(c1:bg):Option (((Vec bn 32×List UInt8×List (List UInt8)×Vec aj 11×List Int×Bool×Int×Int)⊕(Int×ai))) :=
 ((Sh.jW x0 c1).bind fun c0=>(some (inl (x0.ae.bh,x0.ae.cq,x0.ae.ah,c0.2.2.a8,x0.a7,x0.done,c0.1,c0.2.1))))
def Sh.jB(x0:ai)(c1:bg):Option (((Vec bn 32×List UInt8×List (List UInt8)×Vec aj 11×List Int×Bool×Int×Int)⊕(Int×ai))) :=
 ((Sh.eJ x0 c1).bind fun c0=>(some (inl (x0.ae.bh,x0.ae.cq,x0.ae.ah,c0.2.2.a8,x0.a7,x0.done,c0.1,c0.2.1))))
def Sh.sW(x0:ai)(c1:bg):Option (((Vec bn 32×List UInt8×List (List UInt8)×Vec aj 11×List Int×Bool×Int×Int)⊕(Int×ai))) :=
 ((Sh.jV x0 c1).bind fun c0=>(some (inl (x0.ae.bh,x0.ae.cq,x0.ae.ah,c0.2.2.a8,x0.a7,x0.done,c0.1,c0.2.1))))
def Sh.sX(x0:ai)(c1:bg):Option (((Vec bn 32×List UInt8×List (List UInt8)×Vec aj 11×List Int×Bool×Int×Int)⊕(Int×ai))) :=
 ((Sh.iK x0 c1).bind fun c0=>(some (inl (c0.2.2.ae.bh,c0.2.2.ae.cq,c0.2.2.ae.ah,x0.a8,x0.a7,x0.done,c0.1,c0.2.1))))
def Sh.qY(x0:ai)(c1:bg):Option (((Vec bn 32×List UInt8×List (List UInt8)×Vec aj 11×List Int×Bool×Int×Int)⊕(Int×ai))) :=
 ((Sh.jT x0 c1).bind fun c0=>(some (inl (c0.2.2.ae.bh,c0.2.2.ae.cq,c0.2.2.ae.ah,c0.2.2.a8,x0.a7,x0.done,c0.1,c0.2.1))))
def Sh.qZ(x0:ai)(c1:bg):Option (((Vec bn 32×List UInt8×List (List UInt8)×Vec aj 11×List Int×Bool×Int×Int)⊕(Int×ai))) :=
 ((Sh.jU x0 c1).bind fun c0=>(some (inl (x0.ae.bh,x0.ae.cq,x0.ae.ah,x0.a8,x0.a7,x0.done,c0.1,c0.2))))
def Sh.rA(x0:ai)(c1:bg):Option (((Vec bn 32×List UInt8×List (List UInt8)×Vec aj 11×List Int×Bool×Int×Int)⊕(Int×ai))) :=
 ((Sh.hK x0 c1).bind fun c0=>(some (inl (x0.ae.bh,x0.ae.cq,x0.ae.ah,x0.a8,x0.a7,x0.done,c0.1,c0.2))))
def Sh.iH(x0:ai)(c1:bg):Option (((Vec bn 32×List UInt8×List (List UInt8)×Vec aj 11×List Int×Bool×Int×Int)⊕(Int×ai))) :=
 ((Sh.fJ x0 c1).bind fun c0=>(some (inl (c0.2.2.ae.bh,c0.2.2.ae.cq,c0.2.2.ae.ah,c0.2.2.a8,c0.2.2.a7,x0.done,c0.1,c0.2.1))))
def Sh.iI(x0:ai)(c1:bg):Option (((Vec bn 32×List UInt8×List (List UInt8)×Vec aj 11×List Int×Bool×Int×Int)⊕(Int×ai))) :=
 ((Sh.eP x0 c1).bind fun c0=>(some (inl (x0.ae.bh,x0.ae.cq,x0.ae.ah,x0.a8,x0.a7,c0.2.2.done,c0.1,c0.2.1))))
def Sh.eS(x0:ai)(c1:Vec bn 32)(c2:List UInt8)(c3:List (List UInt8))(c4:Vec aj 11)(c5:List Int)(c0:Bool)(c6:Int)(c7:Int):Option ((Int×ai)) :=
 (bif (!decide (c7=0))then(some (c7,(ai.mk (fq.mk c1 c2 c3 x0.ae.data x0.ae.sizes) x0.code x0.dq x0.da c4 c5 x0.at_ x0.steps c0)))else(bif c0 then(some (0,(ai.mk (fq.mk c1 c2 c3 x0.ae.data x0.ae.sizes) x0.code x0.dq x0.da c4 c5 x0.at_ (IntKind.i64.wrap (x0.steps+1)) c0)))else((Fx.get x0.dq (IntKind.i64.wrap (x0.at_+1))).bind fun c8=>(bif (!((Fx.il x0.da (IntKind.i64.wrap (c8+c6))).isSome))then(some (89,(ai.mk (fq.mk c1 c2 c3 x0.ae.data x0.ae.sizes) x0.code x0.dq x0.da c4 c5 x0.at_ x0.steps c0)))else(some (0,(ai.mk (fq.mk c1 c2 c3 x0.ae.data x0.ae.sizes) x0.code x0.dq x0.da c4 c5 ((Fx.il x0.da (IntKind.i64.wrap (c8+c6))).getD 0) (IntKind.i64.wrap (x0.steps+1)) c0)))))))
def Sh.bW(x0:ai)(c0:bg)(c1:Bool):Option ((Int×ai)) :=
 (bif c1 then((Sh.nC x0 c0).bind fun d0=>(some (d0,x0)))else(Fx.seq (Fx.seq (bif (decide (c0.op≤15))then(some (inl (inl ())))else(bif (decide (c0.op≤19))then(some (inl (inr (inl ()))))else(bif (decide (c0.op≤21))then(some (inl (inr (inr (inl ())))))else(bif (decide (c0.op≤23))then(some (inl (inr (inr (inr (inl ()))))))else(bif (decide (c0.op=24))then(some (inl (inr (inr (inr (inr (inl ())))))))else(bif (decide (c0.op=25))then(some (inl (inr (inr (inr (inr (inr (inl ()))))))))else(bif (decide (c0.op=26))then(some (inl (inr (inr (inr (inr (inr (inr (inl ())))))))))else(bif (decide (c0.op≤37))then(some (inl (inr (inr (inr (inr (inr (inr (inr (inl ()))))))))))else(bif (decide (c0.op=38))then(some (inl (inr (inr (inr (inr (inr (inr (inr (inr (inl ())))))))))))else(some (inl (inr (inr (inr (inr (inr (inr (inr (inr (inr ())))))))))))))))))))) (Sum.elim (fun _=>Sh.jA x0 c0) (Sum.elim (fun _=>Sh.sV x0 c0) (Sum.elim (fun _=>Sh.jB x0 c0) (Sum.elim (fun _=>Sh.sW x0 c0) (Sum.elim (fun _=>Sh.sX x0 c0) (Sum.elim (fun _=>Sh.qY x0 c0) (Sum.elim (fun _=>Sh.qZ x0 c0) (Sum.elim (fun _=>Sh.rA x0 c0) (Sum.elim (fun _=>Sh.iH x0 c0) (fun _=>Sh.iI x0 c0))))))))))) fun(c2,c3,c4,c5,c6,c7,c8,c9)=>Sh.eS x0 c2 c3 c4 c5 c6 c7 c8 c9))
def Sh.eR(x0:ai)(c0:bg)(c1:Bool):Option ((Int×ai)) :=
 (Fx.seq (bif (!c1)then(bif (!decide (c0.op=39))then(some (inl (decide ((IntKind.i64.wrap (x0.at_+1))=(x0.code.length:Int)))))else(some (inl false)))else(some (inl false))) fun c2=>Sh.bW x0 c0 c2)
def Sh.aH(x0:ai):Option ((Int×ai)) :=
 (bif x0.done then(some (4,x0))else((Fx.get x0.code x0.at_).bind fun c0=>(Fx.seq (bif (decide (26≤c0.op))then(some (inl (decide (c0.op≤37))))else(some (inl false))) fun c1=>Sh.eR x0 c0 c1)))
end Go.Proofs
end
section
namespace Go.Ev
open Go.Fw
def lx(P:Program)(w0:World)(env:Env)(call:jw):Prop :=
 ∀ (I:Ip) (s s':St) (w:World) (g:AV) (vs:List AV) (v:AV),call g vs s=some (v,s')→SR I env w0 s w→jj s.nx g→(∀ u∈vs,jj s.nx u) →
  match g with
  | .f f fs cs=>(∀ args w,(callFunc f args).run P w = .ok (.enter f args) w)∧Calls P f ((fs++vs++cs).map I.g).toArray w (fZ (Left I env w0 s s' v))
  | .y l=>∃ f tmps as bd,(Instr.yield (I.sv l).blk (vs.map I.g).toArray).run P w = .ok (.round (I.sv l).blk f tmps as bd) w∧RoundIn (Wd none) 0 P (I.sv l).blk f tmps as bd w (fZ (Left I env w0 s s' v))
  | _=>False
section
variable {I:Ip}{env:Env}{n:Nat}{w0 w:World}{s s':St}{F:Fm}{a:Act}{dd:List Deferred}{P:Program}
theorem VA{e z:Nat}(h:(fe P).small e=true)(hz:(fe P).sz e=some z):∃ i zv,P.info? e=some i∧i.bytes≤1000000∧i.zero=some zv∧zv.cells.size=z∧i.size=z:=by
 simp only[fe]at h hz
 obtain⟨i,hi,rfl⟩:=aax.1 hz
 rw[hi]at h
 simp only[BM,dc]at h
 obtain⟨h1,h2⟩:=h
 cases B0:i.zero with
 | none=>simp[B0]at h2
 | some zv =>
  simp only[B0]at h2
  exact⟨i,zv,hi,aae h1,B0,aaf h2,rfl⟩
theorem SR.newRow(h:SR I env w0 s w){m e z k:Nat}{l:List AV}{sv:SV}{w':World}(hf:fresh s (.row e z k l)=some (m,s'))(hr:Row s.nx (k*z) l)(hz:0<z)(hA:iz (.row w0.heap.size sv.v e z k (l.map I.g)) w w') :
  Left I env w0 s s' (.row m []) sv.v w':=by
 have hst:=Step.fresh hf
 obtain⟨e1,e2⟩:=gU hf
 refine⟨I.with s.nx sv #[],Agree.with _ _ _ _,h.add hf sv ⟨hr.n,hz,hr.one,fun v hv=>jH (abL _) v (hr.ok v hv)⟩ ?_,?_,by rw[e2,e1];exact acz _,hst,by rw[e2]⟩
 ·simp only[res]
  rw[(Agree.with I s.nx _ _).map hr.ok,mE]
  exact hA
 ·simp only[Ip.g,ic,ac1,e1,mE]
theorem UG(h:SR I env w0 s w)(hF:FR I s.nx n F a dd){call:jw}{o:Oper}{xs:Array Operand}{ts:Array TypeId}{v:AV}(ho:o.op = .call { callee:=.builtin .append,args:=xs,argTypes:=ts })(hh:lz (fe P) call s F o.op=some (v,s')):Yd P o a.eval w (Left I env w0 s s' v):=by
 rw[ho]at hh
 simp only[lz,acH]at hh
 rw[acx]at hh
 obtain⟨us,yA,hh⟩:=hh
 obtain⟨h1,h2⟩:=hF.evals yA
 split at hh
 ·rename_i x y t t' Kz
  split at hh
  ·cases hh
  ·rename_i IA
   simp only[ne_eq,Decidable.not_not]at IA
   subst IA
   rw[acx]at hh
   obtain⟨d,(hd:P.underlying t=some d),hh⟩:=hh
   cases d<;>simp only at hh<;>try (cases hh;done)
   rename_i e
   rw[acx]at hh
   obtain⟨z,hz,hh⟩:=hh
   rw[acx]at hh
   obtain⟨q,hq,hh⟩:=hh
   split at hh
   ·cases hh
   ·rename_i hc
    simp only[not_or,acO]at hc
    obtain⟨hc1,qg,hc3⟩:=hc
    obtain⟨i,zv,hi,yk,B0,tg,hsize⟩:=VA hc3 hz
    obtain⟨sy,hsy,hy,y1,y2⟩:=lZ h.gk hq
    have DX:∀ u∈q.2.map I.g,u.oneCell' = true:=by
     intro u hu
     obtain⟨u',hu',rfl⟩:=aaK.1 hu
     exact PH (y1 u' hu')
    have hpos:0<z:=ac_
    have hxs:xs.map a.eval = #[I.g x,sy.v]:=by
     rw[←acV,acB,h1];simp[hsy]
    have Nl:ts = #[t,t]:=by rw[←acV];simpa using Kz
    have fin:∀ {u:Value} {w':World},(Builtin.append_ #[t,t] o.type #[I.g x,sy.v]).run P w = .ok u w' → (execOp a.eval o).run P w = .ok (.value u) w':=by
     intro u w' e
     simp only[execOp,ho,resolve,invoke,builtin,Sem.run_bind,Sem.run_pure,Result.andThen_ok,hxs,Nl,e]
    have hrow:∀ (m:Nat) (l:List AV),m≤1000000→Row s.nx (m*z) l→Row s.nx ((m+q.1)*z) (yw l q.2):=by
     intro m l _ hr
     rw[zX]
     refine⟨by rw[abT,hr.n,ab4];have:=hy.n;rw[abl]at this;omega,fun u hu=>?_,fun u hu=>?_⟩
     ·exact(aaF.1 hu).elim (hr.one u) (y1 u)
     ·exact(aaF.1 hu).elim (hr.ok u) (y2 u)
    have hb1:∀ m,m≤1000000→m+q.1≤maxLen∧(m+q.1)*i.bytes≤140737488355328:=by
     intro m hm
     refine⟨by simp only[maxLen];omega,?_⟩
     have:(m+q.1)*i.bytes≤2000000*1000000:=Nat.mul_le_mul ac_ yk
     omega
    split at hh
    ·-- onto nothing
     split at hh
     ·rename_i QU
      simp only[ac9,Prod.mk.injEq]at hh
      obtain⟨rfl,rfl⟩:=hh
      refine Yd.Ab (v:=I.g .nsl) (w':=w) (fin ?_) ⟨I,Agree.refl _ _,h,rfl,trivial,Step.refl _,rfl⟩
      have hl:=hy.len
      rw[QU]at hl
      obtain⟨sa,sl,sc⟩:=sy
      simp only at hl;subst hl
      cases sa<;>simp[ic,Builtin.append_,run_underlying hd,sizeOf,typeInfo,hi,Builtin.lenOf,Builtin.firstCells,loadCells,loadCellsFrom]
     ·rename_i QU
      rw[acx]at hh
      obtain⟨⟨m,s1⟩,hf,hh⟩:=hh
      simp only[ac9,Prod.mk.injEq]at hh
      obtain⟨rfl,rfl⟩:=hh
      obtain⟨AL,H8⟩:=hb1 0 ac_
      obtain⟨Gw,w',hr,hU⟩:=Hm (P:=P) (ty:=o.type) (sv:=SV.nil) (xs:=[]) (m:=0) hd hi B0 hsize tg hpos (World.ownsRow_nil w w0.heap.size e z) hy DX AL H8 h.size
      refine Yd.Ab (fin hr) (h.newRow hf ⟨?_,y1,y2⟩ hpos ⟨⟨hU.io,hU.size,fun k hk _=>hU.block k hk (by simp[di.fp,Value.ownBlock])⟩,?_,fun k hk=>?_⟩)
      ·have:=hy.n;rwa [abl]at this
      ·have:=hU.holds;simpa using this
      ·rcases hU.fp k (by simpa[di.fp]using hk)with h9|h9
       ·simp[di.fp,Value.ownBlock]at h9
       ·exact h9
    ·-- onto a slice without room
     rename_i m off len cap
     split at hh
     ·cases hh
     ·rename_i hlc
      simp only[not_or,Nat.not_le,Nat.not_lt]at hlc
      obtain⟨Ik,hl2⟩:=hlc
      rw[acx]at hh
      obtain⟨p,hp,hh⟩:=hh
      rw[acx]at hh
      obtain⟨⟨m',s1⟩,hf,hh⟩:=hh
      simp only[ac9,Prod.mk.injEq]at hh
      obtain⟨rfl,rfl⟩:=hh
      obtain⟨sx,hsx,hx,x1,x2⟩:=lZ h.gk hp
      have Iy:sx=⟨some ⟨(I.sv m).blk,off,none⟩,len,cap⟩:=by
       have e9:(Value.slice (some ⟨(I.sv m).blk,off,none⟩) len cap)=sx.v:=by rw[←hsx];simp[ic]
       obtain⟨a1,a2,a3⟩:=sx
       simp only[SV.v,Value.slice.injEq]at e9
       obtain⟨r1,r2,r3⟩:=e9
       rw[r1,r2,r3]
      have M_:p.1=len:=by have:=hx.len;rw[Iy]at this;exact this.symm
      rw[M_]at hx
      rw[Iy]at hx
      obtain⟨AL,H8⟩:=hb1 len hl2
      obtain⟨Gw,w',hr,hA⟩:=Ao (P:=P) (ty:=o.type) (lo:=w0.heap.size) hd hi B0 hsize tg hx hy Ik AL H8 h.size
      have Gn:Row s.nx (len*z) p.2:=⟨by have:=hx.n;rwa [abl]at this,x1,x2⟩
      refine Yd.Ab (v:=Gw.v) (w':=w') (fin ?_) (h.newRow hf (hrow len p.2 hl2 Gn) hpos ?_)
      ·rw[show I.g (.sl m off len cap) = .slice (some ⟨(I.sv m).blk,off,none⟩) len cap by simp[ic]];exact hr
      ·rw[zX,aa3];exact hA
    ·-- onto a row
     rename_i m
     split at hh
     ·rename_i e' z' c l hm
      split at hh
      ·rename_i hcc
       obtain⟨rfl,rfl,hcm⟩:=hcc
       rw[acx]at hh
       obtain⟨⟨m',s1⟩,hf,hh⟩:=hh
       simp only[ac9,Prod.mk.injEq]at hh
       obtain⟨rfl,rfl⟩:=hh
       obtain⟨hk,hok⟩:=h.ok m _ hm
       have hown:w.ownsRow w0.heap.size e' z' (I.sv m).v c (l.map I.g):=h.holds m _ hm
       obtain⟨AL,H8⟩:=hb1 c hcm
       obtain⟨Gw,w',hr,hU⟩:=Hm (P:=P) (ty:=o.type) hd hi B0 hsize tg hpos hown hy DX AL H8 h.size
       have Gn:=hrow c l hcm ⟨hok.1,hok.2.2.1,hok.2.2.2⟩
       have hst:Step s s1:=(Step.wrote s m .dead).trans (Step.fresh hf)
       obtain⟨e1,e2⟩:=gU hf
       have Ku:m' = s.nx:=e1
       refine Yd.Ab (v:=Gw.v) (w':=w') (fin ?_) ⟨I.with s.nx Gw #[],Agree.with _ _ _ _,h.move hm hf Gw ⟨Gn.n,hpos,Gn.one,fun v hv=>jH (abL _) v (Gn.ok v hv)⟩ ?_,?_,by rw[e2,Ku];exact acz _,hst,by rw[e2];rfl⟩
       ·rw[show I.g (.row m [])=(I.sv m).v by simp[ic]];exact hr
       ·simp only[res]
        rw[(Agree.with I s.nx _ _).map Gn.ok,mE,zX,aa3]
        exact hU
       ·simp only[Ip.g,ic,ac1,Ku,mE]
      ·cases hh
     ·cases hh
    ·cases hh
 ·cases hh
theorem W5(h:SR I env w0 s w)(hF:FR I s.nx n F a dd){call:jw}(hC:lx P w0 env call){o:Oper}{x:Operand}{xs:Array Operand}{ts:Array TypeId}{v:AV}(ho:o.op = .call { callee:=.value x,args:=xs,argTypes:=ts })(hh:lz (fe P) call s F o.op=some (v,s')):Yd P o a.eval w (Left I env w0 s s' v):=by
 rw[ho]at hh
 simp only[lz,acH]at hh
 rw[acx]at hh
 obtain⟨g,hg,hh⟩:=hh
 rw[acx]at hh
 obtain⟨us,yA,hh⟩:=hh
 obtain⟨h1,h2⟩:=hF.evals yA
 obtain⟨h3,h4⟩:=hF.eval hg
 have hxs:xs.map a.eval=(us.map I.g).toArray:=by
  rw[←acV,acB,h1]
 have hc:=hC I s s' w g us v hh h h4 h2
 cases g<;>try (exact hc.elim)
 case f q fs cs =>
  obtain⟨c1,c2⟩:=hc
  unfold Yd
  simp only[execOp,ho,resolve,h3,ic,fD,Deferred.ofValue,invoke,Sem.run_bind,Sem.run_pure,Result.andThen_ok,hxs,ab3,c1]
  simp only[aa3]at c2
  exact c2
 case y l =>
  obtain⟨f,tmps,as,bd,c1,c2⟩:=hc
  unfold Yd
  simp only[execOp,ho,resolve,h3,ic,Deferred.ofValue,invoke,Sem.run_bind,Sem.run_pure,Result.andThen_ok,hxs,ab1,c1]
  exact c2
theorem VU(h:SR I env w0 s w)(hF:FR I s.nx n F a dd){call:jw}(hC:lx P w0 env call){o:Oper}{v:AV}(hh:lz (fe P) call s F o.op=some (v,s')):Yd P o a.eval w (Left I env w0 s s' v):=by
 have h0:=hh
 cases ho:o.op with
 | alloc e=>exact VR h hF ho hh
 | box e x=>exact XJ h hF ho hh
 | store t x y=>exact VT h hF ho hh
 | buildSlice t len ps=>exact FO h hF ho hh
 | convert t t' x=>exact T8 h hF ho hh
 | makeMap t r =>
  cases r with
  | none=>exact T9 h ho hh
  | some r=>rw[ho]at hh;simp[lz]at hh
 | mapUpdate t m k x=>exact G8 h hF ho hh
 | call c =>
  obtain⟨callee,xs,ts⟩:=c
  cases callee with
  | builtin b =>
   cases b<;>first
    | exact UG h hF ho hh
    | (rw[ho]at hh;simp[lz]at hh)
  | value x=>exact W5 h hF hC ho hh
  | invoke x y=>rw[ho]at hh;simp[lz]at hh
 | _=>rw[ho]at hh;simp[lz]at hh
theorem Ep(h:SR I env w0 s w)(hF:FR I s.nx n F a dd){call:jw}(hC:lx P w0 env call){o:Oper}{v:AV}(hh:Hq (fe P) call s F o.op=some (v,s')):Yd P o a.eval w (Left I env w0 s s' v):=by
 unfold Hq at hh
 have hact:=VU (P:=P) h hF hC (o:=o) (v:=v) (s':=s')
 split at hh
 ·split at hh
  ·rename_i u hu
   simp only[ac9,Prod.mk.injEq]at hh
   obtain⟨rfl,rfl⟩:=hh
   obtain⟨h1,h2⟩:=zY h.gk hF hu
   exact Yd.Ab h1 ⟨I,Agree.refl _ _,h,rfl,h2,Step.refl _,rfl⟩
  ·exact hact hh
 ·exact hact hh
end
end Go.Ev
end
section
namespace Go.Ev
open Go.Fw
theorem Yd.ex{P:Program}{o:Oper}{ρ:Operand→Value}{w:World}{J:Value→World→Prop}(h:Yd P o ρ w J):∃ v w',J v w':=by
 unfold Yd at h
 generalize (execOp ρ o).run P w=r at h
 cases r with
 | halt _ _=>exact h.elim
 | ok x w' =>
  cases x<;>simp only at h
  case value=>exact⟨_,_,h⟩
  case skip=>exact⟨_,_,h⟩
  case enter f args =>
   obtain⟨e,w2,fr,hr,_⟩:=h []
   cases e<;>first|exact⟨_,_,hr⟩|exact hr.elim
  case round l f tmps assign body =>
   obtain⟨e,w2,hr,_⟩:=h.2 default [] (room_wide _)
   cases e<;>first|exact⟨_,_,hr⟩|exact hr.elim
theorem SR.wr{I:Ip}{env:Env}{w0 w:World}{s:St}(h:SR I env w0 s w)(l:List Nat):SR I env w0 { s with wr:=l } w:=⟨h.old,h.io,h.ok,h.holds,h.low,h.apart,h.dW,h.env⟩
section
variable {r:Option Nat}{I:Ip}{env:Env}{n:Nat}{w0 w:World}{s s':St}{F F':Fm}{a:Act}{dd:List Deferred}{P:Program}{ops:Array Oper}{call:jw}{Q:Exit→Act→World→Prop}
def Then(I:Ip)(env:Env)(w0:World)(n:Nat)(dd:List Deferred)(s:St)(F':Fm)(s':St)(K:Act→World→Prop):Prop :=
 ∀ I' a' w',Agree s.nx I I' → SR I' env w0 s' w' → FR I' s'.nx n F' a' dd→Step s s' → s'.dW=s.dW→K a' w'
theorem VX(hC:lx P w0 env call):∀ (l:List Oper) {F:Fm} {s:St} {I:Ip} {a:Act} {w:World},zE (fe P) call n ops l F s=some (F',s')→SR I env w0 s w→FR I s.nx n F a dd →
  Then I env w0 n dd s F' s' (Q .normal)→vi r P ops Q l a w:=by
 intro l
 induction l with
 | nil =>
  intro F s I a w hh h hF hQ
  simp only[zE,ac9,Prod.mk.injEq]at hh
  obtain⟨rfl,rfl⟩:=hh
  exact hQ I a w (Agree.refl _ _) h hF (Step.refl _) rfl
 | cons o l ih =>
  intro F s I a w hh h hF hQ
  simp only[zE,acH]at hh
  rw[acx]at hh
  obtain⟨b,hb,hh⟩:=hh
  have hw:=hF.want hb
  refine wpListIn_step fun _ hK=>?_
  rw[hw]
  cases b with
  | true =>
   simp only[if_true]at hh ⊢
   rw[acx]at hh
   obtain⟨⟨v,s1⟩,hq,hh⟩:=hh
   rw[KT,acx]at hh
   obtain⟨F1,rW,hh⟩:=hh
   refine Yd.wp ((Ep h hF hC hq).mono fun u w' hA=>?_)
   obtain⟨I',hA⟩:=hA
   refine hK _ _ (ih hh hA.sr (by rw[hA.val];exact(hF.agree hA.ag hA.step.nx).oz rW hA.NW) ?_)
   intro I2 a2 w2 ag hs hf hst hm
   exact hQ I2 a2 w2 (hA.ag.trans ag hA.step.nx) hs hf (hA.step.trans hst) (hm.trans hA.dW)
  | false =>
   simp only[abq,if_false]at hh ⊢
   rw[acx]at hh
   obtain⟨F1,rW,hh⟩:=hh
   exact⟨fun _ _=>trivial,hK _ _ (ih hh h (by have:=hF.oz rW (v:=.nh) trivial;simpa only[Ip.g,ic]using this) hQ)⟩
theorem HV{es es':List (AV×AV×Nat)}(h1:es.map (·.1)=es'.map (·.1))(h2:es.map (·.2.1)=es'.map (·.2.1))(h3:es.map (·.2.2)=es'.map (·.2.2)):es=es':=by
 induction es generalizing es' with
 | nil=>cases es' <;> simp at h1 ⊢
 | cons e es ih =>
  cases es' with
  | nil=>simp at h1
  | cons e' es' =>
   simp only[aa4,List.cons.injEq]at h1 h2 h3
   obtain⟨a,b,c⟩:=e
   obtain⟨a',b',c'⟩:=e'
   simp only at h1 h2 h3
   rw[ih h1.2 h2.2 h3.2,h1.1,h2.1,h3.1]
theorem W7{x y:kC}(h:LD x y=true):x=y:=by
 cases x<;>cases y<;>simp only[LD,dc,aaE,aad,abq,beq_iff_eq]at h<;>try rfl
 case pt.pt=>obtain⟨⟨rfl,rfl⟩,h⟩:=h;rw[mC _ _ h]
 case fz.fz=>obtain⟨⟨rfl,rfl⟩,h⟩:=h;rw[mC _ _ h]
 case row.row=>obtain⟨⟨⟨rfl,rfl⟩,rfl⟩,h⟩:=h;rw[mC _ _ h]
 case map.map=>obtain⟨⟨⟨rfl,h1⟩,h2⟩,h3⟩:=h;rw[HV (mC _ _ h1) (mC _ _ h2) h3]
 case loop.loop=>obtain⟨rfl,rfl⟩:=h;rfl
 case defd.defd=>rw[h]
theorem Ww(f:Nat→Nat)(l:List AV):qu f l=l.map (ren f):=by
 induction l with
 | nil=>simp[qu]
 | cons v l ih=>simp[qu,ih]
def Ip.ren(I:Ip)(f:Nat→Nat):Ip:=⟨fun m=>I.sv (f m),fun m=>I.arr (f m),fun m=>I.fn (f m)⟩
theorem Ip.ren_g(I:Ip)(f:Nat→Nat)(v:AV):(I.ren f).g v=I.g (Ev.ren f v):=(F8 I.sv f v).symm
theorem Ip.ren_map(I:Ip)(f:Nat→Nat)(l:List AV):(qu f l).map I.g=l.map (I.ren f).g:=by
 rw[Ww,acN];exact acQ fun v _=>(I.ren_g f v).symm
theorem Wx{f:Nat→Nat}{lo m:Nat}{o:kC}(he:ij env (f m)=ij env m)(hL:∀ L,ij env m=some L→f m=m∧f L.d=L.d):res (I.ren f) env lo m o=res I env lo (f m) (Fa f o):=by
 cases o<;>simp only[res,Fa,Ip.ren_map]<;>try rfl
 case map es c =>
  simp only[acN]
  have e:(es.map fun e=>(⟨(I.ren f).g e.1,(I.ren f).g e.2.1,e.2.2⟩ : MapEntry))=es.map ((fun e=>(⟨I.g e.1,I.g e.2.1,e.2.2⟩ : MapEntry))∘fun e=>(Ev.ren f e.1,Ev.ren f e.2.1,e.2.2)) :=
   acQ fun e _=>by simp only[Function.comp,Ip.ren_g]
  rw[e];rfl
 case loop st pd =>
  rw[he]
  cases hh:ij env m with
  | none=>rfl
  | some L =>
   obtain⟨h1,h2⟩:=hL L hh
   simp only[lH,Ip.ren,h1,h2]
theorem TE{l:List Nat}(h:ni l=true):∀ (i j x:Nat),l[i]? = some x→l[j]? = some x→i=j:=by
 induction l with
 | nil=>intro i j x hi;simp at hi
 | cons y l ih =>
  simp only[ni,dc,aar,aas,aat]at h
  intro i j x hi hj
  cases i with
  | zero =>
   cases j with
   | zero=>rfl
   | succ j=>simp at hi hj;subst hi;exact absurd (abj hj) h.1
  | succ i =>
   cases j with
   | zero=>simp at hi hj;subst hj;exact absurd (abj hi) h.1
   | succ j=>simp at hi hj;rw[ih h.2 i j x hi hj]
theorem Vy{I0:Ip}{s0 s1 s2:St}{F1 F2:Fm}{f:Nat→Nat}{wa:World}(Gj:SR I0 env w0 s0 wa)(hf:∀ m,m<s0.nx→f m=m)(hs:wG n s0.nx f F1 s1 F2 s2=true)
  (st1:Step s0 s1) (st2:Step s0 s2) {I1:Ip} {a1:Act} {w1:World} (h1:SR I1 env w0 s1 w1) (rW:FR I1 s1.nx n F1 a1 dd)
  {I2:Ip} {a2:Act} {w2:World} (ag:Agree s0.nx I0 I2) (h2:SR I2 env w0 s2 w2) (LL:FR I2 s2.nx n F2 a2 dd) :
  Agree s0.nx I0 (I2.ren f)∧SR (I2.ren f) env w0 s1 w2∧FR (I2.ren f) s1.nx n F1 a2 dd∧s2.nx=s1.nx:=by
 simp only[wG,dc,aac,aaC,aaE,aad,aaD,aaF,aaH,aaK]at hs
 obtain⟨⟨⟨⟨⟨⟨⟨EO,hmk⟩,YX⟩,hnd⟩,hfr⟩,hw1⟩,hw2⟩,hob⟩:=hs
 have M8:=st1.nx
 have Qy:Agree s0.nx I0 (I2.ren f):=⟨fun m hm=>by simp only[Ip.ren,hf m hm];exact ag.sv m hm,fun m hm=>by simp only[Ip.ren,hf m hm];exact ag.arr m hm,fun m hm=>by simp only[Ip.ren,hf m hm];exact ag.fn m hm⟩
 have Le:Agree s0.nx I2 (I2.ren f):=⟨fun m hm=>by simp only[Ip.ren,hf m hm],fun m hm=>by simp only[Ip.ren,hf m hm],fun m hm=>by simp only[Ip.ren,hf m hm]⟩
 have hge:∀ m,s0.nx≤m→m<s1.nx→s0.nx≤f m∧f m<s1.nx:=by
  intro m h3 h4
  have:=YX (m-s0.nx) ac_
  rw[show s0.nx+(m-s0.nx)=m by omega]at this
  exact⟨aae this.1,aae this.2⟩
 have hinj:∀ m m',m<s1.nx→m' < s1.nx→f m=f m' → m=m':=by
  intro m m' h3 h4 h5
  by_cases c1:m<s0.nx
  ·by_cases c2:m' < s0.nx
   ·rw[hf m c1,hf m' c2]at h5;exact h5
   ·have:=hge m' ac_ h4;rw[hf m c1]at h5;omega
  ·by_cases c2:m' < s0.nx
   ·have:=hge m ac_ h3;rw[hf m' c2]at h5;omega
   ·have key:=TE hnd (m-s0.nx) (m' - s0.nx) (f m)
    have e1:((List.range (s1.nx-s0.nx)).map fun m=>f (s0.nx+m))[m-s0.nx]? = some (f m):=by
     rw[abE,ac2 ac_];simp only[aaI];rw[show s0.nx+(m-s0.nx)=m by omega]
    have e2:((List.range (s1.nx-s0.nx)).map fun m=>f (s0.nx+m))[m' - s0.nx]? = some (f m):=by
     rw[abE,ac2 ac_];simp only[aaI];rw[show s0.nx+(m' - s0.nx)=m' by omega,h5]
    have:=key e1 e2
    omega
 -- each thing of the one way is one of the other
 have ky:∀ m o,find s1.h m=some o → ∃ o',find s2.h (f m)=some o' ∧ res (I2.ren f) env w0.heap.size m o=res I2 env w0.heap.size (f m) o':=by
  intro m o hm
  have hlt:=(h1.ok m o hm).1
  by_cases c:m<s0.nx∧m∉s1.wr
  ·obtain⟨c1,c2⟩:=c
   have e1:find s0.h m=some o:=by rw[←st1.wU m c1 c2];exact hm
   have c3:m∉s2.wr:=by
    intro hx
    rcases hw2 m hx with h3|h3
    ·exact c2 (fG.1 h3)
    ·have:=aae h3;omega
   refine⟨o,by rw[hf m c1,st2.wU m c1 c3];exact e1,?_⟩
   rw[hf m c1]
   exact yC Le (fun L hL=>(Gj.env.name m L hL).2) rfl (Gj.ok m o e1).2 c1
  ·have hmem:(m∈s1.wr∧Nat.blt m s0.nx=true) ∨ ∃ q,q<s1.nx-s0.nx∧s0.nx+q=m:=by
    by_cases c1:m<s0.nx
    ·exact .inl ⟨Classical.byContradiction fun x=>c ⟨c1,x⟩,by rw[ac3];exact c1⟩
    ·exact .inr ⟨m-s0.nx,ac_,ac_⟩
   have:=hob m hmem
   rw[hm]at this
   cases hx:find s2.h (f m)with
   | none=>simp[hx]at this
   | some o' =>
    simp only[hx]at this
    have e:=W7 this
    refine⟨o',rfl,?_⟩
    rw[←e]
    refine Wx ?_ fun L hL=>?_
    ·by_cases c1:m<s0.nx
     ·rw[hf m c1]
     ·have q1:ij env m=none:=by
       cases q:ij env m with
       | none=>rfl
       | some L=>have:=(Gj.env.name m L q).1;omega
      have q2:ij env (f m)=none:=by
       cases q:ij env (f m)with
       | none=>rfl
       | some L=>have:=(Gj.env.name _ L q).1;have:=(hge m ac_ hlt).1;omega
      rw[q1,q2]
    ·obtain⟨q1,q2⟩:=Gj.env.name m L hL
     exact⟨hf m q1,hf _ q2⟩
 refine⟨Qy,⟨h2.old,h2.io,h1.ok,fun m o hm=>?_,fun m o hm b hb=>?_,?_,h1.dW,Gj.env.agree Qy M8⟩,?_,EO.symm⟩
 ·obtain⟨o',e1,e2⟩:=ky m o hm;rw[e2];exact h2.holds _ _ e1
 ·obtain⟨o',e1,e2⟩:=ky m o hm;rw[e2]at hb;exact h2.low _ _ e1 b hb
 ·intro m m' o o' hm QN hne b hb hb'
  obtain⟨p,e1,e2⟩:=ky m o hm
  obtain⟨p',Ku,Yt⟩:=ky m' o' QN
  rw[e2]at hb
  rw[Yt]at hb'
  exact h2.apart _ _ p p' e1 Ku (fun x=>hne (hinj m m' (h1.ok m o hm).1 (h1.ok m' o' QN).1 x)) b hb hb'
 ·refine⟨LL.defers,LL.size,fun t v hv=>?_⟩
  obtain⟨q1,q2,_⟩:=rW.get t v hv
  refine⟨q1,q2,?_⟩
  have:=hfr t q1
  rw[hv]at this
  cases hx:F2.get t with
  | none=>simp[hx]at this
  | some v' =>
   simp only[hx]at this
   have e:=Qd _ _ this
   rw[Ip.ren_g,e]
   exact(LL.get t v' hx).2.2
end
end Go.Ev
end
section
namespace Go.Ev
open Go.Fw
theorem Uc{acc:List Nat}(l:List Nat)(m0:Nat)(j:Nat):(l.foldl (fun m p=>m ||| 2^p ||| acc.getD p 0) m0).testBit j=true→m0.testBit j=true ∨ ∃ p∈l,p=j∨(acc.getD p 0).testBit j=true:=by
 induction l generalizing m0 with
 | nil=>intro h;exact .inl h
 | cons p l ih =>
  intro h
  simp only[ack]at h
  rcases ih _ h with h|⟨q,hq,h⟩
  ·rw[Nat.testBit_or,Nat.testBit_or]at h
   simp only[aaD]at h
   rcases h with(h|h)|h
   ·exact .inl h
   ·rw[Nat.testBit_two_pow]at h
    exact .inr ⟨p,aaR,.inl (by simpa using h)⟩
   ·exact .inr ⟨p,aaR,.inr h⟩
  ·exact .inr ⟨q,aaN _ hq,h⟩
theorem Po(ops:Array Oper)(k:Nat):let acc:=(List.range k).foldl (fun acc i=>acc ++ [(iq ops i).foldl (fun m p=>m ||| 2^p ||| acc.getD p 0) 0]) ([]:List Nat)
  acc.length=k ∧ ∀ e j,e<k→(acc.getD e 0).testBit j=true → ∀ b_:Array Bool,b_.size=ops.size→(∀ i,i<ops.size→b_.getD i true=true → ∀ p∈iq ops i,b_.getD p true=true) →
   (∀ p∈iq ops e,b_.getD p true=true)→b_.getD j true=true:=by
 induction k with
 | zero=>simp
 | succ k ih =>
  simp only[aa2,ac4,ack,ac1]at ih ⊢
  generalize (List.range k).foldl (fun acc i=>acc ++ [(iq ops i).foldl (fun m p=>m ||| 2^p ||| acc.getD p 0) 0]) ([]:List Nat)=acc at ih ⊢
  obtain⟨h1,h2⟩:=ih
  refine⟨by simp[h1],fun e j he hb b_ hs hcl ha=>?_⟩
  by_cases YI:e<k
  ·refine h2 e j YI ?_ b_ hs hcl ha
   rw[ac5,aaZ ac_]at hb
   rw[ac5];exact hb
  ·have:e=k:=ac_
   subst this
   rw[ac5,aa0 ac_,h1,abg]at hb
   simp only[acP,aaJ]at hb
   rcases Uc _ _ _ hb with hb|⟨p,hp,hb⟩
   ·simp at hb
   ·have hl:=ha p hp
    rcases hb with rfl|hb
    ·exact hl
    ·by_cases QS:p<e
     ·by_cases hps:p<ops.size
      ·exact h2 p j QS hb b_ hs hcl (hcl p hps hl)
      ·refine h2 p j QS hb b_ hs hcl ?_
       intro q hq
       simp[iq,aaQ (by omega:ops.size≤p)]at hq
     ·rw[ac5,aaj ac_]at hb
      simp at hb
theorem V9{ops:Array Oper}{T:List Nat}{e:Nat}(h:DV ops T e=true):zg ops T e:=by
 intro b_ hs hcl ha j hj
 have hb:=aac.1 h j hj
 by_cases he:e<ops.size
 ·exact .inr ((Po ops ops.size).2 e j he hb b_ hs hcl ha)
 ·have:=(Po ops ops.size).1
  unfold DJ at hb
  rw[ac5,aaj ac_]at hb
  simp at hb
theorem SU{l acc:List Nat}{m:Nat}(h:m∈acc):m∈l.foldl (fun acc n=>bif ji n acc then acc else n::acc) acc:=by
 induction l generalizing acc with
 | nil=>exact h
 | cons x l ih =>
  simp only[ack]
  refine ih ?_
  cases ji x acc<;>simp[h]
theorem jG{F:Fm}{x:Operand}{acc:List Nat}{m:Nat}(h:m∈acc):m∈kZ F x acc:=by
 unfold kZ
 split
 ·exact SU h
 ·exact h
theorem SL{F:Fm}{l:List Operand}{acc:List Nat}{m:Nat}(h:m∈acc):m∈l.foldl (fun acc x=>kZ F x acc) acc:=by
 induction l generalizing acc with
 | nil=>exact h
 | cons x l ih=>exact ih (jG h)
theorem SY{F:Fm}{o:Op}{acc:List Nat}{m:Nat}(h:m∈acc):m∈mY F o acc:=by
 unfold mY
 split
 ·exact jG h
 ·split<;>first|exact jG h|exact h
 ·exact jG h
 ·exact jG h
 ·split<;>first|exact jG h|exact h
 ·split<;>first|exact jG h|exact h
 ·exact SL h
 ·exact h
theorem Vl{p:Nat→Bool}{l:List Nat}{i:Nat}(h:x6 p l=some i):p i=true:=by
 induction l with
 | nil=>simp[x6]at h
 | cons x l ih =>
  simp only[x6]at h
  cases hb:p x with
  | true=>simp only[hb,abw,ac9]at h;subst h;exact hb
  | false=>simp only[hb,abt]at h;exact ih h
theorem Us{xZ:Nat}{l l':Log}{m:Nat}(h:m<xZ):yQ xZ l l' m=m:=by
 unfold yQ
 have:Nat.blt m xZ=true:=by rw[ac3];exact h
 rw[this];rfl
section
variable {r:Option Nat}{env:Env}{n:Nat}{w0:World}{dd:List Deferred}{P:Program}{ops:Array Oper}{call:jw}{Q:Exit→Act→World→Prop}
def Lk(I:Ip)(env:Env)(w0:World)(rd:List Nat)(s:St)(w:World):Prop:=∀ m∈rd,∀ o,find s.h m=some o→(res I env w0.heap.size m o).holds w
theorem Lk.gk{I:Ip}{rd:List Nat}{s:St}{w wa:World}(h:Lk I env w0 rd s w)(ha:SR I env w0 s wa):GK I env w0.heap.size s.nx w (u_ rd s.h):=by
 have key:∀ m o,u_ rd s.h m=some o→m∈rd∧find s.h m=some o:=by
  intro m o e
  unfold u_ at e
  cases hb:ji m rd with
  | true=>rw[hb]at e;exact⟨fG.1 hb,e⟩
  | false=>rw[hb]at e;simp at e
 exact⟨fun m o e=>h m (key m o e).1 o (key m o e).2,fun m o e=>⟨(ha.ok m o (key m o e).2).2,(ha.ok m o (key m o e).2).1⟩⟩
theorem rP{next:tZ}{R D:List Nat}{F:Fm}{rd:List Nat}{s:St}{lg:Log}{e:Nat}{x:Fm×St×Log}(h:vu (fe P) call n ops next R D F rd s lg e=some x) :
  ∃ o v s1 B5 F1,ops[e]? = some o∧lu o=true∧qC ops F o=some true∧Hq (fe P) call { s with wr:=[] } F o.op=some (v,s1)∧yy ops D e s.nx rd s1.wr=some B5∧oz n F o.dst v=some F1 ∧
   next (uw e R) (e::D) F1 B5 { s1 with wr:=s1.wr++s.wr } ((e,s.nx,s1.nx)::lg)=some x:=by
 simp only[vu,acH]at h
 rw[acx]at h
 obtain⟨o,ho,h⟩:=h
 split at h
 ·rename_i hc
  simp only[dc,beq_iff_eq]at hc
  rw[acx]at h
  obtain⟨⟨v,s1⟩,hq,h⟩:=h
  rw[acx]at h
  obtain⟨B5,hrd,h⟩:=h
  rw[KT,acx]at h
  obtain⟨F1,rW,h⟩:=h
  exact⟨o,v,s1,B5,F1,ho,hc.1,hc.2,hq,hrd,rW,h⟩
 ·cases h
theorem yX{next:tZ}{R D:List Nat}{F:Fm}{rd:List Nat}{s:St}{lg:Log}{i:Nat}{x:Fm×St×Log}(h:Az (fe P) n ops next R D F rd s lg i=some x) :
  ∃ o,ops[i]? = some o∧((∃ v F1,qC ops F o=some true∧jd (fe P) (u_ (mY F o.op rd) s.h) F o.op=some v∧oz n F o.dst v=some F1∧next (uw i R) (i::D) F1 (mY F o.op rd) s lg=some x) ∨
   (∃ F1,qC ops F o=some false∧oz n F o.dst .nh=some F1∧next (uw i R) (i::D) F1 rd s lg=some x)):=by
 simp only[Az,acH]at h
 rw[acx]at h
 obtain⟨o,ho,h⟩:=h
 refine⟨o,ho,?_⟩
 rw[acx]at h
 obtain⟨b,hb,h⟩:=h
 cases b with
 | true =>
  simp only[if_true]at h
  rw[acx]at h
  obtain⟨v,hv,h⟩:=h
  rw[KT,acx]at h
  obtain⟨F1,rW,h⟩:=h
  exact .inl ⟨v,F1,hb,hv,rW,h⟩
 | false =>
  simp only[abq,if_false]at h
  rw[acx]at h
  obtain⟨F1,rW,h⟩:=h
  exact .inr ⟨F1,hb,rW,h⟩
theorem Step.app{s s1:St}(h:Step { s with wr:=[] } s1):Step s { s1 with wr:=s1.wr++s.wr } :=
 ⟨h.nx,fun m _ hm=>aaF.2 (.inr hm),fun m hm hn=>h.wU m hm fun x=>hn (aaF.2 (.inl x))⟩
def Ends(I:Ip)(env:Env)(w0:World)(n:Nat)(dd:List Deferred)(s:St)(F':Fm)(s':St):Prop :=
 ∃ I' a' w',Agree s.nx I I' ∧ SR I' env w0 s' w' ∧ FR I' s'.nx n F' a' dd∧Step s s' ∧ s'.dW=s.dW
theorem Dh(hC:lx P w0 env call){next:tZ}(ih:∀ R D F rd s lg x,next R D F rd s lg=some x → ∀ I a w,SR I env w0 s w→FR I s.nx n F a dd→Ends I env w0 n dd s x.1 x.2.1)
  {R D:List Nat} {F:Fm} {rd:List Nat} {s:St} {lg:Log} {e:Nat} {x:Fm×St×Log} (hh:vu (fe P) call n ops next R D F rd s lg e=some x)
  {I:Ip} {a:Act} {w:World} (h:SR I env w0 s w) (hF:FR I s.nx n F a dd):Ends I env w0 n dd s x.1 x.2.1:=by
 obtain⟨o,v,s1,B5,F1,ho,_,_,hq,_,rW,hn⟩:=rP hh
 obtain⟨u,w',I',hA⟩:=Yd.ex (Ep (h.wr []) hF hC hq)
 obtain⟨I2,a2,w2,q1,q2,q3,q4,q5⟩:=ih _ _ _ _ _ _ _ hn I' (a.put o.dst (I'.g v)) w' (hA.sr.wr _) ((hF.agree hA.ag hA.step.nx).oz rW hA.NW)
 exact⟨I2,a2,w2,hA.ag.trans q1 hA.step.nx,q2,q3,hA.step.app.trans q4,q5.trans hA.dW⟩
theorem UJ(hC:lx P w0 env call):∀ (k:Nat) (R D:List Nat) (F:Fm) (rd:List Nat) (s:St) (lg:Log) (x:Fm×St×Log),o5 (fe P) call n ops k R D F rd s lg=some x →
  ∀ I a w,SR I env w0 s w→FR I s.nx n F a dd→Ends I env w0 n dd s x.1 x.2.1:=by
 intro k
 induction k with
 | zero=>intro R D F rd s lg x hh;simp[o5]at hh
 | succ k ih =>
  intro R D F rd s lg x hh I a w h hF
  cases R with
  | nil =>
   simp only[o5]at hh
   split at hh
   ·simp only[ac9]at hh;subst hh
    exact⟨I,a,w,Agree.refl _ _,h,hF,Step.refl _,rfl⟩
   ·cases hh
  | cons r0 R0 =>
   simp only[o5]at hh
   split at hh
   ·rename_i i hi
    obtain⟨o,ho,hx⟩:=yX hh
    rcases hx with⟨v,F1,hw,hv,rW,hn⟩|⟨F1,hw,rW,hn⟩
    ·have hlk:Lk I env w0 (mY F o.op rd) s w:=fun m _ o e=>h.holds m o e
     obtain⟨g1,g2⟩:=zY (hlk.gk h) hF hv
     exact ih _ _ _ _ _ _ _ hn I (a.put o.dst (I.g v)) w h (hF.oz rW g2)
    ·exact ih _ _ _ _ _ _ _ hn I (a.put o.dst undef) w h (by have:=hF.oz rW (v:=.nh) trivial;simpa only[Ip.g,ic]using this)
   ·split at hh
    ·cases hh
    ·rename_i e es he
     rw[acH,acx]at hh
     obtain⟨x',hx,hh⟩:=hh
     split at hh
     ·simp only[ac9]at hh;subst hh
      exact Dh hC ih hx h hF
     ·cases hh
theorem F3(hC:lx P w0 env call){next:tZ}
  (ih:∀ R D F rd s lg x,next R D F rd s lg=some x → ∀ I a,(∃ w,SR I env w0 s w)→FR I s.nx n F a dd→Then I env w0 n dd s x.1 x.2.1 (Q .normal)→DW r P ops Q D (Lk I env w0 rd s) (SR I env w0 s) a)
  {R D:List Nat} {F:Fm} {rd:List Nat} {s:St} {lg:Log} {e:Nat} {x:Fm×St×Log} (hh:vu (fe P) call n ops next R D F rd s lg e=some x)
  {I:Ip} {a:Act} (hF:FR I s.nx n F a dd) (hQ:Then I env w0 n dd s x.1 x.2.1 (Q .normal)):Ex r P ops Q D (Lk I env w0 rd s) (SR I env w0 s) a e:=by
 obtain⟨o,v,s1,B5,F1,ho,hns,IC,hq,hrd,rW,hn⟩:=rP hh
 refine⟨o,ho,hF.want IC,hns,fun w zj LN=>?_⟩
 refine(Ep (LN.wr []) hF hC hq).mono fun u w' hA=>?_
 obtain⟨I',hA⟩:=hA
 have hs1:SR I' env w0 { s1 with wr:=s1.wr++s.wr } w':=hA.sr.wr _
 refine⟨Lk I' env w0 B5 { s1 with wr:=s1.wr++s.wr },SR I' env w0 { s1 with wr:=s1.wr++s.wr },fun m _ o e=>hs1.holds m o e,hs1,?_,?_⟩
 ·unfold yy at hrd
  split at hrd
  ·rename_i hsy
   exact .inr (V9 hsy)
  ·split at hrd
   ·rename_i hall
    simp only[ac9]at hrd
    subst hrd
    refine .inl fun y hy m hm ob hob=>?_
    obtain⟨hlt,hok⟩:=LN.ok m ob hob
    have YS:m∉s1.wr:=by
     intro hx
     have:=aac.1 hall m hx
     simp only[aaD,aar]at this
     rcases this with h1|h1
     ·have:=aae h1;omega
     ·rw[fG.2 hm]at h1;cases h1
    have e1:find s1.h m=some ob:=by rw[hA.step.wU m hlt YS];exact hob
    have:=hy m hm ob e1
    rwa [yC hA.ag (fun L hL=>(LN.env.name m L hL).2) rfl hok hlt]at this
   ·cases hrd
 ·rw[hA.val]
  refine ih _ _ _ _ _ _ _ hn I' (a.put o.dst (I'.g v)) ⟨w',hs1⟩ ((hF.agree hA.ag hA.step.nx).oz rW hA.NW) ?_
  intro I2 a2 w2 q1 q2 q3 q4 q5
  exact hQ I2 a2 w2 (hA.ag.trans q1 hA.step.nx) q2 q3 (hA.step.app.trans q4) (q5.trans hA.dW)
theorem UK(hC:lx P w0 env call)(kU:chk ops=true):∀ (k:Nat) (R D:List Nat) (F:Fm) (rd:List Nat) (s:St) (lg:Log) (x:Fm×St×Log),o5 (fe P) call n ops k R D F rd s lg=some x →
  ∀ I a,(∃ w,SR I env w0 s w)→FR I s.nx n F a dd→Then I env w0 n dd s x.1 x.2.1 (Q .normal)→DW r P ops Q D (Lk I env w0 rd s) (SR I env w0 s) a:=by
 intro k
 induction k with
 | zero=>intro R D F rd s lg x hh;simp[o5]at hh
 | succ k ih =>
  intro R D F rd s lg x hh I a hw hF hQ
  cases R with
  | nil =>
   simp only[o5]at hh
   split at hh
   ·rename_i hall
    simp only[ac9]at hh;subst hh
    exact Qc kU hall fun w h=>hQ I a w (Agree.refl _ _) h hF (Step.refl _) rfl
   ·cases hh
  | cons r0 R0 =>
   simp only[o5]at hh
   split at hh
   ·rename_i i hi
    have hp:=Vl hi
    simp only[dc]at hp
    obtain⟨o,ho,hx⟩:=yX hh
    obtain⟨wa,ha⟩:=hw
    rcases hx with⟨v,F1,IC,hv,rW,hn⟩|⟨F1,IC,rW,hn⟩
    ·refine VL (JZ:=Lk I env w0 (mY F o.op rd) s) (fun w _ h m _ o e=>h.holds m o e) (fun w h m hm=>h m (SY hm)) ?_
     have hla:Lk I env w0 (mY F o.op rd) s wa:=fun m _ o e=>ha.holds m o e
     have g2:=(zY (P:=P) (a:=a) (o:=o) (hla.gk ha) hF hv).2
     refine F9 kU ho hp.2 (v:=I.g v) (fun w hlk=>.inl ⟨hF.want IC,(zY (hlk.gk ha) hF hv).1⟩) ?_
     exact ih _ _ _ _ _ _ _ hn I _ ⟨wa,ha⟩ (hF.oz rW g2) hQ
    ·refine F9 kU ho hp.2 (v:=undef) (fun w hlk=>.inr ⟨hF.want IC,rfl⟩) ?_
     exact ih _ _ _ _ _ _ _ hn I _ ⟨wa,ha⟩ (by have:=hF.oz rW (v:=.nh) trivial;simpa only[Ip.g,ic]using this) hQ
   ·split at hh
    ·cases hh
    ·rename_i e es he
     rw[acH,acx]at hh
     obtain⟨x',hx,hh⟩:=hh
     split at hh
     ·rename_i hall
      simp only[ac9]at hh;subst hh
      simp only[dc,aac]at hall
      obtain⟨hb,hall⟩:=hall
      obtain⟨wa,ha⟩:=hw
      have Gs:=UJ (dd:=dd) (n:=n) (ops:=ops) hC k
      obtain⟨I1,a1,w1,p1,p2,p3,p4,p5⟩:=Dh hC Gs hx ha hF
      have Ic:∀ e' ∈ es,Ex r P ops Q D (Lk I env w0 rd s) (SR I env w0 s) a e':=by
       intro e' MU
       have:=hall e' MU
       split at this
       ·rename_i x2 CO
        obtain⟨I2,a2,w2,q1,q2,q3,q4,q5⟩:=Dh hC Gs CO ha hF
        refine F3 hC ih CO hF ?_
        intro I3 a3 w3 t1 t2 t3 t4 t5
        obtain⟨u1,u2,u3,u4⟩:=Vy ha (fun m hm=>Us hm) this p4 q4 p2 p3 t1 t2 t3
        exact hQ _ a3 w3 u1 u2 u3 p4 p5
       ·cases this
      have AK:∀ (A:List Nat),(∀ e' ∈ A,Ex r P ops Q D (Lk I env w0 rd s) (SR I env w0 s) a e')→zi r P ops Q D (Lk I env w0 rd s) (SR I env w0 s) a A:=by
       intro A
       induction A with
       | nil=>intro _;trivial
       | cons y A Zf=>intro hA;exact⟨hA y aaR,Zf fun z hz=>hA z (aaN _ hz)⟩
      obtain⟨o,v,s1,B5,F1,ho,_⟩:=rP hx
      have hmem:e∈(r0::R0).filter (isReady ops D):=by rw[he];exact aaR
      have hrd:=(aaH.1 hmem).2
      simp only[isReady,dc,aar]at hrd
      refine J8 kU (e::es) hb ⟨e,aaR,(aao.1 ho).1,hrd.1⟩ (AK _ ?_)
      intro y hy
      rcases aaM.1 hy with rfl|hy
      ·exact F3 hC ih hx hF hQ
      ·exact Ic y hy
     ·cases hh
theorem T_(hm:P.follows .mixedOrders=true)(hC:lx P w0 env call){F F':Fm}{s s':St}{id:Nat}{I:Ip}{a:Act}{w:World}(hh:yu (fe P) call n ops F s=some (F',s'))(h:SR I env w0 s w)(hF:FR I s.nx n F a dd)
  (hQ:Then I env w0 n dd s F' s' (Q .normal)):Wp r P (.region id ops true) Q a w:=by
 unfold yu at hh
 split at hh
 ·rename_i kU
  rw[acH,acx]at hh
  obtain⟨x,hx,hh⟩:=hh
  simp only[ac9,Prod.mk.injEq]at hh
  obtain⟨rfl,rfl⟩:=hh
  have h':=h.keep gw.drew
  have hd:=UK (r:=r) hC kU _ _ _ _ _ _ _ _ hx I a ⟨w,h⟩ hF hQ
  have e:ops=ops.toList.toArray:=by simp
  rw[e]at hd ⊢
  exact D_ hm (fun m hm=>by cases hm) h' hd
 ·cases hh
end
end Go.Ev
end
section
namespace Go.Ev
open Go.Fw
def uP:AX→Exit
 | .n=>.normal
 | .x id=>.exit id
 | .r=>.ret
def uv(I:Ip)(ms:List Nat):List Deferred:=ms.map fun m=>{ target:=.collected (I.sv m).blk,args:=#[] }
theorem D7{k:Nat}{I I':Ip}{ms:List Nat}(h:Agree k I I')(hm:∀ m,m∈ms→m<k):uv I' ms=uv I ms :=
 acQ fun m hx=>by rw[h.sv m (hm m hx)]
theorem SR.setMarks{I:Ip}{env:Env}{w0 w:World}{s:St}(h:SR I env w0 s w)(ms l:List Nat)(hm:∀ m,m∈ms→m<s.nx):SR I env w0 { s with dW:=ms,wr:=l } w:=⟨h.old,h.io,h.ok,h.holds,h.low,h.apart,hm,h.env⟩
theorem Step.setMarks{s s':St}(h:Step s s')(ms:List Nat):Step s { s' with dW:=ms }:=⟨h.nx,h.mono,h.wU⟩
theorem Step.ofMarks{s s':St}{ms:List Nat}(h:Step { s with dW:=ms } s'):Step s s':=⟨h.nx,h.mono,h.wU⟩
section
variable {r:Option Nat}{env:Env}{n:Nat}{w0:World}{P:Program}{call:Env→jw}
def zh(I:Ip)(env:Env)(w0:World)(n:Nat)(s:St)(ax:AX)(F':Fm)(s':St)(Q:Exit→Act→World→Prop):Prop :=
 ∀ I' a' w',Agree s.nx I I' → SR I' env w0 s' w' → FR I' s'.nx n F' a' (uv I' s'.dW)→Step s s' → Q (uP ax) a' w'
def Ip.withL(I:Ip)(k:Nat)(s:SV)(ar:Array Value)(f:Nat):Ip:=⟨fun n=>if n=k then s else I.sv n,fun n=>if n=k then ar else I.arr n,fun n=>if n=k then f else I.fn n⟩
theorem Agree.withL(I:Ip)(k:Nat)(s:SV)(ar:Array Value)(f:Nat):Agree k I (I.withL k s ar f) :=
 ⟨fun n hn=>by simp[Ip.withL,acR hn],fun n hn=>by simp[Ip.withL,acR hn],fun n hn=>by simp[Ip.withL,acR hn]⟩
theorem mH(l:Nat)(L:ua)(env:Env):ij ((l,L)::env) l=some L:=by simp[ij]
theorem oD{l m:Nat}(L:ua)(env:Env)(h:m≠l):ij ((l,L)::env) m=ij env m:=by
 have:Nat.beq l m=false:=by
  cases hb:Nat.beq l m with
  | false=>rfl
  | true=>exact absurd (aaf hb).symm h
 simp[ij,this]
theorem U9(hC:∀ env,lx P w0 env (call env)){g:Operand}{ps:Array Tmp}{as bd:Code}{fn:Nat}{F:Fm}{s s1 s2 s3:St}{I:Ip}{a:Act}{w:World}{gv v:AV}{d l:Nat}{ax:AX}{sq:St}{Q:Exit→Act→World→Prop}
  (hg:iZ F g=some gv) (EM:isFn gv=true) (hd:fresh s (.defd false)=some (d,s1)) (hl:fresh s1 (.loop .ready none)=some (l,s2))
  (hq:call ((l,⟨fn,n,F,ps.toList,as,bd,d⟩)::env) gv [.y l] { s2 with dW:=d::s2.dW }=some (v,sq)) (he:uz sq l=some (ax,s3))
  (h:SR I env w0 s w) (hF:FR I s.nx n F a (uv I s.dW)) (hQ:zh I env w0 n s ax F s3 Q):Wp none P (.rangeFunc g ps as bd) Q a w:=by
 obtain⟨e1,e2⟩:=gU hd
 obtain⟨e3,e4⟩:=gU hl
 obtain⟨hev,hok⟩:=hF.eval hg
 cases gv<;>simp only[isFn,abq]at EM
 rename_i f fs cs
 refine wpIn_rangeFunc fun LG _=>?_
 have st1:=Step.fresh hd
 have st2:=Step.fresh hl
 have hn1:s1.nx=s.nx+1:=by rw[e2]
 have QP:s2.nx=s.nx+2:=by rw[e4];simp only[hn1]
 have w9:s2.dW=s.dW:=by rw[e4,e2]
 have hl':l=s.nx+1:=by rw[e3,hn1]
 -- the block for the deferred calls
 let I1:=I.with s.nx ⟨some ⟨w.heap.size,0,none⟩,0,0⟩ #[]
 have X3:Agree s.nx I I1:=Agree.with _ _ _ _
 have hb1:(I1.sv d).blk=w.heap.size:=by rw[e1];simp only[I1,mE];rfl
 have N_:SR I1 env w0 s1 (w.alloc (.deferred (some []))):=h.add hd _ trivial (by
  show iz (.obj ((Ip.with I s.nx ⟨some ⟨w.heap.size,0,none⟩,0,0⟩ #[]).sv s.nx).blk (.deferred (some []))) w _
  rw[mE];exact iz.alloc w _)
 -- the record
 let w1:=w.alloc (.deferred (some []))
 let ob:Obj:=.loop { state:=.ready,pending:=none,fn:=LG,tmps:=a.tmps,params:=ps,assign:=as,body:=bd,defers:=w.heap.size }
 let I2:=I1.withL l ⟨some ⟨w1.heap.size,0,none⟩,0,0⟩ a.tmps LG
 have ET:s1.nx=l:=e3.symm
 have BU:Agree s1.nx I1 I2:=by rw[ET];exact Agree.withL _ _ _ _ _
 let L:ua:=⟨fn,n,F,ps.toList,as,bd,d⟩
 have AL:(I2.sv l).blk=w1.heap.size:=by simp only[I2,Ip.withL,if_true];rfl
 have H7:(I2.sv d).blk=w.heap.size:=by rw[←BU.sv d ac_];exact hb1
 have hres2:res I2 ((l,L)::env) w0.heap.size l (.loop .ready none) = .obj w1.heap.size ob:=by
  simp only[res,mH,lH,AL,H7,nj,L,ob]
  simp only[I2,Ip.withL,if_true,acs]
 have zD:Agree s.nx I I2:=X3.trans BU ac_
 have Ey:vr I2 ((l,L)::env) s2.nx:=by
  have h0:=h.env.agree zD (show s.nx≤s2.nx by omega)
  refine⟨fun m L' hm=>?_,fun m L' hm=>?_⟩
  ·by_cases hml:m=l
   ·subst hml
    rw[mH]at hm;cases hm
    exact⟨ac_,by show d<s2.nx;omega⟩
   ·rw[oD L env hml]at hm;exact h0.name m L' hm
  ·by_cases hml:m=l
   ·subst hml
    rw[mH]at hm;cases hm
    have HY:=hF.agree zD (show s.nx≤s2.nx by omega)
    refine⟨rfl,?_,fun t u hu=>?_⟩
    ·simp only[I2,Ip.withL,if_true];exact HY.size
    ·obtain⟨q1,q2,q3⟩:=HY.get t u hu
     refine⟨q1,q2,?_⟩
     simp only[I2,Ip.withL,if_true]
     exact q3
   ·rw[oD L env hml]at hm;exact h0.fr m L' hm
 have xe:SR I2 ((l,L)::env) w0 s2 (w1.alloc ob):=by
  have hA:=iz.alloc w1 ob
  refine N_.turn (t:=fun _=>False) (b:=l) BU ac_ (fun m hm hml=>oD L env hml) hA.keeps.io hA.keeps.size (fun j hj _=>hA.keeps.block j hj (by simp)) (fun _ hj=>hj.elim) (fun m o' hn e=>?_) (fun o' e=>?_) (fun m hm=>?_) Ey
  ·rw[e4]at e
   rcases jF e with⟨h1,_⟩|⟨_,h2⟩
   ·rw[ET]at h1;exact absurd h1 hn
   ·exact .inr ⟨h2,fun _ _ hj=>hj⟩
  ·rw[e4]at e
   rcases jF e with⟨_,rfl⟩|⟨h1,_⟩
   ·rw[hres2];exact⟨ac_,trivial,hA.holds,fun j hj=>.inr (hA.fp j hj)⟩
   ·rw[ET]at h1;exact absurd rfl h1
  ·rw[w9]at hm;have:=h.dW m hm;omega
 have Oa:SR I2 ((l,L)::env) w0 { s2 with dW:=d::s2.dW } (w1.alloc ob):=⟨xe.old,xe.io,xe.ok,xe.holds,xe.low,xe.apart,fun m hm=>by
  rcases aaM.1 hm with rfl|hm
  ·show m<s2.nx;omega
  ·exact xe.dW m hm,xe.env⟩
 have Zc:I2.g (.y l) = .func (.yield w1.heap.size) #[] #[]:=by simp only[Ip.g,ic,AL]
 have hfs:(fs.map I2.g)=lG I.sv fs:=by
  rw[fD];exact zD.map (mO.1 hok.1)
 have hcs:(cs.map I2.g)=lG I.sv cs:=by
  rw[fD];exact zD.map (mO.1 hok.2)
 have M9:jj s2.nx (.f f fs cs):=jH ac_ _ hok
 obtain⟨c1,c2⟩:=hC ((l,L)::env) I2 { s2 with dW:=d::s2.dW } sq (w1.alloc ob) (.f f fs cs) [.y l] v hq Oa M9 (by
  intro u hu
  simp only[acI]at hu
  subst hu
  show l<s2.nx;omega)
 have MV:a.eval g = .func (.func f) (lG I.sv fs).toArray (lG I.sv cs).toArray:=by rw[hev];simp only[Ip.g,ic]
 have Nk:w1.heap.size=w.heap.size+1:=by simp[w1]
 refine⟨w1.heap.size,[{ target:=.collected w.heap.size,args:=#[] }],w1.alloc ob,{ target:=.fn (.func f) (lG I.sv cs).toArray,args:=(lG I.sv fs).toArray ++ #[.func (.yield w1.heap.size) #[] #[]] },w1.alloc ob,f,
  ((fs ++ [AV.y l]++cs).map I2.g).toArray,w1.alloc ob,?_,?_,fun _ _=>trivial,?_,fun hx=>wI hx,?_⟩
 ·rw[show(Wd none).round=none from rfl,run_enterLoop_outer LG a.tmps ps as bd,Nk]
 ·simp only[resolve,MV,Deferred.ofValue,Sem.run_pure]
  simp[Act.eval]
 ·simp only[invoke,c1]
  rw[aa3,aa3,hfs,hcs,aa4,aa5,Zc]
  simp
 ·refine uW.2 (Calls.mono c2 fun e w3 hr=>?_)
  cases e<;>simp only[fZ]at hr
  obtain⟨I3,hA⟩:=hr
  have YQ:=hA.dW
  -- the loop's end
  simp only[uz]at he
  split at he
  ·rename_i st pd hfl
   have EV:Step s sq:=(st1.trans st2).trans hA.step.ofMarks
   have hlt:l<s2.nx:=ac_
   have ky:=hA.sr.holds l _ hfl
   have hblk:(I3.sv l).blk=w1.heap.size:=by rw[←hA.ag.sv l hlt];exact AL
   have vv:w3.heap[w1.heap.size]? = some (lH I3 l L st pd):=by
    have:(res I3 ((l,L)::env) w0.heap.size l (.loop st pd)).holds w3:=ky
    simp only[res,mH,hblk]at this
    exact this
   have QQ:st ≠ .busy:=by intro e;subst e;simp at he
   have hres:ax=Hy pd∧s3=wrote sq l .dead:=by
    cases st<;>simp only[ac9,Prod.mk.injEq]at he
    all_goals first|exact⟨he.1.symm,he.2.symm⟩|exact(QQ rfl).elim|(cases he;done)
   obtain⟨hax,CM⟩:=hres
   have hend:=run_endLoop (P:=P) vv QQ
   refine⟨nj pd,_,hend,?_⟩
   have qa:=oa.putObj (o':=.loop { state:=.exhausted,pending:=nj pd,fn:=I3.fn l,tmps:=I3.arr l,params:=L.ps.toArray,assign:=L.Ge,body:=L.body,defers:=(I3.sv L.d).blk }) vv
   have ZF:SR I3 env w0 s3 (w3.putObj w1.heap.size (.loop { state:=.exhausted,pending:=nj pd,fn:=I3.fn l,tmps:=I3.arr l,params:=L.ps.toArray,assign:=L.Ge,body:=L.body,defers:=(I3.sv L.d).blk })):=by
    have hlk:=hA.sr.low l _ hfl
    have hap:=hA.sr.apart l
    have QW:res I3 ((l,L)::env) w0.heap.size l (.loop st pd) = .obj w1.heap.size (lH I3 l L st pd):=by simp only[res,mH,hblk]
    refine hA.sr.turn (t:=fun j=>j=w1.heap.size) (b:=l) (Agree.refl _ _) (by rw[CM];exact aal _) (fun m hm hml=>(oD L env hml).symm) qa.io qa.size (fun j hj hne=>qa.block j hj hne) (fun j hj=>?_) (fun m o' hn e=>?_) (fun o' e=>?_) (fun m hm=>?_) ?_
    ·exact hlk j (by rw[QW];exact hj)
    ·rw[CM]at e
     rcases jF e with⟨h1,_⟩|⟨_,h2⟩
     ·exact absurd h1 hn
     ·exact .inr ⟨h2,fun j hj hj'=>hap m _ _ hfl h2 (fun x=>hn x.symm) j (by rw[QW];exact hj') hj⟩
    ·rw[CM]at e
     rcases jF e with⟨_,rfl⟩|⟨h1,_⟩
     ·refine⟨?_,trivial,⟨fun _ hk=>hk.elim,fun _ _ _ _=>trivial⟩,fun j hj=>hj.elim⟩
      rw[CM];exact(hA.sr.ok l _ hfl).1
     ·exact absurd rfl h1
    ·rw[CM]at hm ⊢; exact hA.sr.dW m hm
    ·refine h.env.agree (zD.trans hA.ag (by show s.nx≤s2.nx;omega)) ?_
     rw[CM];exact EV.nx
   have hag:Agree s.nx I I3:=zD.trans hA.ag (by show s.nx≤s2.nx;omega)
   have hmk:s3.dW=d::s.dW:=by rw[CM,Hg,YQ];simp only[w9]
   have YA:FR I3 s3.nx n F { a with defers:=[{ target:=.collected w.heap.size,args:=#[] }]++a.defers } (uv I3 s3.dW):=by
    have HY:=hF.agree hag (show s.nx≤s3.nx by rw[CM];exact EV.nx)
    refine⟨?_,HY.size,HY.get⟩
    rw[hmk]
    simp only[uv,aa4,aag,abA]
    rw[←hA.ag.sv d (by show d<s2.nx;omega),H7,hF.defers]
    congr 1
    exact(D7 hag h.dW).symm
   have hfin:=hQ I3 _ _ hag ZF YA (by rw[CM];exact EV.trans (Step.wrote _ _ _))
   subst hax
   cases pd with
   | none=>exact hfin
   | some q =>
    cases q with
    | none=>exact qo hfin
    | some id=>exact dB hfin
  ·cases he
end
end Go.Ev
end
section
namespace Go.Ev
open Go.Fw
section
variable {r:Option Nat}{env:Env}{n:Nat}{w0:World}{P:Program}{call:Env→jw}{fn:Nat}{ir:Bool}{fuel:Nat}
theorem FR.eqd{I:Ip}{k n:Nat}{F:Fm}{a:Act}{dd QA:List Deferred}(h:FR I k n F a dd)(e:dd=QA):FR I k n F a QA:=e ▸ h
theorem P_{I:Ip}{s s':St}{F':Fm}{Q:Exit→Act→World→Prop}{w:World}(h:SR I env w0 s w)(hQ:zh I env w0 n s .n F' s' Q):Then I env w0 n (uv I s.dW) s F' s' (Q .normal):=by
 intro I' a' w' ag sr fr st hm
 refine hQ I' a' w' ag sr (fr.eqd ?_) st
 rw[hm];exact(D7 ag h.dW).symm
theorem KW(hm:P.follows .mixedOrders=true)(hC:∀ env,lx P w0 env (call env))(hr:ir=false→r=none):∀ (c:Code) {F F':Fm} {s s':St} {ax:AX} {I:Ip} {a:Act} {w:World} {Q:Exit→Act→World→Prop},
  jZ (fe P) call env fn n ir fuel c F s=some (ax,F',s')→SR I env w0 s w→FR I s.nx n F a (uv I s.dW)→zh I env w0 n s ax F' s' Q→Wp r P c Q a w:=by
 intro c
 induction c with
 | skip =>
  intro F F' s s' ax I a w Q hh h hF hQ
  simp only[jZ,ac9,Prod.mk.injEq]at hh
  obtain⟨rfl,rfl,rfl⟩:=hh
  exact bL (hQ I a w (Agree.refl _ _) h hF (Step.refl _))
 | region id ops draw =>
  intro F F' s s' ax I a w Q hh h hF hQ
  simp only[jZ]at hh
  cases draw with
  | true =>
   simp only[if_true,aax]at hh
   obtain⟨⟨F1,s1⟩,hq,hh⟩:=hh
   simp only[Prod.mk.injEq]at hh
   obtain⟨rfl,rfl,rfl⟩:=hh
   exact T_ hm (hC env) hq h hF (P_ h hQ)
  | false =>
   simp only[abq,if_false,aax]at hh
   obtain⟨⟨F1,s1⟩,hq,hh⟩:=hh
   simp only[Prod.mk.injEq]at hh
   obtain⟨rfl,rfl,rfl⟩:=hh
   exact wpIn_region_list (VX (hC env) _ hq h hF (P_ h hQ))
 | seq x y Gs NG =>
  intro F F' s s' ax I a w Q hh h hF hQ
  simp only[jZ,acH]at hh
  rw[acx]at hh
  obtain⟨⟨Hw,F1,s1⟩,hq,hh⟩:=hh
  refine aH (Gs hq h hF ?_)
  intro I1 a1 w1 ag sr fr st
  cases Hw with
  | n =>
   simp only at hh
   exact NG hh sr fr fun I2 a2 w2 BU xe Kv st2=>hQ I2 a2 w2 (ag.trans BU st.nx) xe Kv (st.trans st2)
  | x id =>
   simp only[ac9,Prod.mk.injEq]at hh
   obtain⟨rfl,rfl,rfl⟩:=hh
   exact hQ I1 a1 w1 ag sr fr st
  | r =>
   simp only[ac9,Prod.mk.injEq]at hh
   obtain⟨rfl,rfl,rfl⟩:=hh
   exact hQ I1 a1 w1 ag sr fr st
 | cond c x y Gs NG =>
  intro F F' s s' ax I a w Q hh h hF hQ
  simp only[jZ,acH]at hh
  rw[acx]at hh
  obtain⟨v,hv,hh⟩:=hh
  obtain⟨h1,h2⟩:=hF.eval hv
  split at hh
  ·exact wpIn_cond_true (by rw[h1];simp[ic]) (Gs hh h hF hQ)
  ·exact wpIn_cond_false (by rw[h1];simp[ic]) (NG hh h hF hQ)
  ·cases hh
 | block id c ih =>
  intro F F' s s' ax I a w Q hh h hF hQ
  simp only[jZ,acH]at hh
  rw[acx]at hh
  obtain⟨⟨Hw,F1,s1⟩,hq,hh⟩:=hh
  simp only[ac9,Prod.mk.injEq]at hh
  obtain⟨rfl,rfl,rfl⟩:=hh
  refine bJ (ih hq h hF ?_)
  intro I1 a1 w1 ag sr fr st
  have:=hQ I1 a1 w1 ag sr fr st
  cases Hw with
  | n=>exact cC (by simpa[uP]using this)
  | r=>exact P6 (by simpa[uP]using this)
  | x j =>
   by_cases hj:j=id
   ·subst hj;exact dV (by simpa[uP]using this)
   ·refine Qn (i:=id) (j:=j) ?_ (by simpa[uP,hj]using this)
    cases hb:Nat.beq j id with
    | false=>rfl
    | true=>exact absurd (aaf hb) hj
 | loop c ih =>
  intro F F' s s' ax I a w Q hh h hF hQ
  simp only[jZ]at hh
  refine Hh (X:=Nat) (fun k a w=>∃ F s I,xp (jZ (fe P) call env fn n ir fuel c) k F s=some (ax,F',s')∧SR I env w0 s w∧FR I s.nx n F a (uv I s.dW)∧zh I env w0 n s ax F' s' Q) id fuel ⟨F,s,I,hh,h,hF,hQ⟩ ?_
  rintro k a w ⟨F,s,I,hh,h,hF,hQ⟩
  cases k with
  | zero=>simp[xp]at hh
  | succ k =>
   simp only[xp,acH]at hh
   rw[acx]at hh
   obtain⟨⟨Hw,F1,s1⟩,hq,hh⟩:=hh
   refine ih hq h hF ?_
   intro I1 a1 w1 ag sr fr st
   cases Hw with
   | n =>
    simp only at hh
    exact⟨k,⟨F1,s1,I1,hh,sr,fr,fun I2 a2 w2 BU xe Kv st2=>hQ I2 a2 w2 (ag.trans BU st.nx) xe Kv (st.trans st2)⟩,acz k⟩
   | x id =>
    simp only[ac9,Prod.mk.injEq]at hh
    obtain⟨rfl,rfl,rfl⟩:=hh
    exact hQ I1 a1 w1 ag sr fr st
   | r =>
    simp only[ac9,Prod.mk.injEq]at hh
    obtain⟨rfl,rfl,rfl⟩:=hh
    exact hQ I1 a1 w1 ag sr fr st
 | exit id =>
  intro F F' s s' ax I a w Q hh h hF hQ
  simp only[jZ,ac9,Prod.mk.injEq]at hh
  obtain⟨rfl,rfl,rfl⟩:=hh
  exact dB (hQ I a w (Agree.refl _ _) h hF (Step.refl _))
 | ret =>
  intro F F' s s' ax I a w Q hh h hF hQ
  simp only[jZ,ac9,Prod.mk.injEq]at hh
  obtain⟨rfl,rfl,rfl⟩:=hh
  exact qo (hQ I a w (Agree.refl _ _) h hF (Step.refl _))
 | rangeFunc g ps as bd iha ihb =>
  intro F F' s s' ax I a w Q hh h hF hQ
  simp only[jZ,acH]at hh
  split at hh
  ·cases hh
  ·rename_i hir
   have MY:ir=false:=by simpa using hir
   have:=hr MY
   subst this
   rw[acx]at hh
   obtain⟨gv,hg,hh⟩:=hh
   split at hh
   ·cases hh
   ·rename_i EM
    rw[acx]at hh
    obtain⟨⟨d,s1⟩,hd,hh⟩:=hh
    rw[acx]at hh
    obtain⟨⟨l,s2⟩,hl,hh⟩:=hh
    rw[acx]at hh
    obtain⟨⟨v,sq⟩,hq,hh⟩:=hh
    rw[acx]at hh
    obtain⟨⟨e,s3⟩,he,hh⟩:=hh
    simp only[ac9,Prod.mk.injEq]at hh
    obtain⟨rfl,rfl,rfl⟩:=hh
    exact U9 hC hg (by simpa using EM) hd hl hq he h hF hQ
 | _=>intro F F' s s' ax I a w Q hh;simp[jZ]at hh
theorem Ta{vs:List AV}:∀ (n i t:Nat) (v:AV),(pn n i vs).get t=some v→i≤t∧t<i+n∧v=(vs[t-i]?).getD .nh:=by
 intro n
 induction n generalizing vs with
 | zero=>intro i t v h;simp[pn,Tr.get_e]at h
 | succ n ih =>
  intro i t v h
  cases vs with
  | nil =>
   simp only[pn]at h
   rcases Tr.set_some h with⟨rfl,rfl⟩|⟨hne,h⟩
   ·exact⟨aal _,ac_,by simp⟩
   ·obtain⟨h1,h2,h3⟩:=ih (i+1) t v h
    exact⟨ac_,ac_,by simpa using h3⟩
  | cons u vs =>
   simp only[pn]at h
   rcases Tr.set_some h with⟨rfl,rfl⟩|⟨hne,h⟩
   ·exact⟨aal _,ac_,by simp⟩
   ·obtain⟨h1,h2,h3⟩:=ih (i+1) t v h
    refine⟨ac_,ac_,?_⟩
    rw[h3,show t-i=(t-(i+1))+1 by omega]
    simp
theorem U3{I:Ip}{k:Nat}{vs:List AV}(hv:∀ v∈vs,jj k v)(hn:vs.length≤n):FR I k n (pn n 0 vs) { tmps:=(vs.map I.g).toArray++Array.replicate (n-(vs.map I.g).toArray.size) undef,defers:=[] } []:=by
 refine⟨rfl,by simp;omega,fun t v h=>?_⟩
 obtain⟨_,h2,h3⟩:=Ta _ _ _ _ h
 simp only[Nat.sub_zero,ab_]at h2 h3
 refine⟨h2,?_,?_⟩
 ·subst h3
  cases hx:vs[t]? with
  | none=>trivial
  | some u=>exact hv u (abj hx)
 ·subst h3
  by_cases ht:t<vs.length
  ·have:vs[t]? = some vs[t]:=aa1 ht
   rw[this]
   simp[aak,ht]
  ·rw[aaj ac_]
   simp only[acY,Ip.g,ic]
   have h4:t-vs.length<n-vs.length:=ac_
   simp[aak,ht,h4]
theorem Vz{I:Ip}{k:Nat}:∀ (ps:List Nat) (vs:List AV) {F F':Fm} {tm:Array Value},ve n ps vs F=some F' → FR I k n F { tmps:=tm,defers:=[] } []→(∀ v∈vs,jj k v) →
  ps.length=vs.length∧FR I k n F' { tmps:=(ps.zip (vs.map I.g)).foldl (fun tmps p=>tmps.setIfInBounds p.1 p.2) tm,defers:=[] } []:=by
 intro ps
 induction ps with
 | nil =>
  intro vs F F' tm h hF hv
  cases vs with
  | nil=>simp only[ve,ac9]at h;subst h;exact⟨rfl,hF⟩
  | cons v vs=>simp[ve]at h
 | cons p ps ih =>
  intro vs F F' tm h hF hv
  cases vs with
  | nil=>simp[ve]at h
  | cons v vs =>
   simp only[ve]at h
   split at h
   ·rename_i hp
    have hp':p<n:=by rw[ac3]at hp;exact hp
    have rW:=hF.set hp' (hv v aaR)
    simp only[Act.put]at rW
    obtain⟨h1,h2⟩:=ih vs h rW (fun u hu=>hv u (aaN _ hu))
    exact⟨by simp[h1],h2⟩
   ·cases h
theorem VY{I:Ip}{w:World}{s:St}(h:SR I env w0 s w):∀ (rs:List ResultVar) {F:Fm} {a:Act} {dd:List Deferred} {vs:List AV},xq (fe P) s F rs=some vs→FR I s.nx n F a dd→kL P w a.tmps rs (vs.map I.g) ∧ ∀ v∈vs,jj s.nx v:=by
 intro rs
 induction rs with
 | nil=>intro F a dd vs hh hF;simp only[xq,ac9]at hh;subst hh;exact⟨trivial,by simp⟩
 | cons x rs ih =>
  intro F a dd vs hh hF
  cases x with
  | tmp t =>
   simp only[xq,acH]at hh
   rw[acx]at hh
   obtain⟨v,hv,hh⟩:=hh
   rw[acx]at hh
   obtain⟨us,yA,hh⟩:=hh
   simp only[ac9]at hh;subst hh
   obtain⟨h1,h2⟩:=ih yA hF
   obtain⟨_,q2,q3⟩:=hF.get t v hv
   refine⟨⟨q3,h1⟩,fun u hu=>?_⟩
   rcases aaM.1 hu with rfl|hu
   ·exact q2
   ·exact h2 u hu
  | cell t ty =>
   simp only[xq,acH]at hh
   rw[acx]at hh
   obtain⟨v,hv,hh⟩:=hh
   cases v<;>simp only at hh<;>try (cases hh;done)
   rename_i m off
   split at hh
   ·rename_i N l T hm
    rw[acx]at hh
    obtain⟨u,hu,hh⟩:=hh
    rw[acx]at hh
    obtain⟨us,yA,hh⟩:=hh
    simp only[ac9]at hh;subst hh
    obtain⟨h1,h2⟩:=ih yA hF
    obtain⟨_,q2,q3⟩:=hF.get t _ hv
    obtain⟨hk,hok⟩:=h.ok m _ hm
    have hl:=Pe (P:=P) hu hok.1 (h.gk.cellsP hm)
    rw[ab_]at hl
    refine⟨⟨⟨⟨(I.sv m).blk,off,none⟩,by rw[q3];simp only[Ip.g,ic],hl⟩,h1⟩,fun x hx=>?_⟩
    rcases aaM.1 hx with rfl|hx
    ·exact(nD hu hok.1 hok.2.1 hok.2.2).1
    ·exact h2 x hx
   ·cases hh
def CV(I:Ip)(n:Nat)(L:ua)(st:LoopState)(pd:Option (Option Nat)):Loop:={ state:=st,pending:=nj pd,fn:=I.fn n,tmps:=I.arr n,params:=L.ps.toArray,assign:=L.Ge,body:=L.body,defers:=(I.sv L.d).blk }
theorem Ug{CH:Func}{tmps:Array Value}{R:Value→World→Prop}{I:Ip}:∀ (ms:List Nat) {s s':St} {w:World},ng ms s=some s' → SR I env w0 s w →
  (∀ w',SR I env w0 s' w' → Step s s' → s'.nx=s.nx→s'.dW=s.dW → ∃ v,(results CH tmps).run P w' = .ok v w' ∧ R v w')→LeavesInM (Wd none) 0 P CH tmps (fZ R) (uv I ms) .returning w:=by
 intro ms
 induction ms with
 | nil =>
  intro s s' w hh h hR
  simp only[ng,ac9]at hh
  subst hh
  exact hR w h (Step.refl _) rfl rfl
 | cons d ms ih =>
  intro s s' w hh h hR
  simp only[ng]at hh
  split at hh
  ·rename_i hd
   have ky:w.heap[(I.sv d).blk]? = some (.deferred (some [])):=h.holds d _ hd
   refine⟨by simp,.inl ⟨(I.sv d).blk,_,rfl,run_takeDeferred ky,?_⟩⟩
   have hU:=oa.putObj (o':=.deferred none) ky
   have sr:=h.chg hd (o':=.defd true) trivial hU
   refine ih hh sr fun w' ZD st EO hmk=>hR w' ZD ((Step.wrote _ _ _).trans st) EO hmk
  ·cases hh
theorem UH(hm:P.follows .mixedOrders=true):∀ (k:Nat) (env:Env),lx P w0 env (pg (fe P) fuel k env):=by
 intro k
 induction k with
 | zero=>intro env I s s' w g vs v hh;simp[pg]at hh
 | succ k ih =>
  intro env I s s' w g vs v hh h hg hvs
  cases g<;>try (simp[pg]at hh;done)
  case f f fs cs =>
   simp only[pg,acH]at hh
   rw[acx]at hh
   obtain⟨⟨n,rs,body⟩,hfn,hh⟩:=hh
   simp only at hh
   split at hh
   ·cases hh
   ·rename_i hlen
    rw[acx]at hh
    obtain⟨⟨ax,F1,s1⟩,hq,hh⟩:=hh
    simp only[fe]at hfn
    rw[acx]at hfn
    obtain⟨CH,hf,hfn⟩:=hfn
    split at hfn
    ·cases hfn
    ·rename_i hname
     obtain⟨b,hb,hfn⟩:=aax.1 hfn
     simp only[Prod.mk.injEq]at hfn
     obtain⟨rfl,rfl,rfl⟩:=hfn
     have hcall:∀ args w,(callFunc f args).run P w = .ok (.enter f args) w:=by
      intro args w
      have hn':¬ CH.name = "runtime.NumGoroutine" := by simpa using hname
      simp[callFunc,program,Sem.run,hf,hn',hb]
     refine⟨hcall,?_⟩
     have Il:(fs++vs++cs).length≤CH.ntmps:=by simpa using hlen
     have EP:∀ u∈fs++vs++cs,jj s.nx u:=by
      intro u hu
      rcases aaF.1 hu with hu|hu
      ·rcases aaF.1 hu with hu|hu
       ·exact mO.1 hg.1 u hu
       ·exact hvs u hu
      ·exact mO.1 hg.2 u hu
     refine callsIn_wide.1 (callsIn_of_wp_marks (F:=Wd none) (n:=0) hf hb trivial ?_ rfl)
     have h':=h.setMarks [] s.wr (by simp)
     refine KW hm ih (fun _=>rfl) b hq h' (U3 EP Il) ?_
     intro I1 a1 w1 ag sr fr st
     have fin:ax = .n∨ax = .r→bodyPostM (Wd none) 0 P CH (fZ (Left I env w0 s s' v)) .ret a1 w1:=by
      intro hax
      have YK:(ng s1.dW s1).bind (fun s'=>(xq (fe P) s' F1 CH.results.toList).bind fun r=>some (resV r,({ s' with dW:=s.dW,wr:=s'.wr.filter (Nat.blt · s.nx) }:St)))=some (v,s'):=by
       rcases hax with rfl|rfl<;>exact hh
      obtain⟨s2,ht,YL⟩:=acx.1 YK
      obtain⟨rv,YZ,QK⟩:=acx.1 YL
      simp only[ac9,Prod.mk.injEq]at QK
      obtain⟨rfl,rfl⟩:=QK
      show LeavesInM (Wd none) 0 P CH a1.tmps (fZ _) a1.defers .returning w1
      rw[fr.defers]
      refine Ug s1.dW ht sr fun w2 xe st2 EO hmk=>?_
      have B6:Step s s2:=st.ofMarks.trans st2
      obtain⟨q1,q2⟩:=VY (P:=P) xe CH.results.toList YZ (fr.agree (Agree.refl _ _) (by rw[EO];exact aal _))
      refine⟨_,sK (by simp) q1,I1,ag,xe.setMarks _ _ (fun m hm=>?_),?_,?_,⟨B6.nx,fun m hm hx=>?_,fun m hm hx=>?_⟩,rfl⟩
      ·have:=h.dW m hm;have:=B6.nx;omega
      ·match rv with
       | []=>simp[resV,ic,lG]
       | [v]=>simp[resV]
       | x::y::l=>simp[resV,ic,lG,fD]
      ·match rv,q2 with
       | [],_=>trivial
       | [v],q2=>exact q2 v (by simp)
       | x::y::l,q2=>exact mO.2 q2
      ·exact aaH.2 ⟨B6.mono m hm hx,by rw[ac3];exact hm⟩
      ·exact B6.wU m hm fun hy=>hx (aaH.2 ⟨hy,by rw[ac3];exact hm⟩)
     cases ax with
     | n=>exact fin (.inl rfl)
     | r=>exact fin (.inr rfl)
     | x id=>simp at hh
  case y l =>
   simp only[pg,acH]at hh
   rw[acx]at hh
   obtain⟨L,hL,hh⟩:=hh
   split at hh
   ·rename_i Zq hfl
    rw[acx]at hh
    obtain⟨F0,Yz,hh⟩:=hh
    rw[acx]at hh
    obtain⟨⟨ax,F1,s1⟩,hq,hh⟩:=hh
    have uT:∀ (I:Ip) st pd,res I env w0.heap.size l (.loop st pd) = .obj (I.sv l).blk (lH I l L st pd):=fun I st pd=>by simp only[res,hL]
    have ky:w.heap[(I.sv l).blk]? = some (lH I l L .ready Zq):=by have:=h.holds l _ hfl;rw[uT]at this;exact this
    obtain⟨hlk,hdk⟩:=h.env.name l L hL
    obtain⟨hps,LM⟩:=Vz L.ps vs Yz (h.env.fr l L hL) hvs
    have hy:=run_yield (P:=P) (args:=(vs.map I.g).toArray) ky (by simp[hps])
    refine⟨_,_,_,_,hy,?_⟩
    refine roundIn_of_wpIn (F:=Wd none) trivial ?_
    have h':=h.setMarks [] s.wr (by simp)
    refine KW (r:=some (I.sv l).blk) hm ih (fun h=>by cases h) L.Ge hq h' (by have:=LM;simpa[uv]using this) ?_
    intro I1 a1 w1 ag sr fr st
    simp only at hh
    split at hh
    ·rename_i pd Ig
     rw[acx]at hh
     obtain⟨⟨yj,F2,s2⟩,YW,hh⟩:=hh
     simp only at hh
     have AO:(I1.sv l).blk=(I.sv l).blk:=by rw[ag.sv l hlk]
     have Dz:w1.heap[(I.sv l).blk]? = some (lH I1 l L .ready pd):=by have:=sr.holds l _ Ig;rw[uT,AO]at this;exact this
     have YC:oa (res I1 env w0.heap.size l (.loop .ready pd)) (res I1 env w0.heap.size l (.loop .busy pd)) w1 (w1.putObj (I.sv l).blk (lH I1 l L .busy pd)):=by
      rw[uT,uT,AO];exact oa.putObj Dz
     have N_:=sr.chg Ig (o':=.loop .busy pd) trivial YC
     refine⟨_,run_beginRound Dz rfl,?_⟩
     refine KW (r:=some (I.sv l).blk) hm ih (fun h=>by cases h) L.body YW N_ fr ?_
     intro I2 a2 w2 BU xe Kv st2
     split at hh
     ·rename_i Ob NY Ih
      simp only[ac9,Prod.mk.injEq]at hh
      obtain⟨rfl,rfl⟩:=hh
      have Y0:s.nx≤s1.nx:=st.nx
      have M1:l<s1.nx:=ac_
      have Dw:(I2.sv l).blk=(I.sv l).blk:=by rw[←BU.sv l M1,AO]
      have DC:w2.heap[(I.sv l).blk]? = some (lH I2 l L Ob NY):=by have:=xe.holds l _ Ih;rw[uT,Dw]at this;exact this
      have Ii:∀ x:Option (Option Nat),(nj x).isNone=x.isNone:=by
       intro x
       cases x with
       | none=>rfl
       | some y=>cases y<;>rfl
      have AI:∀ Oc,oa (res I2 env w0.heap.size l (.loop Ob NY)) (res I2 env w0.heap.size l (.loop Oc (o_ yj))) w2 (w2.putObj (I.sv l).blk (lH I2 l L Oc (o_ yj))):=by
       intro Oc
       rw[uT,uT,Dw];exact oa.putObj DC
      have ZE:=xe.chg Ih (o':=.loop (if(o_ yj).isNone then .ready else .done) (o_ yj)) trivial (AI _)
      have hend:=run_endRound (P:=P) (nj (o_ yj)) DC
      have hst:Step s (wrote s2 l (.loop (if(o_ yj).isNone then .ready else .done) (o_ yj))):=((st.ofMarks.trans (Step.wrote _ _ _)).trans st2).trans (Step.wrote _ _ _)
      have hfin:Left I env w0 s { wrote s2 l (.loop (if(o_ yj).isNone then .ready else .done) (o_ yj))with dW:=s.dW } (.b (o_ yj).isNone) (.bool (nj (o_ yj)).isNone)
        (w2.putObj (I.sv l).blk (.loop { CV I2 l L Ob NY with state:=if(nj (o_ yj)).isNone then .ready else .done,pending:=nj (o_ yj) })):=by
       refine⟨I2,ag.trans BU st.nx,?_,by simp only[Ip.g,ic,Ii],trivial,hst.setMarks _,rfl⟩
       have:=ZE.setMarks s.dW (wrote s2 l (.loop (if(o_ yj).isNone then .ready else .done) (o_ yj))).wr (fun m hm=>by have:=h.dW m hm;have:=hst.nx;omega)
       rw[Ii]
       exact this
      cases yj<;>exact⟨_,_,hend,hfin⟩
     ·cases hh
    ·cases hh
   ·cases hh
end
end Go.Ev
end
section
namespace Go.Ev
open Go.Fw
theorem SR.start(w0:World):SR ⟨fun _=>SV.nil,fun _=>#[],fun _=>0⟩ [] w0 { h:=.e,nx:=0 } w0:=by
 have no:∀ n o,find (.e:Heap) n=some o→False:=fun n o e=>by simp[find,Tr.get_e]at e
 exact⟨⟨aal _,fun _ _ _ _=>rfl⟩,Io.refl w0,fun n o e=>(no n o e).elim,fun n o e=>(no n o e).elim,fun n o e=>(no n o e).elim,fun n m o o' e=>(no n o e).elim,fun n h=>absurd h (by simp),⟨fun l L e=>absurd e (by simp[ij]),fun l L e=>absurd e (by simp[ij])⟩⟩
def NV:Option (AV×St)→Bool
 | some (.b true,_)=>true
 | _=>false
theorem xt{P:Program}{f fuel k:Nat}(hm:P.follows .mixedOrders=true)(h:NV (pg (fe P) fuel k [] (.f f [] []) [] { h:=.e,nx:=0 })=true)(w0:World):Calls P f #[] w0 (fZ fun v w'=>v = .bool true∧gw [] w0 w'):=by
 cases hq:pg (fe P) fuel k [] (.f f [] []) [] { h:=.e,nx:=0 }with
 | none=>rw[hq]at h;cases h
 | some p =>
  obtain⟨v,s'⟩:=p
  rw[hq]at h
  have hv:v = .b true:=by
   cases v<;>simp only[NV,abq]at h
   rename_i b
   cases b
   ·simp at h
   ·rfl
  subst hv
  have:=(UH (w0:=w0) (fuel:=fuel) hm k [] _ _ _ w0 _ _ _ hq (SR.start w0) ⟨trivial,trivial⟩ (by simp)).2
  simp only[acT,aa5]at this
  refine Calls.mono this fun e w' he=>?_
  cases e<;>simp only[fZ]at he ⊢
  obtain⟨I',hA⟩:=he
  exact⟨by rw[hA.val];simp[ic],⟨hA.sr.io,hA.sr.old.size,fun j hj _=>hA.sr.old.block j (aau _) hj (by simp)⟩⟩
end Go.Ev
end
section
namespace Go.Fx
open Go Go.Fw Go.Proofs
section
variable {X:Type}[du X]
def wT(s:SV):SV:=⟨s.a,s.len+2,s.cap⟩
structure D1(w:World)(s:SV)(l sp:List X):Prop where
 full:cg 0 w (wT s) (l++sp)
 two:sp.length=2
theorem D1.sl{w:World}{s:SV}{l sp:List X}(h:D1 w s l sp):cg 0 w s l:=by
 obtain⟨h,h2⟩:=h
 have h1:=h.len
 have h3:=h.room
 have h4:=h.cells
 simp only[wT,abT]at h1 h3 h4
 refine⟨ac_,ac_,?_⟩
 obtain⟨sa,sl,sc⟩:=s
 cases sa with
 | none=>have:=congrArg List.length h4.1;simp at this;omega
 | some ad =>
  obtain⟨k1,k2,k3⟩:=h4
  refine⟨.inr (k1.resolve_left fun k=>by rw[List.append_eq_nil_iff]at k;rw[k.2]at h2;cases h2),k2,fun j v hj=>k3 j v ?_⟩
  rw[dY,aaZ (aap.1 hj).1]
  exact hj
def zx(L:World→Prop)(s:SV)(l sp:List X):Prop:=∀ w,L w→D1 w s l sp
theorem zx.mono{L L':World→Prop}{s:SV}{l sp:List X}(h:zx L s l sp)(k:∀ w,L' w→L w):zx L' s l sp:=fun w hM=>h w (k w hM)
theorem zx.full{L:World→Prop}{s:SV}{l sp:List X}(h:zx L s l sp):dj L (wT s) (l++sp):=fun w hM=>(h w hM).full
end
def Fg:List UInt8:=[161,162]
def Jk:List Int:=[-7,-8]
def Ff:List dM:=[⟨-7,aj.zero,aj.zero⟩,⟨-8,aj.zero,aj.zero⟩]
def Fe:List d_:=[⟨-7,bn.zero,bn.zero⟩,⟨-8,bn.zero,bn.zero⟩]
def A2:List bk:=[⟨0,-7,SV.nil,SV.nil⟩,⟨0,-8,SV.nil,SV.nil⟩]
def v8(L:World→Prop)(s:SV)(l:List UInt8):Prop:=zx L s l Fg
theorem v8.mono{L L':World→Prop}{s:SV}{l:List UInt8}(h:v8 L s l)(k:∀ w,L' w→L w):v8 L' s l:=zx.mono h k
def qk(L:World→Prop)(x:bk)(p:b9):Prop:=∃ (mr:SV) (mg:SV),x=(bk.mk p.table p.from_ mr mg)∧zx L mr p.old Fg∧zx L mg p.new Fg
theorem qk.mono{L L':World→Prop}{x:bk}{p:b9}(h:qk L x p)(k:∀ w,L' w→L w):qk L' x p:=by
 obtain⟨mr,mg,e,h0,h1⟩:=h
 exact⟨mr,mg,e,h0.mono k,h1.mono k⟩
def wm(L:World→Prop)(x:bw)(p:dw):Prop:=∃ (nu:SV) (kA:SV) (jM:SV) (kx:List bk) (gx:SV),x=(bw.mk p.at_ p.next p.done nu kA jM gx)∧zx L nu p.a8 Ff∧zx L kA p.slots Fe∧zx L jM kx A2∧cn (qk L) kx p.dy∧zx L gx p.a7 Jk
theorem wm.mono{L L':World→Prop}{x:bw}{p:dw}(h:wm L x p)(k:∀ w,L' w→L w):wm L' x p:=by
 obtain⟨nu,kA,jM,kx,gx,e,h0,h1,h2,h3,h4⟩:=h
 exact⟨nu,kA,jM,kx,gx,e,h0.mono k,h1.mono k,h2.mono k,h3.mono fun _ _ q=>q.mono k,h4.mono k⟩
end Go.Fx
end
section
namespace Go.Fx
open Go Go.Fw Go.Proofs
def D2(f:Nat→Prop)(w:World):Prop:=∀ k,f k → ∃ cs T,w.heap[k]? = some (.cells cs T (0,0))
structure zy where
 f:Nat→Prop
 Q:World→Prop
def zy.r(x:zy):di:=.gen x.f (fun w=>x.Q w∧D2 x.f w)
class xk(r:di):Prop where
 soft:∀ w,r.holds w→D2 r.fp w
instance {lo e sz n:Nat}{v:Value}{xs:List Value}:xk (.row lo v e sz n xs) where
 soft:=fun w h k hk=>by
  rcases h.2 with⟨h1,h2⟩|⟨g,cap,cur,h1,h3,h4,h5⟩
  ·rw[h1]at hk;simp[di.fp,Value.ownBlock]at hk
  ·rw[h1]at hk
   simp only[di.fp,Value.ownBlock,ac9]at hk
   subst hk
   exact⟨cur,e,h4⟩
instance {b T:Nat}{cs:Array Value}:xk (.obj b (.cells cs T (0,0))) where
 soft:=fun w h k hk=>by
  simp only[di.fp]at hk
  subst hk
  exact⟨cs,T,h⟩
theorem zy.now{x:zy}{w:World}(h:x.r.holds w):x.Q w∧D2 x.f w:=h.2 w (Io.refl w) (aal _) fun _ _=>rfl
instance (x:zy):xk x.r where
 soft:=fun w h=>(zy.now h).2
instance {hs:List SV}{ls:List (List UInt8)}:xk (a_ hs ls) where
 soft:=fun w h k hk=>by
  obtain⟨r,hr,hf⟩:=hk
  have hM:=(iL.1 (nR h).2).1 r hr
  obtain⟨i,hi⟩:=acZ.1 hr
  unfold o8 at hi
  rw[ac0]at hi
  split at hi
  ·cases hi
   exact xk.soft (r:=di.row _ _ _ _ _ _) w hM k hf
  ·cases hi
def pZ(u v:Value):Prop:=u=v∨(∃ i j,u = .int .i64 i∧v = .int .i64 j) ∨ ∃ a b:UInt8,u = .int .u8 (a.toNat:Int)∧v = .int .u8 (b.toNat:Int)
theorem pZ.refl(u:Value):pZ u u:=.inl rfl
theorem pZ.trans{u v x:Value}(h:pZ u v)(k:pZ v x):pZ u x:=by
 rcases h with rfl|⟨i,j,rfl,rfl⟩|⟨a,b,rfl,rfl⟩
 ·exact k
 ·rcases k with rfl|⟨i',j',_,rfl⟩|⟨a,b,h,_⟩
  ·exact .inr (.inl ⟨_,_,rfl,rfl⟩)
  ·exact .inr (.inl ⟨_,_,rfl,rfl⟩)
  ·cases h
 ·rcases k with rfl|⟨i',j',h,_⟩|⟨a',b',_,rfl⟩
  ·exact .inr (.inr ⟨_,_,rfl,rfl⟩)
  ·cases h
  ·exact .inr (.inr ⟨_,_,rfl,rfl⟩)
theorem pZ.i64{i:Int}{u:Value}(h:pZ (.int .i64 i) u):∃ j,u = .int .i64 j:=by
 rcases h with rfl|⟨_,j,_,rfl⟩|⟨a,b,h,_⟩
 ·exact⟨_,rfl⟩
 ·exact⟨_,rfl⟩
 ·cases h
theorem pZ.u8{a:UInt8}{u:Value}(h:pZ (.int .u8 (a.toNat:Int)) u):∃ b:UInt8,u = .int .u8 (b.toNat:Int):=by
 rcases h with rfl|⟨_,j,h,_⟩|⟨_,b,_,rfl⟩
 ·exact⟨_,rfl⟩
 ·cases h
 ·exact⟨_,rfl⟩
theorem pZ.slice{a:Option Addr}{n c:Nat}{u:Value}(h:pZ (.slice a n c) u):u = .slice a n c:=by
 rcases h with rfl|⟨_,j,h,_⟩|⟨_,b,h,_⟩
 ·rfl
 ·cases h
 ·cases h
theorem pZ.bool{b:Bool}{u:Value}(h:pZ (.bool b) u):u = .bool b:=by
 rcases h with rfl|⟨_,j,h,_⟩|⟨_,b,h,_⟩
 ·rfl
 ·cases h
 ·cases h
theorem pZ.bytes(a b:UInt8):pZ (.int .u8 (a.toNat:Int)) (.int .u8 (b.toNat:Int)):=.inr (.inr ⟨_,_,rfl,rfl⟩)
end Go.Fx
end
noncomputable section
namespace Go.Proofs
open Go Go.Fw Go.Fx
set_option maxRecDepth 10000
def Sh.mJ(c2:List (List UInt8))(c1:Nat)(c0:Int):Option (((Nat×Int)⊕(Nat⊕br))) :=
 (bif (decide (c0<(c2.length:Int)))then((Fx.get c2 c0).bind fun c3=>(Fx.must (decide (c1≤(c0:Int).toNat)) ((Sh.cY c3).bind fun c5=>((Fx.get c2 c0).bind fun c4=>(Fx.must (decide (c1≤(c0:Int).toNat)) (Fx.must (decide ((c0:Int).toNat=c1)) (Fx.must (decide (c5=c4)) (some (inl ((c1+1),(IntKind.i64.wrap (c0+1))))))))))))else(some (inr (inl c1))))
def Sh.vV(x0:br)(c2:List UInt8)(c0:List (List UInt8))(c1:Nat):Option br :=
 ((Sh.bG x0.a7).bind fun c3=>(Fx.must (decide (c0.length≤c1)) (some (br.mk x0.a8 x0.bh c2 c0 c3 x0.at_ x0.steps x0.done))))
def Sh.hV(x0:br):Option br :=
 ((Sh.cY x0.cq).bind fun c4=>((Sh.fS x0.ah).bind fun c0=>(Fx.seq (Fx.loop (fun(c2,c3)=>Sh.mJ c0 c2 c3) (0,0)) fun c1=>Sh.vV x0 c4 c0 c1)))
def Sh.mG(x1:dw)(c0:Vec aj 11)(c3:List Int)(c1:Int):Option (((Vec aj 11×List Int×Int)⊕((Vec aj 11×List Int)⊕br))) :=
 (bif (decide (c1<(x1.a8.length:Int)))then((Fx.get x1.a8 c1).bind fun c2=>((Fx.get c0.l c2.reg).bind fun c4=>(some (inl ((c0.set (c2.reg:Int).toNat c2.new),c3,(IntKind.i64.wrap (c1+1)))))))else(some (inr (inl (c0,c3)))))
def Sh.mH(x1:dw)(c0:Vec bn 32)(c3:List Int)(c1:Int):Option (((Vec bn 32×List Int×Int)⊕((Vec bn 32×List Int)⊕br))) :=
 (bif (decide (c1<(x1.slots.length:Int)))then((Fx.get x1.slots c1).bind fun c2=>((Fx.get c0.l c2.slot).bind fun c4=>(some (inl ((c0.set (c2.slot:Int).toNat c2.new),c3,(IntKind.i64.wrap (c1+1)))))))else(some (inr (inl (c0,c3)))))
def Sh.vR(c1:List (List UInt8))(c3:Int)(c2:b9)(c0:Nat)(c5:Bool):Option (((List (List UInt8)×Int)⊕(List (List UInt8)⊕br))) :=
 ((Fx.ny (Fx.pk c1 c0) c2.from_ ((Fx.pk c1 c0).length:Int)).bind fun c6=>((Fx.LC (Fx.pk c1 c0) c2.from_ c2.new).bind fun c4=>(some (inl ((c1.set c0 c4),(IntKind.i64.wrap (c3+1)))))))
def Sh.mI(x1:dw)(c1:List (List UInt8))(c2:Int):Option (((List (List UInt8)×Int)⊕(List (List UInt8)⊕br))) :=
 (bif (decide (c2<(x1.dy.length:Int)))then((Fx.get x1.dy c2).bind fun c0=>(Fx.seq (bif (decide (c0.table<0))then(some (inl (0,true)))else(bif (decide (c0.table<((List.tail c1).length:Int)))then((Fx.get (List.tail c1) c0.table).bind fun c5=>(some (inl (((c0.table:Int).toNat+1),true))))else Fx.must false none)) fun(c3,c4)=>Sh.vR c1 c2 c0 c3 c4))else(some (inr (inl c1))))
def Sh.aBw(x1:dw)(c1:br)(c4:Vec aj 11)(c2:Vec bn 32)(c3:List Int)(c0:List (List UInt8)):Option br :=
 (some (br.mk c4 c2 (Fx.pk c0 0) (List.tail c0) c3 x1.next c1.steps c1.done))
def Sh.vT(x1:dw)(c0:br)(c6:Vec aj 11)(c3:Vec bn 32)(c4:List Int):Option br :=
 (Fx.seq (Fx.loop (fun(c2,c5)=>Sh.mI x1 c2 c5) ((c0.cq::c0.ah),0)) fun c1=>Sh.aBw x1 c0 c6 c3 c4 c1)
def Sh.vS(x1:dw)(c0:br)(c6:Vec aj 11)(c7:List Int):Option br :=
 (Fx.seq (Fx.loop (fun(c3,c4,c5)=>Sh.mH x1 c3 c4 c5) (c0.bh,c7,0)) fun(c1,c2)=>Sh.vT x1 c0 c6 c1 c2)
def Sh.sD(x0:br)(x1:dw):Option br :=
 ((Sh.hV x0).bind fun c0=>(Fx.seq (Fx.loop (fun(c3,c4,c5)=>Sh.mG x1 c3 c4 c5) (c0.a8,c0.a7,0)) fun(c1,c2)=>Sh.vS x1 c0 c1 c2))
end Go.Proofs
end
section
namespace Go.Fx
open Go Go.Fw Go.Proofs
def e8(sep:Bool)(L:World→Prop)(hs:List bk)(l:List b9)(so sn:SV)(lo ln:List UInt8):Prop :=
 (sep=false∧cn (eH L) hs l)∨(sep=true ∧ ∃ hs0 l0 t f,hs=hs0 ++ [⟨t,f,so,sn⟩]∧l=l0 ++ [⟨t,f,lo,ln⟩]∧cn (eH L) hs0 l0)
section
variable {sep:Bool}{L L':World→Prop}{hs:List bk}{l:List b9}{so sn:SV}{lo ln:List UInt8}
theorem e8.none(h:cn (eH L) hs l):e8 false L hs l so sn lo ln:=.inl ⟨rfl,h⟩
theorem e8.mono(h:e8 sep L hs l so sn lo ln)(k:∀ w,L' w→L w):e8 sep L' hs l so sn lo ln:=by
 rcases h with⟨h1,h2⟩|⟨h1,hs0,l0,t,f,h2,h3,h4⟩
 ·exact .inl ⟨h1,h2.mono fun _ _ q=>q.mono k⟩
 ·exact .inr ⟨h1,hs0,l0,t,f,h2,h3,h4.mono fun _ _ q=>q.mono k⟩
theorem e8.each(h:e8 sep L hs l so sn lo ln)(k:∀ w,L' w→L w)(ho:∀ w,L' w→cg 0 w so lo)(hn:∀ w,L' w→cg 0 w sn ln):cn (eH L') hs l:=by
 rcases h with⟨h1,h2⟩|⟨h1,hs0,l0,t,f,rfl,rfl,h4⟩
 ·exact h2.mono fun _ _ q=>q.mono k
 ·exact(h4.mono fun _ _ q=>q.mono k).snoc ⟨so,sn,rfl,ho,hn⟩
theorem e8.len(h:e8 sep L hs l so sn lo ln):hs.length=l.length:=by
 rcases h with⟨h1,h2⟩|⟨h1,hs0,l0,t,f,rfl,rfl,h4⟩
 ·exact h2.len
 ·simp[h4.len]
theorem e8.push{t f:Int}{so' yU:SV}{lo' Bc:List UInt8}(h:cn (eH L) hs l):e8 true L (hs ++ [⟨t,f,so',yU⟩]) (l ++ [⟨t,f,lo',Bc⟩]) so' yU lo' Bc:=.inr ⟨rfl,hs,l,t,f,rfl,rfl,h⟩
theorem e8.last{i:Int}{p:b9}{y:bk}(h:e8 true L hs l so sn lo ln)(hi:i=(l.length:Int)-1)(hp:Fx.get l i=some p)(hy:hs[i.toNat]? = some y):y.old=so∧y.new=sn∧p.old=lo∧p.new=ln∧y.table=p.table∧y.from_=p.from_:=by
 rcases h with⟨h1,_⟩|⟨_,hs0,l0,t,f,rfl,rfl,h4⟩
 ·cases h1
 ·have e:i.toNat=l0.length:=by subst hi;simp
  obtain⟨_,hp⟩:=aL hp
  rw[e]at hp hy
  rw[←h4.len]at hy
  simp at hp hy
  subst hp hy
  exact⟨rfl,rfl,rfl,rfl,rfl,rfl⟩
theorem e8.setOld{i:Int}{p:b9}{y:bk}{so':SV}{lo':List UInt8}(h:e8 true L hs l so sn lo ln)(hi:i=(l.length:Int)-1)(hp:Fx.get l i=some p)(hy:hs[i.toNat]? = some y) :
  e8 true L (hs.set i.toNat { y with old:=so' }) (l.set i.toNat { p with old:=lo' }) so' sn lo' ln:=by
 have h0:=h
 rcases h with⟨h1,_⟩|⟨_,hs0,l0,t,f,rfl,rfl,h4⟩
 ·cases h1
 ·obtain⟨e1,e2,e3,e4,e5,e6⟩:=e8.last h0 hi hp hy
  have e:i.toNat=l0.length:=by subst hi;simp
  obtain⟨_,hp⟩:=aL hp
  rw[e]at hp hy ⊢
  simp at hp
  subst hp
  rw[←h4.len]at hy
  simp at hy
  subst hy
  refine .inr ⟨rfl,hs0,l0,t,f,?_,?_,h4⟩
  ·rw[←h4.len];simp
  ·simp
theorem e8.setNew{i:Int}{p:b9}{y:bk}{yU:SV}{Bc:List UInt8}(h:e8 true L hs l so sn lo ln)(hi:i=(l.length:Int)-1)(hp:Fx.get l i=some p)(hy:hs[i.toNat]? = some y) :
  e8 true L (hs.set i.toNat { y with new:=yU }) (l.set i.toNat { p with new:=Bc }) so yU lo Bc:=by
 have h0:=h
 rcases h with⟨h1,_⟩|⟨_,hs0,l0,t,f,rfl,rfl,h4⟩
 ·cases h1
 ·obtain⟨e1,e2,e3,e4,e5,e6⟩:=e8.last h0 hi hp hy
  have e:i.toNat=l0.length:=by subst hi;simp
  obtain⟨_,hp⟩:=aL hp
  rw[e]at hp hy ⊢
  simp at hp
  subst hp
  rw[←h4.len]at hy
  simp at hy
  subst hy
  refine .inr ⟨rfl,hs0,l0,t,f,?_,?_,h4⟩
  ·rw[←h4.len];simp
  ·simp
theorem e8.pR{i:Int}{p:b9}{y:bk}{so' yU:SV}{lo' Bc:List UInt8}(h:e8 true L hs l so sn lo ln)(hi:i=(l.length:Int)-1)(hp:Fx.get l i=some p)(hy:hs[i.toNat]? = some y) :
  e8 true L (hs.set i.toNat ⟨p.table,p.from_,so',yU⟩) (l.set i.toNat ⟨p.table,p.from_,lo',Bc⟩) so' yU lo' Bc:=by
 have h0:=h
 rcases h with⟨h1,_⟩|⟨_,hs0,l0,t,f,rfl,rfl,h4⟩
 ·cases h1
 ·have e:i.toNat=l0.length:=by subst hi;simp
  obtain⟨_,hp⟩:=aL hp
  rw[e]at hp hy ⊢
  simp at hp
  subst hp
  refine .inr ⟨rfl,hs0,l0,t,f,?_,?_,h4⟩
  ·rw[←h4.len];simp
  ·simp
theorem e8.getr{i:Int}{p:b9}(h:e8 sep L hs l so sn lo ln)(hp:Fx.get l i=some p):∃ y,hs[i.toNat]? = some y:=by
 obtain⟨_,hp⟩:=aL hp
 have:=(aap.1 hp).1
 exact⟨_,aa1 (by rw[h.len];exact this)⟩
end
end Go.Fx
end
noncomputable section
namespace Go.Proofs
open Go Go.Fw Go.Fx
set_option maxRecDepth 10000
def Sh.vW(c1:List b9)(c0:Bool):Option (((List b9×Bool)⊕((Int×List b9×Bool)⊕((List b9×Bool)⊕List b9)))) :=
 (some (inl (c1,c0)))
def Sh.mL(x0:Int)(x1:List UInt8)(x2:List UInt8)(c0:List b9)(c4:Bool)(c1:Int)(c6:Bool):Option (((List b9×Bool)⊕((Int×List b9×Bool)⊕((List b9×Bool)⊕List b9)))) :=
 (bif c6 then(Fx.seq ((Fx.get c0 (IntKind.i64.wrap ((c0.length:Int)-1))).bind fun c8=>((Fx.get x1 c1).bind fun c9=>((Fx.get c0 (IntKind.i64.wrap ((c0.length:Int)-1))).bind fun d0=>((Fx.get x2 c1).bind fun d1=>(Fx.must (c4) (Fx.must (decide ((IntKind.i64.wrap ((c0.length:Int)-1))=(c0.length:Int)-1)) ((Fx.app 1 c8.old [c9]).bind fun c2=>(Fx.must (c4) (Fx.must (decide ((IntKind.i64.wrap ((c0.length:Int)-1))=(c0.length:Int)-1)) ((Fx.app 1 d0.new [d1]).bind fun d2=>((Fx.get c0 (IntKind.i64.wrap ((c0.length:Int)-1))).bind fun d7=>((Fx.get c0 (IntKind.i64.wrap ((c0.length:Int)-1))).bind fun c3=>(Fx.must (c4) (Fx.must (decide ((IntKind.i64.wrap ((c0.length:Int)-1))=(c0.length:Int)-1)) ((Fx.get (c0.set ((IntKind.i64.wrap ((c0.length:Int)-1)):Int).toNat { c3 with old:=c2 }) (IntKind.i64.wrap ((c0.length:Int)-1))).bind fun d8=>((Fx.get (c0.set ((IntKind.i64.wrap ((c0.length:Int)-1)):Int).toNat { c3 with old:=c2 }) (IntKind.i64.wrap ((c0.length:Int)-1))).bind fun d3=>(Fx.must (true) (Fx.must (decide ((IntKind.i64.wrap ((c0.length:Int)-1))=((c0.set ((IntKind.i64.wrap ((c0.length:Int)-1)):Int).toNat { c3 with old:=c2 }).length:Int)-1)) (some (inl (((c0.set ((IntKind.i64.wrap ((c0.length:Int)-1)):Int).toNat { c3 with old:=c2 }).set ((IntKind.i64.wrap ((c0.length:Int)-1)):Int).toNat { d3 with new:=d2 }),true))))))))))))))))))))) fun(c7,c5)=>Sh.vW c7 c5)else((Fx.get x1 c1).bind fun d4=>((Fx.get x2 c1).bind fun d5=>((Fx.app 64 c0 [(b9.mk x0 c1 [d4] [d5])]).bind fun d6=>(some (inl (d6,true)))))))
def Sh.mK(c1:Int)(c2:List b9)(c0:Bool):Option (((Int×List b9×Bool)⊕((List b9×Bool)⊕List b9))) :=
 (some (inl ((IntKind.i64.wrap (c1+1)),c2,c0)))
def Sh.mM(x0:Int)(x1:List UInt8)(x2:List UInt8)(c4:List Int)(c1:Int)(c0:List b9)(c2:Bool):Option (((Int×List b9×Bool)⊕((List b9×Bool)⊕List b9))) :=
 (bif (decide (c1<(c4.length:Int)))then(Fx.seq ((Fx.get c4 c1).bind fun c3=>(Fx.seq (bif (decide (0≤(IntKind.i64.wrap ((c0.length:Int)-1))))then((Fx.get c0 (IntKind.i64.wrap ((c0.length:Int)-1))).bind fun c8=>((Fx.get c0 (IntKind.i64.wrap ((c0.length:Int)-1))).bind fun c9=>(some (inl (decide ((IntKind.i64.wrap (c8.from_+(c9.old.length:Int)))=c3))))))else(some (inl false))) fun c7=>Sh.mL x0 x1 x2 c0 c2 c3 c7)) fun(c6,c5)=>Sh.mK c1 c6 c5)else(some (inr (inl (c0,c2)))))
def Sh.aBy(c0:List b9)(c1:Bool):Option (List b9) :=
 (some c0)
def Sh.sF(x0:Int)(x1:List UInt8)(x2:List UInt8):Option (List b9) :=
 (Fx.seq ((Sh.cQ x1 x2).bind fun c5=>(Fx.loop (fun(c3,c4,c1)=>Sh.mM x0 x1 x2 c5 c3 c4 c1) (0,[],false))) fun(c2,c0)=>Sh.aBy c2 c0)
end Go.Proofs
end
noncomputable section
namespace Go.Proofs
open Go Go.Fw Go.Fx
set_option maxRecDepth 10000
def Sh.kI(x0:br)(x1:br)(c3:List Int)(c2:List dM)(c0:Int):Option (((List dM×Int)⊕(List dM⊕(dw×Int)))) :=
 (bif (decide (c0<(c3.length:Int)))then((Fx.get c3 c0).bind fun c1=>((Fx.get x0.a8.l c1).bind fun c4=>((Fx.get x1.a8.l c1).bind fun c5=>((Fx.app 72 c2 [(dM.mk c1 c4 c5)]).bind fun c6=>(some (inl (c6,(IntKind.i64.wrap (c0+1)))))))))else(some (inr (inl c2))))
def Sh.kJ(x0:br)(x1:br)(c4:List Int)(c2:List dM)(c3:List d_)(c0:Int):Option (((List dM×List d_×Int)⊕((List dM×List d_)⊕(dw×Int)))) :=
 (bif (decide (c0<(c4.length:Int)))then((Fx.get c4 c0).bind fun c1=>((Fx.get x0.bh.l c1).bind fun c5=>((Fx.get x1.bh.l c1).bind fun c6=>((Fx.app 104 c3 [(d_.mk c1 c5 c6)]).bind fun c7=>(some (inl (c2,c7,(IntKind.i64.wrap (c0+1)))))))))else(some (inr (inl (c2,c3)))))
def Sh.kK(x0:br)(x1:br)(c1:List dM)(c2:List d_)(c3:List b9)(c0:Int):Option (((List dM×List d_×List b9×Int)⊕((List dM×List d_×List b9)⊕(dw×Int)))) :=
 (bif (decide (c0<(x0.ah.length:Int)))then((Fx.get x0.ah c0).bind fun c4=>((Fx.get x1.ah c0).bind fun c5=>((Sh.sF c0 c4 c5).bind fun c7=>((Fx.app 64 c3 c7).bind fun c6=>(some (inl (c1,c2,c6,(IntKind.i64.wrap (c0+1)))))))))else(some (inr (inl (c1,c2,c3)))))
def Sh.yY(x0:br)(x1:br)(c0:List dM)(c1:List d_)(c2:List b9):Option ((dw×Int)) :=
 ((Fx.ny x1.a7 (x0.a7.length:Int) (x1.a7.length:Int)).bind fun c3=>((Fx.app 8 [] c3).bind fun c4=>(some ((dw.mk x0.at_ x1.at_ x1.done c0 c1 c2 c4),0))))
def Sh.yX(x0:br)(x1:br)(c0:List dM)(c1:List d_):Option ((dw×Int)) :=
 ((Sh.sF (-1) x0.cq x1.cq).bind fun c9=>(Fx.seq (Fx.loop (fun(c5,c6,c7,c8)=>Sh.kK x0 x1 c5 c6 c7 c8) (c0,c1,c9,0)) fun(c2,c3,c4)=>Sh.yY x0 x1 c2 c3 c4))
def Sh.aE9(x0:br)(x1:br)(c0:List dM):Option ((dw×Int)) :=
 (Fx.seq ((Sh.hU x0.bh.l x1.bh.l).bind fun c6=>(Fx.loop (fun(c3,c4,c5)=>Sh.kJ x0 x1 c6 c3 c4 c5) (c0,[],0))) fun(c1,c2)=>Sh.yX x0 x1 c1 c2)
def Sh.nA(x0:br)(x1:br)(c4:Bool):Option ((dw×Int)) :=
 (bif c4 then(some ((dw.mk 0 0 false [] [] [] []),1))else((Sh.wI x0 x1).bind fun c5=>(bif (!c5)then(some ((dw.mk 0 0 false [] [] [] []),231))else(Fx.seq ((Sh.hB x0.a8.l x1.a8.l).bind fun c3=>(Fx.loop (fun(c1,c2)=>Sh.kI x0 x1 c3 c1 c2) ([],0))) fun c0=>Sh.aE9 x0 x1 c0))))
def Sh.eW(x0:br)(x1:br):Option ((dw×Int)) :=
 (Fx.seq ((Sh.iD x0).bind fun c1=>(bif (!c1)then(some (inl true))else((Sh.iD x1).bind fun c2=>(some (inl (!c2)))))) fun c0=>Sh.nA x0 x1 c0)
end Go.Proofs
end
noncomputable section
namespace Go.Proofs
open Go Go.Fw Go.Fx
set_option maxRecDepth 10000
def Sh.nR(x0:br)(x1:dw):Option Int :=
 ((Sh.iD x0).bind fun ZL=>(bif (!ZL)then(some 1)else((Sh.cS x1).bind fun ZM=>(bif (!ZM)then(some 230)else(some 0)))))
def Sh.xF(x0:br)(x1:dw)(c1:Bool):Option ((br×Int)) :=
 (bif c1 then(some ((br.mk (⟨List.replicate 11 aj.zero,rfl⟩ : Vec aj 11) (⟨List.replicate 32 bn.zero,rfl⟩ : Vec bn 32) [] [] [] 0 0 false),231))else((Sh.sD x0 x1).bind fun c0=>((Fx.app 8 c0.a7 x1.a7).bind fun c2=>(some ((br.mk c0.a8 c0.bh c0.cq c0.ah c2 c0.at_ (IntKind.i64.wrap (c0.steps+1)) x1.done),0)))))
def Sh.bO(x0:br)(x1:dw):Option ((br×Int)) :=
 ((Sh.nR x0 x1).bind fun Sl=>(bif (!decide (Sl=0))then(some ((br.mk (⟨List.replicate 11 aj.zero,rfl⟩ : Vec aj 11) (⟨List.replicate 32 bn.zero,rfl⟩ : Vec bn 32) [] [] [] 0 0 false),Sl))else(Fx.seq (bif x0.done then(some (inl true))else(bif (decide (x0.steps=4294967296))then(some (inl true))else((Sh.xI x0 x1).bind fun c1=>(some (inl (!c1)))))) fun c0=>Sh.xF x0 x1 c0)))
end Go.Proofs
end
section
namespace Go.Fx
open Go Go.Fw
structure GN where
 l:Nat
 d:Nat
 fn:Nat
 ts:Array Value
 ps:Array Tmp
 ag:Code
 bd:Code
def GN.o(rc:GN)(st:LoopState)(pd:Option Code):Obj:=.loop { state:=st,pending:=pd,fn:=rc.fn,tmps:=rc.ts,params:=rc.ps,assign:=rc.ag,body:=rc.bd,defers:=rc.d }
abbrev mark(d:Nat):Deferred:={ target:=.collected d,args:=#[] }
structure GH(n:Nat)(F:List (Nat×Value))(ts:Array Value):Prop where
 size:ts.size=n
 get:∀ i v,Go.Fw.look F i=some v→ts[i]? = some v
theorem GH.fr{n:Nat}{F:List (Nat×Value)}{ts:Array Value}(h:GH n F ts)(dd:List Deferred):Fr n F { tmps:=ts,defers:=dd } dd:=⟨rfl,h.size,h.get⟩
theorem GH.put{n d:Nat}{F:List (Nat×Value)}{ts:Array Value}{v:Value}(h:GH n F ts)(hd:Nat.blt d n=true):GH n ((d,v)::F) (ts.setIfInBounds d v):=by
 have:=Fr.put (h.fr []) (v:=v) hd
 exact⟨this.size,this.get⟩
end Go.Fx
end
section
namespace Go.Fx
open Go Go.Fw Go.Proofs
structure sQ(B R:World→Prop)(n:Nat)(h:Bool)(hs:List bk)(ls:List b9):Prop where
 len:hs.length=ls.length
 own:∀ i x y,i<n→hs[i]? = some x→ls[i]? = some y→eH R x y
 CU:∀ i x y,n≤i→(h=false∨i≠n)→hs[i]? = some x→ls[i]? = some y→eH B x y
 half:h=true → ∀ x y,hs[n]? = some x→ls[n]? = some y→x.table=y.table∧x.from_=y.from_∧dj R x.old y.old∧dj B x.new y.new
section
variable {B R R':World→Prop}{n:Nat}{hs:List bk}{ls:List b9}{i:Int}{x:b9}{y:bk}{s:SV}
theorem sQ.of(q:cn (eH B) hs ls):sQ B R 0 false hs ls:=⟨q.len,fun i x y h=>absurd h (abM _),fun i x y _ _ hx hy=>q.at_ i x y hx hy,fun h=>by cases h⟩
theorem sQ.getr{h:Bool}(q:sQ B R n h hs ls)(hx:Fx.get ls i=some x):(0≤i∧i<(hs.length:Int)) ∧ ∃ y,hs[i.toNat]? = some y∧(n≤i.toNat→h=false→eH B y x):=by
 obtain⟨h0,h1⟩:=aL hx
 have h2:=(aap.1 h1).1
 have h3:i.toNat<hs.length:=by rw[q.len];exact h2
 exact⟨ac_,hs[i.toNat],aa1 h3,fun hn hf=>q.CU _ _ _ hn (.inl hf) (aa1 h3) h1⟩
theorem GZ{X:Type}{l:List X}{k j:Nat}{a b:X}(h:(l.set k a)[j]? = some b):(k=j∧b=a)∨(k≠j∧l[j]? = some b):=by
 rw[abG]at h
 split at h
 ·rename_i e
  split at h
  ·exact .inl ⟨e,(ac8 h).symm⟩
  ·cases h
 ·exact .inr ⟨by assumption,h⟩
theorem sQ.old(q:sQ B R n false hs ls)(hx:Fx.get ls i=some x)(hy:hs[i.toNat]? = some y)(hi:i.toNat=n)(k:∀ w,R' w→R w)(hs':∀ w,R' w→cg 0 w s x.old):sQ B R' n true (hs.set i.toNat { y with old:=s }) ls:=by
 obtain⟨h0,h1⟩:=aL hx
 have hb:=q.CU _ _ _ (acG hi.symm) (.inl rfl) hy h1
 refine⟨by rw[abv];exact q.len,fun j a b hj ha hb'=>?_,fun j a b hj hne ha hb'=>?_,fun _ a b ha hb'=>?_⟩
 ·rcases GZ ha with⟨e,_⟩|⟨e,ha⟩
  ·omega
  ·exact(q.own j a b hj ha hb').mono k
 ·rcases GZ ha with⟨e,_⟩|⟨e,ha⟩
  ·rcases hne with hne|hne
   ·cases hne
   ·omega
  ·exact q.CU j a b hj (.inl rfl) ha hb'
 ·rcases GZ ha with⟨e,rfl⟩|⟨e,ha⟩
  ·rw[←hi]at hb'
   cases h1.symm.trans hb'
   obtain⟨so,sn,rfl,f0,f1⟩:=hb
   exact⟨rfl,rfl,hs',f1⟩
  ·exact absurd hi e
theorem sQ.new(q:sQ B R n true hs ls)(hx:Fx.get ls i=some x)(hy:hs[i.toNat]? = some y)(hi:i.toNat=n)(k:∀ w,R' w→R w)(hs':∀ w,R' w→cg 0 w s x.new):sQ B R' (n+1) false (hs.set i.toNat { y with new:=s }) ls:=by
 obtain⟨h0,h1⟩:=aL hx
 have hh:=q.half rfl y x (by rw[←hi];exact hy) (by rw[←hi];exact h1)
 refine⟨by rw[abv];exact q.len,fun j a b hj ha hb'=>?_,fun j a b hj _ ha hb'=>?_,fun h=>by cases h⟩
 ·rcases GZ ha with⟨e,rfl⟩|⟨e,ha⟩
  ·rw[←e]at hb'
   cases h1.symm.trans hb'
   obtain⟨g1,g2,g3,g4⟩:=hh
   obtain⟨t,f,so,sn⟩:=y
   simp only at g1 g2 g3
   subst g1 g2
   exact⟨so,s,rfl,dj.mono g3 k,hs'⟩
  ·exact(q.own j a b ac_ ha hb').mono k
 ·rcases GZ ha with⟨e,_⟩|⟨e,ha⟩
  ·omega
  ·exact q.CU j a b ac_ (.inr ac_) ha hb'
theorem sQ.done(q:sQ B R n false hs ls)(hn:ls.length≤n):cn (eH R) hs ls :=
 ⟨q.len,fun i x y hx hy=>q.own i x y (by have:=(aap.1 hy).1;omega) hx hy⟩
end
end Go.Fx
end
noncomputable section
namespace Go.Proofs
open Go Go.Fw Go.Fx
set_option maxRecDepth 10000
def Sh.G_(v7:Bool):Option Bool :=
 (some v7)
def Sh.wB(x0:Int):Option Bool :=
 (Fx.seq (bif (decide (x0=20))then(some (inl true))else(some (inl (decide (x0=21))))) fun v7=>Sh.G_ v7)
def Sh.xK(v7:Bool):Option Bool :=
 (some v7)
def Sh.qX(x0:Int):Option Bool :=
 (Fx.seq (bif (decide (1≤x0))then(some (inl (decide (x0≤23))))else(some (inl false))) fun v7=>Sh.xK v7)
def Sh.xL(v55:Bool):Option Bool :=
 (bif v55 then(some true)else(some false))
def Sh.nS(x0:Int)(x1:Int):Option Bool :=
 (bif (!decide (x0=25))then(some false)else(Fx.seq (bif (decide (x1=225))then(some (inl (decide (x1=225))))else(bif (decide (x1=1))then(some (inl (decide (x1=1))))else(bif (decide (x1=65))then(some (inl (decide (x1=65))))else(bif (decide (x1=81))then(some (inl (decide (x1=81))))else(some (inl (decide (x1=161)))))))) fun v55=>Sh.xL v55))
def Sh.aCa(x0:Int)(v54:Bool):Option Bool :=
 (bif v54 then(some true)else((Sh.nS 25 x0).bind fun R_=>(some R_)))
def Sh.Ea(x0:Int):Option Bool :=
 (Fx.seq (bif (decide (x0=0))then(some (inl (decide (x0=0))))else(bif (decide (x0=64))then(some (inl (decide (x0=64))))else(bif (decide (x0=80))then(some (inl (decide (x0=80))))else(bif (decide (x0=160))then(some (inl (decide (x0=160))))else(some (inl (decide (x0=241)))))))) fun v54=>Sh.aCa x0 v54)
def Sh.aCd(v47:Bool):Option Bool :=
 (some v47)
def Sh.nP(x0:Int):Option Bool :=
 (Fx.seq (bif (decide (1≤x0))then(bif (decide (x0≤15))then(bif (!decide (x0=14))then(some (inl true))else(bif (decide (x0=24))then(some (inl true))else(bif (decide (27≤x0))then(some (inl (decide (x0≤37))))else(some (inl false)))))else(bif (decide (x0=24))then(some (inl true))else(bif (decide (27≤x0))then(some (inl (decide (x0≤37))))else(some (inl false)))))else(bif (decide (x0=24))then(some (inl true))else(bif (decide (27≤x0))then(some (inl (decide (x0≤37))))else(some (inl false))))) fun v47=>Sh.aCd v47)
def Sh.aGk(c0:Bool)(c1:Bool)(c2:Bool)(c3:Bool):Option ((Bool×Bool×Bool×Bool)) :=
 (some (c0,c1,c2,c3))
def Sh.aAi(x0:bg)(c0:Bool)(c1:Bool)(c2:Bool):Option ((Bool×Bool×Bool×Bool)) :=
 (Fx.seq ((Sh.nP x0.op).bind fun c4=>(bif c4 then(bif (!x0.reg)then(some (inl true))else(bif (decide (x0.op=20))then(some (inl true))else(bif (decide (x0.op=21))then(some (inl true))else(bif (decide (x0.op=25))then(some (inl true))else(bif (decide (x0.op=38))then(some (inl true))else(bif (decide (x0.op=26))then(some (inl x0.narrow))else(some (inl false))))))))else(bif (decide (x0.op=20))then(some (inl true))else(bif (decide (x0.op=21))then(some (inl true))else(bif (decide (x0.op=25))then(some (inl true))else(bif (decide (x0.op=38))then(some (inl true))else(bif (decide (x0.op=26))then(some (inl x0.narrow))else(some (inl false))))))))) fun c3=>Sh.aGk c0 c1 c2 c3)
def Sh.F6(x0:bg)(c0:Bool)(c1:Bool)(c2:Bool)(c3:Bool):Option ((Bool×Bool×Bool×Bool)) :=
 (Fx.seq (bif c0 then(some (inl true))else(bif c1 then(some (inl true))else(bif (decide (x0.op=26))then(some (inl (!x0.narrow)))else(some (inl false))))) fun c4=>Sh.aAi x0 c2 c3 c4)
def Sh.D5(x0:bg)(c1:Bool)(c0:Bool)(c2:Bool):Option ((Bool×Bool×Bool×Bool)) :=
 (Fx.seq ((Sh.nP x0.op).bind fun c4=>(bif c4 then(bif x0.reg then(some (inl true))else(bif (decide (x0.op=16))then(some (inl true))else(bif c0 then(some (inl (!decide (x0.op=24))))else(some (inl false)))))else(bif (decide (x0.op=16))then(some (inl true))else(bif c0 then(some (inl (!decide (x0.op=24))))else(some (inl false)))))) fun c3=>Sh.F6 x0 c1 c0 c2 c3)
def Sh.aGi(x0:bg)(c0:Bool)(c1:Bool):Option ((Bool×Bool×Bool×Bool)) :=
 (Fx.seq (bif (!decide (x0.op=26))then(bif (!decide (x0.op=38))then(some (inl (!decide (x0.op=39))))else(some (inl false)))else(some (inl false))) fun c2=>Sh.D5 x0 c0 c1 c2)
def Sh.F5(x0:bg)(c0:Bool):Option ((Bool×Bool×Bool×Bool)) :=
 (Fx.seq (bif (decide (22≤x0.op))then(some (inl (decide (x0.op≤25))))else(some (inl false))) fun c1=>Sh.aGi x0 c0 c1)
def Sh.aD4(x0:bg):Option ((Bool×Bool×Bool×Bool)) :=
 (Fx.seq (bif (decide (27≤x0.op))then(some (inl (decide (x0.op≤37))))else(some (inl false))) fun c0=>Sh.F5 x0 c0)
def Sh.aCb(c0:Bool):Option (((Bool×Bool)⊕Bool)) :=
 (some (inr c0))
def Sh.wP(x0:bg)(c0:Bool):Option (((Bool×Bool)⊕Bool)) :=
 (bif c0 then(some (inl (true,(decide (x0.size=0)))))else(some (inl (false,(decide (x0.size=0))))))
def Sh.wO(x0:bg)(c0:Bool):Option (((Bool×Bool)⊕Bool)) :=
 (bif c0 then(bif (decide (x0.size=1))then(some (inl (false,true)))else(bif (decide (x0.size=2))then(some (inl (false,true)))else(bif (decide (x0.size=4))then(some (inl (false,true)))else(some (inl (false,(decide (x0.size=8))))))))else(bif (decide (x0.op=23))then(bif (decide (x0.size=1))then(some (inl (false,true)))else(bif (decide (x0.size=2))then(some (inl (false,true)))else(some (inl (false,(decide (x0.size=4)))))))else(bif (decide (x0.op=25))then(bif (decide (x0.size=4))then(some (inl (false,true)))else(some (inl (false,(decide (x0.size=8))))))else(Fx.seq (bif (decide (x0.op≤15))then(some (inl true))else(bif (decide (26≤x0.op))then(some (inl (decide (x0.op≤37))))else(some (inl false)))) fun c1=>Sh.wP x0 c1))))
def Sh.wN(x0:bg)(c0:Bool):Option (((Bool×Bool)⊕Bool)) :=
 (bif c0 then(bif (decide (x0.size=16))then(some (inl (false,true)))else(bif (decide (x0.size=32))then(some (inl (false,true)))else(some (inl (false,(decide (x0.size=64)))))))else(Fx.seq (bif (decide (x0.op=22))then(some (inl true))else(some (inl (decide (x0.op=24))))) fun c1=>Sh.wO x0 c1))
def Sh.wM(x0:bg)(c0:Bool):Option (((Bool×Bool)⊕Bool)) :=
 (bif c0 then(some (inr false))else(bif (decide (x0.op=16))then(Fx.seq (bif x0.reg then(bif (decide (x0.size=8))then(some (inl true))else(bif (decide (x0.size=16))then(some (inl true))else(bif (decide (x0.size=32))then(some (inl (!x0.narrow)))else(some (inl false)))))else(some (inl false))) fun c1=>Sh.aCb c1)else(Fx.seq (bif (decide (17≤x0.op))then(some (inl (decide (x0.op≤19))))else(some (inl false))) fun c2=>Sh.wN x0 c2)))
def Sh.aCc(c0:Bool):Option Bool :=
 (some c0)
def Sh.wL(x0:bg)(c0:Bool)(c1:Bool)(c2:Bool):Option Bool :=
 (Fx.seq (bif c2 then(bif c1 then(bif c0 then(some (inl true))else(some (inl (!x0.reg))))else(bif (!x0.narrow)then(bif c0 then(some (inl true))else(some (inl (!x0.reg))))else(some (inl false))))else(some (inl false))) fun c3=>Sh.aCc c3)
def Sh.xW(x0:bg):Option Bool :=
 ((Sh.nP x0.op).bind fun c3=>(Fx.seq (Fx.seq (bif (decide (x0.op<1))then(some (inl true))else(some (inl (decide (39<x0.op))))) fun c2=>Sh.wM x0 c2) fun(c0,c1)=>Sh.wL x0 c3 c0 c1))
def Sh.aEa(v17:Bool):Option Bool :=
 (some v17)
def Sh.wQ(x0:Int)(x1:Bool):Option Bool :=
 (Fx.seq (bif (decide (0≤x0))then(bif (decide (x0≤10))then(bif x1 then(some (inl (!(decide (x0=10)))))else(some (inl (!false))))else(some (inl false)))else(some (inl false))) fun v17=>Sh.aEa v17)
def Sh.aAg(c0:Bool):Option Bool :=
 (some c0)
def Sh.vF(x0:bg)(c0:Bool):Option Bool :=
 (bif c0 then(Fx.seq (bif (decide (0≤x0.jN))then(bif (decide (x0.jN<64))then(bif x0.narrow then(some (inl (!(decide (32≤x0.jN)))))else(some (inl (!false))))else(some (inl false)))else(some (inl false))) fun c1=>Sh.aAg c1)else(bif (decide (x0.op=25))then((Sh.Ea x0.jN).bind fun c2=>(some c2))else(bif (decide (x0.op=21))then(some (decide (0≤x0.jN)))else(some true))))
def Sh.vE(x0:bg)(c0:Bool):Option Bool :=
 (bif c0 then(some (!decide (x0.jN=0)))else(Fx.seq (bif (decide (x0.op=11))then(some (inl (decide (x0.op=11))))else(bif (decide (x0.op=12))then(some (inl (decide (x0.op=12))))else(some (inl (decide (x0.op=13)))))) fun c1=>Sh.vF x0 c1))
def Sh.vD(x0:bg)(zb:Bool):Option Bool :=
 (bif zb then(some false)else(Fx.seq (bif (decide (x0.op=4))then(some (inl (decide (x0.op=4))))else(bif (decide (x0.op=5))then(some (inl (decide (x0.op=5))))else(bif (decide (x0.op=6))then(some (inl (decide (x0.op=6))))else(some (inl (decide (x0.op=7))))))) fun c0=>Sh.vE x0 c0))
def Sh.wA(x0:bg):Option Bool :=
 (bif (decide (x0.op=20))then(some true)else(Fx.seq (bif (decide (x0.jN<(-2147483648)))then(some (inl true))else(some (inl (decide (2147483647<x0.jN))))) fun zb=>Sh.vD x0 zb))
def Sh.aEb(x0:bg)(c1:(Bool×Bool×Bool×Bool))(c0:Bool):Option ((Bool⊕Int)) :=
 (bif c0 then(some (inl c0))else(bif c1.2.1 then((Sh.nS x0.op x0.jN).bind fun c2=>((Sh.wQ x0.src c2).bind fun c3=>(some (inl (!c3)))))else(some (inl false))))
def Sh.aEe(x0:bg)(c0:Bool):Option ((Bool⊕Int)) :=
 (bif c0 then(some (inl c0))else(bif (decide (x0.off<(-32768)))then(some (inl (decide (x0.off<(-32768)))))else(some (inl (decide (32768≤x0.off))))))
def Sh.aEd(x0:bg)(c2:(Bool×Bool×Bool×Bool))(c0:Bool):Option ((Bool⊕Int)) :=
 (bif c0 then(some (inl c0))else(Fx.seq (bif (!c2.2.2.1)then(some (inl (!decide (x0.off=0))))else(some (inl false))) fun c1=>Sh.aEe x0 c1))
def Sh.Ei(x0:bg)(c1:(Bool×Bool×Bool×Bool))(c0:Bool):Option ((Bool⊕Int)) :=
 (bif c0 then(some (inl c0))else(Fx.seq (bif (!c1.2.1)then(some (inl (!decide (x0.src=0))))else(some (inl false))) fun c2=>Sh.aEd x0 c1 c2))
def Sh.aEg(x0:bg)(c1:(Bool×Bool×Bool×Bool))(c0:Bool):Option ((Bool⊕Int)) :=
 (bif c0 then(some (inl c0))else(bif c1.2.2.2 then((Sh.wA x0).bind fun c2=>(some (inl (!c2))))else(some (inl false))))
def Sh.aEf(c0:Bool):Option Int :=
 (bif c0 then(some 24)else(some 0))
def Sh.yI(x0:bg)(c0:(Bool×Bool×Bool×Bool))(c1:Bool):Option Int :=
 (bif c1 then(some 23)else(Fx.seq (Fx.seq (bif (!c0.2.2.2)then(some (inl (!decide (x0.jN=0))))else(some (inl false))) fun c3=>Sh.aEg x0 c0 c3) fun c2=>Sh.aEf c2))
def Sh.yH(x0:bg)(c0:(Bool×Bool×Bool×Bool))(c1:Bool):Option Int :=
 (bif c1 then(some 22)else(Fx.seq (Fx.seq (bif (!c0.1)then(some (inl (!decide (x0.dst=0))))else(some (inl false))) fun c3=>Sh.Ei x0 c0 c3) fun c2=>Sh.yI x0 c0 c2))
def Sh.sN(x0:bg):Option Int :=
 ((Sh.xW x0).bind fun c3=>(bif (!c3)then(some 21)else((Sh.aD4 x0).bind fun c0=>(Fx.seq (Fx.seq (bif c0.1 then((Sh.qX x0.op).bind fun c4=>((Sh.wQ x0.dst c4).bind fun c5=>(some (inl (!c5)))))else(some (inl false))) fun c2=>Sh.aEb x0 c0 c2) fun c1=>Sh.yH x0 c0 c1))))
def Sh.mQ(x0:List bg)(c0:Int):Option ((Int⊕(Unit⊕(Int×Int)))) :=
 (bif (decide (c0<(x0.length:Int)))then((Fx.get x0 c0).bind fun c2=>(bif (decide (c0=4096))then(some (inr (inr (c0,25))))else((Sh.sN c2).bind fun c1=>(bif (!decide (c1=0))then(some (inr (inr (c0,c1))))else(some (inl (IntKind.i64.wrap (c0+1))))))))else(some (inr (inl ()))))
def Sh.aD9:Option ((Int×Int)) :=
 (some (0,0))
def Sh.sM(x0:List bg):Option ((Int×Int)) :=
 (Fx.seq (Fx.loop (fun c0=>Sh.mQ x0 c0) 0) fun _=>Sh.aD9)
def Sh.tQ(c1:Int)(c2:List Int)(c0:Int):Option (((Int×List Int×Int)⊕(List Int⊕List Int))) :=
 ((Fx.app 8 c2 [c0]).bind fun c3=>(some (inl ((IntKind.i64.wrap (c1+1)),c3,c0))))
def Sh.mR(x0:List bg)(c0:Int)(c1:List Int)(c2:Int):Option (((Int×List Int×Int)⊕(List Int⊕List Int))) :=
 (bif (decide (c0<(x0.length:Int)))then((Fx.get x0 c0).bind fun c4=>(Fx.seq ((Sh.wB c4.op).bind fun c5=>(bif c5 then(some (inl (IntKind.i64.wrap ((IntKind.i64.wrap (c2+1))+1))))else(some (inl (IntKind.i64.wrap (c2+1)))))) fun c3=>Sh.tQ c0 c1 c3))else(some (inr (inl c1))))
def Sh.aIl(c0:List Int):Option (List Int) :=
 (some c0)
def Sh.pL(x0:List bg):Option (List Int) :=
 (Fx.seq (Fx.loop (fun(c1,c2,c3)=>Sh.mR x0 c1 c2 c3) (0,[0],0)) fun c0=>Sh.aIl c0)
def Sh.zT(v22:Bool):Option Bool :=
 (some v22)
def Sh.yK(x0:Int):Option Bool :=
 (Fx.seq (bif (decide (x0=1))then(some (inl true))else(bif (decide (x0=65))then(some (inl true))else(bif (decide (x0=81))then(some (inl true))else(bif (decide (x0=161))then(some (inl true))else(some (inl (decide (x0=225)))))))) fun v22=>Sh.zT v22)
def Sh.Dj(v42:Bool):Option Bool :=
 (some v42)
def Sh.Hj(x0:Int):Option Bool :=
 (Fx.seq ((Sh.yK x0).bind fun JQ=>(bif JQ then(some (inl true))else(bif (decide (x0=0))then(some (inl true))else(bif (decide (x0=64))then(some (inl true))else(bif (decide (x0=80))then(some (inl true))else(bif (decide (x0=160))then(some (inl true))else(some (inl (decide (x0=241)))))))))) fun v42=>Sh.Dj v42)
def Sh.Eg(c0:Bool):Option Bool :=
 (some c0)
def Sh.G6(x0:ay)(x1:Int)(c0:Bool):Option Bool :=
 (bif c0 then(Fx.seq (bif (decide (0≤x1))then(bif (decide (x1<32))then(some (inl true))else(bif (decide (x1<64))then(some (inl (!x0.narrow)))else(some (inl false))))else(some (inl false))) fun c1=>Sh.Eg c1)else(bif (decide (x0.op=25))then((Sh.Hj x1).bind fun c2=>(some c2))else(bif (decide (x0.op=21))then(some (decide (0≤x1)))else(some true))))
def Sh.Dk(x0:ay)(x1:Int)(c0:Bool):Option Bool :=
 (bif c0 then(some (!decide (x1=0)))else(Fx.seq (bif (decide (x0.op=11))then(some (inl (decide (x0.op=11))))else(bif (decide (x0.op=12))then(some (inl (decide (x0.op=12))))else(some (inl (decide (x0.op=13)))))) fun c1=>Sh.G6 x0 x1 c1))
def Sh.aEx(x0:ay)(x1:Int)(zb:Bool):Option Bool :=
 (bif zb then(some false)else(Fx.seq (bif (decide (x0.op=4))then(some (inl (decide (x0.op=4))))else(bif (decide (x0.op=5))then(some (inl (decide (x0.op=5))))else(bif (decide (x0.op=6))then(some (inl (decide (x0.op=6))))else(some (inl (decide (x0.op=7))))))) fun c0=>Sh.Dk x0 x1 c0))
def Sh.Ej(x0:ay)(x1:Int):Option Bool :=
 (bif (decide (x0.op=20))then(some true)else(Fx.seq (bif (decide (x1<(-2147483648)))then(some (inl true))else(some (inl (decide (2147483647<x1))))) fun zb=>Sh.aEx x0 x1 zb))
def Sh.aE2(c0:Bool):Option Bool :=
 (bif c0 then(some false)else(some true))
def Sh.Eh(x0:ay)(x2:Int)(x3:Int)(c0:Bool):Option Bool :=
 (bif c0 then(some false)else(Fx.seq (bif (decide (x0.src=(-1)))then(bif (decide (x2<0))then(some (inl true))else(bif (decide (10<x2))then(some (inl true))else(bif (decide (x2=10))then(bif (decide (x0.op=25))then((Sh.yK x3).bind fun c2=>(some (inl c2)))else(some (inl false)))else(some (inl false)))))else(some (inl false))) fun c1=>Sh.aE2 c1))
def Sh.Hk(x0:ay)(x1:Int)(x2:Int)(x3:Int):Option Bool :=
 (Fx.seq (bif (decide (x0.dst=(-1)))then(bif (decide (x1<0))then(some (inl true))else(bif (decide (10<x1))then(some (inl true))else(bif (decide (x1=10))then(some (inl x0.writes))else(some (inl false)))))else(some (inl false))) fun c0=>Sh.Eh x0 x2 x3 c0)
def Sh.Hn(c0:List ay)(c1:Int)(c2:ay):Option (((List ay×Int)⊕(List ay⊕List ay))) :=
 ((Fx.app 80 c0 [c2]).bind fun c3=>(some (inl (c3,(IntKind.i64.wrap (c1+1))))))
def Sh.Hm(c2:List ay)(c1:Int)(c0:ay):Option (((List ay×Int)⊕(List ay⊕List ay))) :=
 (Fx.seq (bif (decide (2≤c1))then(some (inl (ay.mk (IntKind.i64.wrap (c0.code-3)) c0.op c0.size true c0.reg c0.dst c0.src c0.off c0.jN c0.second c0.writes)))else(some (inl c0))) fun c3=>Sh.Hn c2 c1 c3)
def Sh.oG(x1:Int)(x2:Int)(x3:Int)(c1:List ay)(c0:Int):Option (((List ay×Int)⊕(List ay⊕List ay))) :=
 (bif (decide (c0<4))then(Fx.seq (bif (decide ((Int.tmod c0 2)=1))then(some (inl (ay.mk (IntKind.i64.wrap ((IntKind.i64.wrap ((IntKind.i64.wrap (16*x2))+7))+8)) x1 0 false true (-1) (-1) x3 0 0 true)))else(some (inl (ay.mk (IntKind.i64.wrap ((IntKind.i64.wrap (16*x2))+7)) x1 0 false false (-1) 0 x3 (-1) 0 true)))) fun c2=>Sh.Hm c1 c0 c2)else(some (inr (inl c1))))
def Sh.aJj(c0:List ay):Option (List ay) :=
 (some c0)
def Sh.dJ(x0:List ay)(x1:Int)(x2:Int)(x3:Int):Option (List ay) :=
 (Fx.seq (Fx.loop (fun(c0,c1)=>Sh.oG x1 x2 x3 c0 c1) (x0,0)) fun c2=>Sh.aJj c2)
def Sh.aIw(c0:List ay)(c1:Int)(c2:ay):Option (((List ay×Int)⊕(List ay⊕List ay))) :=
 ((Fx.app 80 c0 [c2]).bind fun c3=>(some (inl (c3,(IntKind.i64.wrap (c1+1))))))
def Sh.aIv(c2:List ay)(c1:Int)(c0:ay):Option (((List ay×Int)⊕(List ay⊕List ay))) :=
 (Fx.seq (bif (decide (2≤c1))then(some (inl (ay.mk (IntKind.i64.wrap (c0.code+1)) c0.op c0.size true c0.reg c0.dst c0.src c0.off c0.jN c0.second c0.writes)))else(some (inl c0))) fun c3=>Sh.aIw c2 c1 c3)
def Sh.mU(x1:Int)(x2:Int)(c1:List ay)(c0:Int):Option (((List ay×Int)⊕(List ay⊕List ay))) :=
 (bif (decide (c0<4))then(Fx.seq (bif (decide ((Int.tmod c0 2)=1))then(some (inl (ay.mk (IntKind.i64.wrap ((IntKind.i64.wrap ((IntKind.i64.wrap (16*x2))+5))+8)) x1 0 false true (-1) (-1) (-1) 0 0 false)))else(some (inl (ay.mk (IntKind.i64.wrap ((IntKind.i64.wrap (16*x2))+5)) x1 0 false false (-1) 0 (-1) (-1) 0 false)))) fun c2=>Sh.aIv c1 c0 c2)else(some (inr (inl c1))))
def Sh.J7(c0:List ay):Option (List ay) :=
 (some c0)
def Sh.eC(x0:List ay)(x1:Int)(x2:Int):Option (List ay) :=
 (Fx.seq (Fx.loop (fun(c0,c1)=>Sh.mU x1 x2 c0 c1) (x0,0)) fun c2=>Sh.J7 c2)
def Sh.tU(c0:Int)(c1:List ay):Option (((List ay×Int)⊕(List ay⊕List ay))) :=
 (some (inl (c1,(IntKind.i64.wrap (2*c0)))))
def Sh.eX(c1:List ay)(c0:Int):Option (((List ay×Int)⊕(List ay⊕List ay))) :=
 (bif (decide (c0≤32))then(Fx.seq ((Fx.app 80 c1 [(ay.mk 191 16 c0 false true (-1) (-1) c0 0 0 true)]).bind fun c2=>(bif (decide (c0<32))then((Fx.app 80 c2 [(ay.mk 188 16 c0 true true (-1) (-1) c0 0 0 true)]).bind fun c4=>(some (inl c4)))else(some (inl c2)))) fun c3=>Sh.tU c0 c3)else(some (inr (inl c1))))
def Sh.eY(c1:List ay)(c0:Int):Option (((List ay×Int)⊕(List ay⊕List ay))) :=
 (bif (decide (c0≤64))then((Fx.app 80 c1 [(ay.mk 212 17 c0 false false (-1) 0 0 c0 0 true)]).bind fun c2=>((Fx.app 80 c2 [(ay.mk 220 18 c0 false false (-1) 0 0 c0 0 true)]).bind fun c3=>((Fx.app 80 c3 [(ay.mk 215 19 c0 false false (-1) 0 0 c0 0 true)]).bind fun c4=>(some (inl (c4,(IntKind.i64.wrap (2*c0))))))))else(some (inr (inl c1))))
def Sh.pE(c0:Int)(c2:List ay):Option ((List ay⊕((List ay×Int)⊕(List ay⊕List ay)))) :=
 ((Fx.get [16,8,0,24] c0).bind fun c3=>((Fx.app 80 c2 [(ay.mk (IntKind.i64.wrap (99+c3)) 24 (shl .i64 1 ((IntKind.u64.wrap c0)).toNat) false true (-1) (-1) (-1) 0 0 false)]).bind fun c4=>((Fx.get [16,8,0,24] c0).bind fun c5=>((Fx.app 80 c4 [(ay.mk (IntKind.i64.wrap (98+c5)) 24 (shl .i64 1 ((IntKind.u64.wrap c0)).toNat) false false (-1) 0 (-1) (-1) 0 false)]).bind fun c1=>(bif (decide (4≤(shl .i64 1 ((IntKind.u64.wrap c0)).toNat)))then((Fx.get [16,8,0,24] c0).bind fun c6=>((Fx.app 80 c1 [(ay.mk (IntKind.i64.wrap (195+c6)) 25 (shl .i64 1 ((IntKind.u64.wrap c0)).toNat) false false (-1) (-1) (-1) (-1) 0 false)]).bind fun c7=>(some (inl c7))))else(some (inl c1)))))))
def Sh.pD(c0:Int)(c1:List ay):Option (((List ay×Int)⊕(List ay⊕List ay))) :=
 (some (inl (c1,(IntKind.i64.wrap (c0+1)))))
def Sh.dC(c1:List ay)(c0:Int):Option (((List ay×Int)⊕(List ay⊕List ay))) :=
 (bif (decide (c0<4))then(Fx.seq (Fx.must (decide (0≤(IntKind.u64.wrap c0))) ((Fx.get [16,8,0,24] c0).bind fun c5=>((Fx.app 80 c1 [(ay.mk (IntKind.i64.wrap (97+c5)) 22 (shl .i64 1 ((IntKind.u64.wrap c0)).toNat) false false (-1) (-1) (-1) 0 0 true)]).bind fun c2=>(Fx.seq (bif (decide ((shl .i64 1 ((IntKind.u64.wrap c0)).toNat)<8))then((Fx.get [16,8,0,24] c0).bind fun c6=>((Fx.app 80 c2 [(ay.mk (IntKind.i64.wrap (129+c6)) 23 (shl .i64 1 ((IntKind.u64.wrap c0)).toNat) false false (-1) (-1) (-1) 0 0 true)]).bind fun c7=>(some (inl c7))))else(some (inl c2))) fun c4=>Sh.pE c0 c4)))) fun c3=>Sh.pD c0 c3)else(some (inr (inl c1))))
def Sh.aEu(c0:List ay):Option (List ay) :=
 ((Fx.app 80 c0 [(ay.mk 5 26 0 false false 0 0 (-1) 0 0 false)]).bind fun c1=>((Fx.app 80 c1 [(ay.mk 6 26 0 true false 0 0 0 (-1) 0 false)]).bind fun c2=>((Sh.eC c2 27 1).bind fun c5=>((Sh.eC c5 29 2).bind fun c6=>((Sh.eC c6 30 3).bind fun c7=>((Sh.eC c7 37 4).bind fun c8=>((Sh.eC c8 28 5).bind fun c9=>((Sh.eC c9 33 6).bind fun d0=>((Sh.eC d0 34 7).bind fun d1=>((Sh.eC d1 31 10).bind fun d2=>((Sh.eC d2 32 11).bind fun d3=>((Sh.eC d3 35 12).bind fun d4=>((Sh.eC d4 36 13).bind fun d5=>((Fx.app 80 d5 [(ay.mk 133 38 0 false false 0 0 0 (-1) 0 false)]).bind fun c3=>((Fx.app 80 c3 [(ay.mk 149 39 0 false false 0 0 0 0 0 false)]).bind fun c4=>(some c4))))))))))))))))
def Sh.aEt(c0:List ay):Option (List ay) :=
 ((Fx.app 80 c0 [(ay.mk 24 20 0 false false (-1) 0 0 (-1) (-1) true)]).bind fun c4=>((Fx.app 80 c4 [(ay.mk 24 21 0 false false (-1) 6 0 0 (-1) true)]).bind fun c5=>(Fx.seq (Fx.loop (fun(c2,c3)=>Sh.dC c2 c3) (c5,0)) fun c1=>Sh.aEu c1)))
def Sh.aEs(c0:List ay):Option (List ay) :=
 ((Fx.app 80 c0 [(ay.mk 135 14 0 false false (-1) 0 0 0 0 true)]).bind fun c4=>((Fx.app 80 c4 [(ay.mk 132 14 0 true false (-1) 0 0 0 0 true)]).bind fun c5=>(Fx.seq (Fx.loop (fun(c2,c3)=>Sh.eY c2 c3) (c5,16)) fun c1=>Sh.aEt c1)))
def Sh.D3:Option (List ay) :=
 ((Sh.dJ [] 1 0 0).bind fun c3=>((Sh.dJ c3 2 1 0).bind fun c4=>((Sh.dJ c4 3 2 0).bind fun c5=>((Sh.dJ c5 4 3 0).bind fun c6=>((Sh.dJ c6 6 3 1).bind fun c7=>((Sh.dJ c7 8 4 0).bind fun c8=>((Sh.dJ c8 9 5 0).bind fun c9=>((Sh.dJ c9 11 6 0).bind fun d0=>((Sh.dJ d0 12 7 0).bind fun d1=>((Sh.dJ d1 5 9 0).bind fun d2=>((Sh.dJ d2 7 9 1).bind fun d3=>((Sh.dJ d3 10 10 0).bind fun d4=>((Sh.dJ d4 15 11 0).bind fun d5=>((Sh.dJ d5 13 12 0).bind fun d6=>(Fx.seq (Fx.loop (fun(c1,c2)=>Sh.eX c1 c2) (d6,8)) fun c0=>Sh.aEs c0)))))))))))))))
def Sh.yL(c0:Int)(c2:ay)(c1:Bool):Option ((Int⊕(Unit⊕(ay×Bool)))) :=
 (bif c1 then(some (inr (inr (c2,true))))else(some (inl (IntKind.i64.wrap (c0+1)))))
def Sh.tV(x0:List ay)(x1:bg)(c1:Int):Option ((Int⊕(Unit⊕(ay×Bool)))) :=
 (bif (decide (c1<(x0.length:Int)))then((Fx.get x0 c1).bind fun c0=>(Fx.seq (bif (decide (c0.op=x1.op))then(bif (decide (c0.narrow=x1.narrow))then(bif (decide (c0.reg=x1.reg))then(some (inl (decide (c0.size=x1.size))))else(some (inl false)))else(some (inl false)))else(some (inl false))) fun c2=>Sh.yL c1 c0 c2))else(some (inr (inl ()))))
def Sh.aEw:Option ((ay×Bool)) :=
 (some (ay.zero,false))
def Sh.D4(x0:List ay)(x1:bg):Option ((ay×Bool)) :=
 (Fx.seq (Fx.loop (fun c0=>Sh.tV x0 x1 c0) 0) fun _=>Sh.aEw)
def Sh.aCz(c0:Bool):Option Int :=
 (bif c0 then(some 24)else(some 0))
def Sh.FN(x1:bg)(c0:(ay×Bool))(c1:Bool):Option Int :=
 (bif c1 then(some 24)else(Fx.seq (bif (decide (c0.1.jN=(-1)))then((Sh.Ej c0.1 x1.jN).bind fun c3=>(some (inl (!c3))))else(bif (decide (c0.1.second=(-1)))then((Sh.Ej c0.1 x1.jN).bind fun c4=>(some (inl (!c4))))else(some (inl false)))) fun c2=>Sh.aCz c2))
def Sh.FM(x1:bg)(c0:(ay×Bool))(c1:Bool):Option Int :=
 (bif c1 then(some 23)else(Fx.seq (bif (!decide (c0.1.jN=(-1)))then(bif (!decide (c0.1.second=(-1)))then(some (inl (!decide (x1.jN=0))))else(some (inl false)))else(some (inl false))) fun c2=>Sh.FN x1 c0 c2))
def Sh.gK(x0:List ay)(x1:bg):Option Int :=
 ((Sh.D4 x0 x1).bind fun c0=>(bif (!c0.2)then(some 21)else((Sh.Hk c0.1 x1.dst x1.src x1.jN).bind fun c2=>(bif (!c2)then(some 22)else(Fx.seq (bif (!decide (c0.1.dst=(-1)))then(bif (!decide (x1.dst=0))then(some (inl true))else(bif (!decide (c0.1.src=(-1)))then(bif (!decide (x1.src=0))then(some (inl true))else(bif (!decide (c0.1.off=(-1)))then(bif (!decide (x1.off=0))then(some (inl true))else(bif (decide (x1.off<(-32768)))then(some (inl true))else(some (inl (decide (32767<x1.off))))))else(bif (decide (x1.off<(-32768)))then(some (inl true))else(some (inl (decide (32767<x1.off)))))))else(bif (!decide (c0.1.off=(-1)))then(bif (!decide (x1.off=0))then(some (inl true))else(bif (decide (x1.off<(-32768)))then(some (inl true))else(some (inl (decide (32767<x1.off))))))else(bif (decide (x1.off<(-32768)))then(some (inl true))else(some (inl (decide (32767<x1.off))))))))else(bif (!decide (c0.1.src=(-1)))then(bif (!decide (x1.src=0))then(some (inl true))else(bif (!decide (c0.1.off=(-1)))then(bif (!decide (x1.off=0))then(some (inl true))else(bif (decide (x1.off<(-32768)))then(some (inl true))else(some (inl (decide (32767<x1.off))))))else(bif (decide (x1.off<(-32768)))then(some (inl true))else(some (inl (decide (32767<x1.off)))))))else(bif (!decide (c0.1.off=(-1)))then(bif (!decide (x1.off=0))then(some (inl true))else(bif (decide (x1.off<(-32768)))then(some (inl true))else(some (inl (decide (32767<x1.off))))))else(bif (decide (x1.off<(-32768)))then(some (inl true))else(some (inl (decide (32767<x1.off)))))))) fun c1=>Sh.FM x1 c0 c1)))))
def Sh.rM(x0:List bg)(c3:List ay)(c0:Int):Option ((Int⊕(Unit⊕(Int×Int)))) :=
 (bif (decide (c0<(x0.length:Int)))then(bif (decide (c0=4096))then(some (inr (inr (c0,25))))else((Fx.get x0 c0).bind fun c2=>((Sh.gK c3 c2).bind fun c1=>(bif (!decide (c1=0))then(some (inr (inr (c0,c1))))else(some (inl (IntKind.i64.wrap (c0+1))))))))else(some (inr (inl ()))))
def Sh.FK:Option ((Int×Int)) :=
 (some (0,0))
def Sh.uL(x0:List bg):Option ((Int×Int)) :=
 ((Sh.D3).bind fun c1=>(Fx.seq (Fx.loop (fun c0=>Sh.rM x0 c1 c0) 0) fun _=>Sh.FK))
end Go.Proofs
end
noncomputable section
namespace Go.Proofs
open Go Go.Fw Go.Fx
set_option maxRecDepth 10000
def Sh.D8(c0:Int)(c1:Bool):Option ((Int⊕(Unit⊕Bool))) :=
 (bif c1 then(some (inr (inr false)))else(some (inl (IntKind.i64.wrap (c0+1)))))
def Sh.aAw(x0:fg)(c1:Int):Option ((Int⊕(Unit⊕Bool))) :=
 (bif (decide (c1<(x0.ah.length:Int)))then((Fx.get x0.ah c1).bind fun c0=>(Fx.seq (bif (decide (c0.rows<1))then(some (inl true))else(bif (decide (64<c0.rows))then(some (inl true))else(bif (decide (c0.wide<1))then(some (inl true))else(some (inl (decide (64<c0.wide))))))) fun c2=>Sh.D8 c1 c2))else(some (inr (inl ()))))
def Sh.wE(c0:Int)(c1:Bool):Option ((Int⊕(Unit⊕Bool))) :=
 (bif c1 then(some (inr (inr false)))else(some (inl (IntKind.i64.wrap (c0+1)))))
def Sh.lE(x0:fg)(c0:Int):Option ((Int⊕(Unit⊕Bool))) :=
 (bif (decide (c0<(x0.code.length:Int)))then((Fx.get x0.code c0).bind fun c1=>(Fx.seq (bif (decide (c1.op=21))then(some (inl (decide ((x0.data.length:Int)<c1.jN))))else(some (inl false))) fun c2=>Sh.wE c0 c2))else(some (inr (inl ()))))
def Sh.Dh:Option Bool :=
 (some true)
def Sh.rK(x0:fg):Option Bool :=
 ((Sh.sM x0.code).bind fun c1=>(bif (!decide (c1.2=0))then(some false)else(Fx.seq (Fx.loop (fun c0=>Sh.lE x0 c0) 0) fun _=>Sh.Dh)))
def Sh.rJ(x0:fg)(c0:Bool):Option Bool :=
 (bif c0 then(some false)else(Fx.seq (Fx.loop (fun c1=>Sh.aAw x0 c1) 0) fun _=>Sh.rK x0))
def Sh.sL(x0:fg):Option Bool :=
 (Fx.seq (bif (decide (x0.lo<0))then(some (inl true))else(bif (decide (x0.hi<x0.lo))then(some (inl true))else(bif (decide (65535<x0.hi))then(some (inl true))else(bif (decide (4096<(x0.data.length:Int)))then(some (inl true))else(bif (decide (8<(x0.ah.length:Int)))then(some (inl true))else(some (inl (decide ((x0.code.length:Int)=0))))))))) fun c0=>Sh.rJ x0 c0)
def Sh.D7(x0:fg)(x1:gi)(c0:Int):Option ((Int⊕(Unit⊕Bool))) :=
 (bif (decide (c0<(x0.ah.length:Int)))then((Fx.get x0.ah c0).bind fun c1=>((Fx.get x1.ah c0).bind fun c2=>(bif (!decide ((c2.length:Int)=(IntKind.i64.wrap (c1.rows*c1.wide))))then(some (inr (inr false)))else(some (inl (IntKind.i64.wrap (c0+1)))))))else(some (inr (inl ()))))
def Sh.Ha:Option Bool :=
 (some true)
def Sh.rI(x0:fg)(x1:gi)(c0:Bool):Option Bool :=
 (bif c0 then(some false)else(Fx.seq (Fx.loop (fun c1=>Sh.D7 x0 x1 c1) 0) fun _=>Sh.Ha))
def Sh.sK(x0:fg)(x1:gi):Option Bool :=
 (Fx.seq (bif (decide ((x1.cq.length:Int)<x0.lo))then(some (inl true))else(bif (decide (x0.hi<(x1.cq.length:Int)))then(some (inl true))else(some (inl (!decide ((x1.ah.length:Int)=(x0.ah.length:Int))))))) fun c0=>Sh.rI x0 x1 c0)
def Sh.qO{γ:Type}(c2:List bg)(c3:List Int)(c1:List (Int×Int))(c0:Int):Option (((List (Int×Int)×Int)⊕(List (Int×Int)⊕((Unit⊕(Unit⊕ai))⊕γ)))) :=
 (bif (decide (c0<(c2.length:Int)))then((Fx.get c3 c0).bind fun c4=>(some (inl ((Fx.jk c1 c4 c0),(IntKind.i64.wrap (c0+1))))))else(some (inr (inl c1))))
def Sh.aJp{γ:Type}(x1:gi)(c2:Vec bn 32)(c3:List bg)(c4:List Int)(c0:Vec aj 11)(c5:Int)(c6:Int)(c7:Bool)(c9:List UInt8)(d0:List (List UInt8))(d1:List UInt8)(d2:List gP)(c8:List (Int×Int)):Option (((Unit⊕(Unit⊕ai))⊕γ)) :=
 ((Fx.get c0.l 1).bind fun d3=>((Sh.cZ (x1.cq.length:Int)).bind fun c1=>((Fx.get (c0.set (1:Int).toNat (aj.mk 3 0 0 0)).l 2).bind fun d4=>((Fx.get ((c0.set (1:Int).toNat (aj.mk 3 0 0 0)).set (2:Int).toNat c1).l 10).bind fun d5=>(some (inl (inr (inr (ai.mk (fq.mk c2 c9 d0 d1 d2) c3 c4 c8 (((c0.set (1:Int).toNat (aj.mk 3 0 0 0)).set (2:Int).toNat c1).set (10:Int).toNat (aj.mk 2 0 0 256)) [] c5 c6 c7)))))))))
def Sh.Ec{γ:Type}(x0:fg)(x1:gi)(c2:Vec bn 32)(c0:List bg)(c1:List Int)(c3:List (Int×Int))(c4:Vec aj 11)(c5:Int)(c6:Int)(c7:Bool):Option (((Unit⊕(Unit⊕ai))⊕γ)) :=
 ((Sh.aN x1.cq).bind fun d1=>((Sh.iY x1.ah).bind fun d2=>((Sh.aN x0.data).bind fun d3=>((Sh.eM x0.ah).bind fun d4=>(Fx.seq (Fx.loop (fun(c9,d0)=>Sh.qO c0 c1 c9 d0) (c3,0)) fun c8=>Sh.aJp x1 c2 c0 c1 c4 c5 c6 c7 d1 d2 d3 d4 c8)))))
def Sh.kS{γ:Type}(x0:fg)(x1:gi):Option ((Unit⊕(Unit⊕ai))⊕γ) :=
 ((Sh.sL x0).bind fun c8=>(bif (!c8)then(some (inl (inl ())))else((Sh.sK x0 x1).bind fun c9=>(bif (!c9)then(some (inl (inr (inl ()))))else(Fx.seq ((Sh.gC x0.code).bind fun d0=>((Sh.pL x0.code).bind fun d1=>(some (inl ((⟨List.replicate 32 bn.zero,rfl⟩ : Vec bn 32),d0,d1,[],(⟨List.replicate 11 aj.zero,rfl⟩ : Vec aj 11),0,0,false))))) fun(c0,c1,c2,c3,c4,c5,c6,c7)=>Sh.Ec x0 x1 c0 c1 c2 c3 c4 c5 c6 c7)))))
def Sh.aFb:Option ((gy×Int)) :=
 (some ((gy.mk (gi.mk [] []) [] 0),1))
def Sh.G8:Option ((gy×Int)) :=
 (some ((gy.mk (gi.mk [] []) [] 0),3))
def Sh.zC(c1:ai)(d3:gi)(c3:br)(c2:List dw)(d4:Int)(c4:Vec bn 32)(c5:List UInt8)(c6:List (List UInt8))(c7:Vec aj 11)(c8:List Int)(c9:Int)(d0:Int)(d1:Bool)(d5:Int)(d6:Bool):Option (((br×List dw×Int×Vec bn 32×List UInt8×List (List UInt8)×Vec aj 11×List Int×Int×Int×Bool×Int)⊕((br×List dw×Int×Vec bn 32×List UInt8×List (List UInt8)×Vec aj 11×List Int×Int×Int×Bool)⊕(gy×Int)))) :=
 (bif d6 then((Sh.aH (ai.mk (fq.mk c4 c5 c6 c1.ae.data c1.ae.sizes) c1.code c1.dq c1.da c7 c8 c9 d0 d1)).bind fun c0=>(bif (!decide (c0.1=0))then(some (inr (inr ((gy.mk d3 c2 c0.1),0))))else((Sh.cA (ai.mk (fq.mk c0.2.ae.bh c0.2.ae.cq c0.2.ae.ah c1.ae.data c1.ae.sizes) c1.code c1.dq c1.da c0.2.a8 c0.2.a7 c0.2.at_ c0.2.steps c0.2.done)).bind fun d2=>((Sh.eW c3 d2).bind fun d8=>((Fx.app 120 c2 [d8.1]).bind fun d7=>(some (inl (d2,d7,c0.1,c0.2.ae.bh,c0.2.ae.cq,c0.2.ae.ah,c0.2.a8,c0.2.a7,c0.2.at_,c0.2.steps,c0.2.done,(IntKind.i64.wrap (d5+1))))))))))else(some (inr (inl (c3,c2,d4,c4,c5,c6,c7,c8,c9,d0,d1)))))
def Sh.uE(x2:Int)(c2:ai)(c3:gi)(c0:br)(c4:List dw)(c5:Int)(c6:Vec bn 32)(c7:List UInt8)(c8:List (List UInt8))(c9:Vec aj 11)(d0:List Int)(d1:Int)(d2:Int)(d3:Bool)(c1:Int):Option (((br×List dw×Int×Vec bn 32×List UInt8×List (List UInt8)×Vec aj 11×List Int×Int×Int×Bool×Int)⊕((br×List dw×Int×Vec bn 32×List UInt8×List (List UInt8)×Vec aj 11×List Int×Int×Int×Bool)⊕(gy×Int)))) :=
 (Fx.seq (bif (decide (c1<(if 65536<x2 then 65536 else x2)))then(some (inl (!c0.done)))else(some (inl false))) fun d4=>Sh.zC c2 c3 c0 c4 c5 c6 c7 c8 c9 d0 d1 d2 d3 c1 d4)
def Sh.aIy(c0:gi)(c1:List dw)(c2:Int):Option ((gy×Int)) :=
 (some ((gy.mk c0 c1 c2),0))
def Sh.uD(c0:gi)(c1:br)(c2:List dw)(c3:Int)(c5:Vec bn 32)(c6:List UInt8)(c7:List (List UInt8))(c8:Vec aj 11)(c9:List Int)(d0:Int)(d1:Int)(d2:Bool):Option ((gy×Int)) :=
 (Fx.seq (bif (!c1.done)then(some (inl 88))else(some (inl c3))) fun c4=>Sh.aIy c0 c2 c4)
def Sh.uC(x2:Int)(c0:ai)(g6:br)(c1:gi)(c2:Int):Option ((gy×Int)) :=
 (Fx.seq (Fx.loop (fun(d4,d5,d6,d7,d8,d9,g0,g1,g2,g3,g4,g5)=>Sh.uE x2 c0 c1 d4 d5 d6 d7 d8 d9 g0 g1 g2 g3 g4 g5) (g6,[],c2,c0.ae.bh,c0.ae.cq,c0.ae.ah,c0.a8,c0.a7,c0.at_,c0.steps,c0.done,0)) fun(c3,c4,c5,c6,c7,c8,c9,d0,d1,d2,d3)=>Sh.uD c1 c3 c4 c5 c6 c7 c8 c9 d0 d1 d2 d3)
def Sh.uB(x2:Int)(c1:ai):Option ((gy×Int)) :=
 ((Sh.cA c1).bind fun c0=>(Fx.seq ((Sh.cY c0.cq).bind fun c4=>((Sh.hV c0).bind fun c5=>(some (inl ((gi.mk c4 c5.ah),0))))) fun(c2,c3)=>Sh.uC x2 c1 c0 c2 c3))
def Sh.qD(x0:fg)(x1:gi)(x2:Int):Option ((gy×Int)) :=
 (Fx.seq (Sh.kS x0 x1) (Sum.elim (fun _=>Sh.aFb) (Sum.elim (fun _=>Sh.G8) (fun c0=>Sh.uB x2 c0))))
end Go.Proofs
end
noncomputable section
namespace Go.Proofs
open Go Go.Fw Go.Fx
set_option maxRecDepth 10000
def Sh.tY(x0:gy)(x2:Int)(x3:Int)(x4:Int)(c0:Int):Option ((Int⊕(Unit⊕Int))) :=
 (bif (decide (0≤c0))then((Fx.get x0.dW c0).bind fun c1=>((Sh.aGf c1 x2 x3 x4).bind fun c2=>(bif c2 then(some (inr (inr c0)))else(some (inl (IntKind.i64.wrap (c0-1)))))))else(some (inr (inl ()))))
def Sh.yZ:Option Int :=
 (some (-1))
def Sh.lB(x0:gy)(x1:Int)(x2:Int)(x3:Int)(x4:Int):Option Int :=
 (Fx.seq (Fx.loop (fun c0=>Sh.tY x0 x2 x3 x4 c0) (IntKind.i64.wrap ((if(x0.dW.length:Int)<(if x1<0 then 0 else x1)then(x0.dW.length:Int)else(if x1<0 then 0 else x1))-1))) fun _=>Sh.yZ)
end Go.Proofs
end
noncomputable section
namespace Go.Proofs
open Go Go.Fw Go.Fx
set_option maxRecDepth 10000
def Sh.FI(c0:Int)(c1:Bool):Option ((Int⊕(Unit⊕Int))) :=
 (bif c1 then(some (inr (inr 122)))else(some (inl (IntKind.i64.wrap (c0+1)))))
def Sh.aHz(x3:List gP)(c1:Int):Option ((Int⊕(Unit⊕Int))) :=
 (bif (decide (c1<(x3.length:Int)))then((Fx.get x3 c1).bind fun c0=>(Fx.seq (bif (decide (c0.rows<1))then(some (inl true))else(bif (decide (64<c0.rows))then(some (inl true))else(bif (decide (c0.wide<1))then(some (inl true))else(some (inl (decide (64<c0.wide))))))) fun c2=>Sh.FI c1 c2))else(some (inr (inl ()))))
def Sh.aC3(x2:List UInt8):Option Int :=
 (bif (decide (4096<(x2.length:Int)))then(some 123)else(some 0))
def Sh.rN(x2:List UInt8)(x3:List gP)(c0:Bool):Option Int :=
 (bif c0 then(some 121)else(bif (decide (8<(x3.length:Int)))then(some 122)else(Fx.seq (Fx.loop (fun c1=>Sh.aHz x3 c1) 0) fun _=>Sh.aC3 x2)))
def Sh.yB(x0:Int)(x1:Int)(x2:List UInt8)(x3:List gP):Option Int :=
 (Fx.seq (bif (decide (x0<0))then(some (inl true))else(bif (decide (x1<x0))then(some (inl true))else(some (inl (decide (65535<x1)))))) fun c0=>Sh.rN x2 x3 c0)
def Sh.vH(c0:Int)(c1:Bool):Option ((Int⊕(Unit⊕Int))) :=
 (bif c1 then(some (inr (inr c0)))else(some (inl (IntKind.i64.wrap (c0+1)))))
def Sh.pT(x0:List bg)(x1:Int)(c0:Int):Option ((Int⊕(Unit⊕Int))) :=
 (bif (decide (c0<(x0.length:Int)))then(Fx.seq ((Fx.get x0 c0).bind fun c2=>(bif (decide (c2.op=21))then((Fx.get x0 c0).bind fun c3=>(some (inl (decide (x1<c3.jN)))))else(some (inl false)))) fun c1=>Sh.vH c0 c1)else(some (inr (inl ()))))
def Sh.GU:Option Int :=
 (some (-1))
def Sh.wF(x0:List bg)(x1:Int):Option Int :=
 (Fx.seq (Fx.loop (fun c0=>Sh.pT x0 x1 c0) 0) fun _=>Sh.GU)
def Sh.uM(x0:fg):Option ((Int×Int)) :=
 ((Sh.yB x0.lo x0.hi x0.data x0.ah).bind fun OB=>(bif (!decide (OB=0))then(some (0,OB))else((Sh.uL x0.code).bind fun KO=>(bif (!decide (KO.2=0))then(some (KO.1,KO.2))else(bif (decide ((x0.code.length:Int)=0))then(some (0,26))else((Sh.wF x0.code (x0.data.length:Int)).bind fun Gx=>(bif (decide (0≤Gx))then(some (Gx,123))else(some (0,0)))))))))
end Go.Proofs
end
noncomputable section
namespace Go.Proofs
open Go Go.Fw Go.Fx
set_option maxRecDepth 10000
def Sh.uX(x0:List Int)(c0:List bg)(c1:Int)(c2:Bool):Option (((List bg×Int)⊕(List bg⊕Bool))) :=
 (bif c2 then((Fx.get x0 c1).bind fun c3=>((Fx.app 56 c0 [(bg.mk 20 false false 0 1 0 0 c3),(bg.mk 38 false false 0 0 0 0 6)]).bind fun c4=>(some (inl (c4,(IntKind.i64.wrap (c1+1)))))))else(some (inr (inl c0))))
def Sh.cV(x0:List Int)(c1:List bg)(c0:Int):Option (((List bg×Int)⊕(List bg⊕Bool))) :=
 (Fx.seq (bif (decide (c0<(x0.length:Int)))then(some (inl (decide (c0<70))))else(some (inl false))) fun c2=>Sh.uX x0 c1 c0 c2)
def Sh.uY(c0:Int)(c2:Int)(c1:Bool):Option (((Int×Int)⊕(Int⊕Bool))) :=
 (bif c1 then(some (inr (inr false)))else(some (inl (c2,(IntKind.i64.wrap (c0-1))))))
def Sh.hJ(c2:(gy×Int))(c4:List Int)(c3:Int)(c0:Int):Option (((Int×Int)⊕(Int⊕Bool))) :=
 (bif (decide (0≤c0))then((Sh.lB c2.1 c3 4 0 0).bind fun c1=>(Fx.seq (bif (!decide (c1=(IntKind.i64.wrap ((IntKind.i64.wrap (2*c0))+1))))then(some (inl true))else((Fx.get c2.1.dW c1).bind fun c6=>(bif (!decide ((c6.a7.length:Int)=1))then(some (inl true))else((Fx.get c2.1.dW c1).bind fun c7=>((Fx.get c7.a7 0).bind fun c8=>((Fx.get c4 c0).bind fun c9=>(some (inl (!decide (c8=c9)))))))))) fun c5=>Sh.uY c0 c1 c5))else(some (inr (inl c3))))
def Sh.hI(c1:(gy×Int))(c0:Int):Option Bool :=
 ((Sh.lB c1.1 c0 4 0 0).bind fun c2=>(some (decide (c2=(-1)))))
def Sh.oT(c0:(gy×Int))(c1:List Int):Option Bool :=
 (Fx.seq (Fx.loop (fun(c3,c4)=>Sh.hJ c0 c1 c3 c4) ((c0.1.dW.length:Int),(IntKind.i64.wrap ((c1.length:Int)-1)))) fun c2=>Sh.hI c0 c2)
def Sh.kO(x0:List Int)(c3:(gy×Int))(c0:Bool):Option Bool :=
 (bif c0 then(some false)else(Fx.seq (bif (decide (64<(x0.length:Int)))then((Fx.ny x0 0 64).bind fun c2=>(some (inl c2)))else(some (inl x0))) fun c1=>Sh.oT c3 c1))
def Sh.oS(x0:List Int)(c2:List bg):Option Bool :=
 ((Fx.app 56 c2 [(bg.mk 15 false false 0 0 0 0 0),(bg.mk 39 false false 0 0 0 0 0)]).bind fun c1=>((Sh.uM (fg.mk 0 0 [] [] c1)).bind fun c4=>(bif (!decide (c4.2=0))then(some false)else((Sh.qD (fg.mk 0 0 [] [] c1) (gi.mk [] []) 1000).bind fun c0=>(Fx.seq (bif (!decide (c0.2=0))then(some (inl true))else(bif (!decide (c0.1.end_=0))then(some (inl true))else(some (inl (!decide ((c0.1.dW.length:Int)=(c1.length:Int))))))) fun c3=>Sh.kO x0 c0 c3)))))
def Sh.sU(x0:List Int):Option Bool :=
 ((Sh.bV).bind fun c3=>(bif (!c3)then(some false)else(Fx.seq (Fx.loop (fun(c1,c2)=>Sh.cV x0 c1 c2) ([],0)) fun c0=>Sh.oS x0 c0)))
end Go.Proofs
end
section
namespace Go.Sp
open Go Go.Fw Go.Fx
theorem jc{x:Int}(h : -9223372036854775808≤x∧x≤9223372036854775807):IntKind.i64.wrap x=x:=nM h
def num:List UInt8→Nat
 | []=>0
 | b::l=>b.toNat+256*num l
theorem PS(l:List UInt8):num l<256^l.length:=by
 induction l with
 | nil=>simp[num]
 | cons b l ih =>
  simp only[num,abm,Nat.pow_succ]
  have:=b.toNat_lt
  omega
theorem Vh(l:List UInt8)(b:UInt8):num (l ++ [b])=num l+256^l.length*b.toNat:=by
 induction l with
 | nil=>simp[num]
 | cons a l ih =>
  simp only[aag,num,ih,abm,Nat.pow_succ,Nat.mul_add]
  rw[Nat.mul_comm (256^l.length) 256,Nat.mul_assoc]
  omega
theorem Pv(x:Int):∃ k:Int,IntKind.i64.wrap x=x+18446744073709551616*k:=by
 unfold IntKind.wrap
 simp only[IntKind.signed,IntKind.bits,Bool.true_and,aad]
 have h:=Int.emod_add_mul_ediv x (2^64)
 split
 ·exact⟨-(x/2^64)-1,ac_⟩
 ·exact⟨-(x/2^64),ac_⟩
theorem OX(x:Int):BitVec.ofInt 64 (IntKind.i64.wrap x)=BitVec.ofInt 64 x:=by
 obtain⟨k,hk⟩:=Pv x
 rw[hk]
 apply BitVec.eq_of_toInt_eq
 simp only[BitVec.toInt_ofInt]
 rw[show(18446744073709551616:Int)=((2^64:Nat):Int) by rfl,Int.add_mul_bmod_self_left]
theorem UN{N b m:Nat}(hN:N<2^m)(hb:2^m*b+N<2^64):uu .i64 (IntKind.i64.wrap (N:Nat)) (IntKind.i64.wrap ((2^m*b:Nat):Int))=IntKind.i64.wrap ((N+2^m*b:Nat):Int):=by
 have e0:∀ x y,uu .i64 x y=IntKind.i64.wrap ((BitVec.ofInt 64 x ||| BitVec.ofInt 64 y).toNat:Int):=fun _ _=>rfl
 rw[e0,OX,OX,BitVec.toNat_or,BitVec.ofInt_natCast,BitVec.ofInt_natCast,BitVec.toNat_ofNat,BitVec.toNat_ofNat,acU ac_,acU ac_,Nat.or_comm,
  ←Nat.two_pow_add_eq_or_of_lt hN,Nat.add_comm]
end Go.Sp
end
section
namespace Go.Sp
open Go Go.Fw Go.Fx Go.Proofs
structure Wf(b:List UInt8)(r:fL):Prop where
 X4:r.b=b
 at0:0≤r.at_
 Qz:r.at_≤b.length
 p0:0≤r.place
 p1:r.place≤b.length
def Rd(b:List UInt8)(r r':fL)(enc:List UInt8)(good:Prop):Prop :=
 Wf b r' ∧ (r'.e=0→r.e=0∧good∧b.drop r.at_.toNat=enc++b.drop r'.at_.toNat)
section
variable {b:List UInt8}{r r1 r2:fL}
theorem Rd.trans{e1 e2:List UInt8}{g1 g2:Prop}(h:Rd b r r1 e1 g1)(k:Rd b r1 r2 e2 g2):Rd b r r2 (e1++e2) (g1∧g2) :=
 ⟨k.1,fun he=>by
  obtain⟨h1,h2,h3⟩:=k.2 he
  obtain⟨h4,h5,h6⟩:=h.2 h1
  exact⟨h4,⟨h5,h2⟩,by rw[h6,h3,acW]⟩⟩
theorem Rd.refl(h:Wf b r):Rd b r r [] True:=⟨h,fun he=>⟨he,trivial,rfl⟩⟩
theorem Rd.imp{e e':List UInt8}{g g':Prop}(h:Rd b r r1 e g)(k:g→e=e' ∧ g'):Rd b r r1 e' g' :=
 ⟨h.1,fun he=>by obtain⟨h1,h2,h3⟩:=h.2 he;obtain⟨h4,h5⟩:=k h2;subst h4;exact⟨h1,h5,h3⟩⟩
theorem Rd.bad(h:Wf b r1)(he:r1.e≠0){e:List UInt8}{g:Prop}:Rd b r r1 e g:=⟨h,fun k=>absurd k he⟩
theorem zB(y:List UInt8×fL)(hl:y.1.length≤8):∀ (m k:Nat),m+k=y.1.length →
  Fx.loop (fun(v:Int×Int)=>match v with|(v1,v2)=>Sh.fD y v1 v2) ((k:Int),IntKind.i64.wrap (num (y.1.take k):Nat))=some (inl (y.2,IntKind.i64.wrap (num y.1:Nat))):=by
 intro m
 induction m with
 | zero =>
  intro k hk
  rw[Fx.tM]
  have h:¬ ((k:Int)<(y.1.length:Int)):=ac_
  simp[Sh.fD,h,abW (show y.1.length≤k by omega)]
 | succ m ih =>
  intro k hk
  rw[Fx.tM]
  have h:((k:Int)<(y.1.length:Int)):=ac_
  have hkl:k<y.1.length:=ac_
  have e1:IntKind.i64.wrap (8*(k:Int))=8*(k:Int):=jc ac_
  have e2:IntKind.i64.wrap ((k:Int)+1)=((k+1:Nat):Int):=by rw[jc ac_];rfl
  have hg:Fx.get y.1 (k:Int)=some y.1[k]:=by simp[Fx.get,aa1 hkl]
  have e3:(8*(k:Int)).toNat=8*k:=ac_
  have e4:shl .i64 (y.1[k].toNat:Int) (8*k)=IntKind.i64.wrap ((2^(8*k)*y.1[k].toNat:Nat):Int):=by
   unfold shl
   rw[abR (by simp[IntKind.bits];omega),Int.mul_comm]
   congr 1
  have hN:=PS (y.1.take k)
  rw[abn,abR ac_]at hN
  have Ew:(256:Nat)^k=2^(8*k):=by rw[Nat.pow_mul]
  have hb:=y.1[k].toNat_lt
  have AL:2^(8*k)*y.1[k].toNat+num (y.1.take k)<2^64:=by
   have h1:2^(8*k)*y.1[k].toNat≤2^(8*k)*255:=abp _ ac_
   have h2:2^(8*k)*256≤2^64:=by
    rw[show(256:Nat)=2^8 by rfl,←Nat.pow_add];exact ac6 (by decide) ac_
   rw[←Ew]at h1 h2 ⊢
   omega
  have e5:num (y.1.take (k+1))=num (y.1.take k)+2^(8*k)*y.1[k].toNat:=by
   rw[aa9,aa1 hkl,Option.toList_some,Vh,abn,abR ac_,Ew]
  have:=ih (k+1) ac_
  simp only[Sh.fD,h,decide_true,abw,hg,aaG,e1,e2,Fx.must,show(0≤8*(k:Int)) by omega,e3,e4,UN (by rw[←Ew];exact hN) AL]
  rw[←e5]
  exact this
end
end Go.Sp
end
section
namespace Go.Sp
open Go Go.Fw Go.Fx
section
variable {σ γ X:Type}{body:σ→Option (σ⊕γ)}
theorem cR{s s':σ}{o:Option γ}(h:body s=some (.inl s'))(k:loop body s' = o):loop body s=o:=by rw[tM,h];exact k
theorem cV{s:σ}{g:γ}(h:body s=some (.inr g)):loop body s=some g:=by rw[tM,h]
theorem Ui(μ:σ→Nat)(I:σ→Prop)(Q:γ→Prop)
  (h:∀ s,I s→(∃ s',body s=some (.inl s')∧I s' ∧ μ s' < μ s) ∨ ∃ g,body s=some (.inr g)∧Q g):∀ s,I s → ∃ g,loop body s=some g∧Q g:=by
 have key:∀ (m:Nat) s,μ s<m→I s → ∃ g,loop body s=some g∧Q g:=by
  intro m
  induction m with
  | zero=>intro s hs;omega
  | succ m ih =>
   intro s hs hI
   rcases h s hI with⟨s',hb,HZ,hm⟩|⟨g,hb,hq⟩
   ·obtain⟨g,hg,hq⟩:=ih s' ac_ HZ
    exact⟨g,cR hb hg,hq⟩
   ·exact⟨g,cV hb,hq⟩
 intro s hI
 exact key (μ s+1) s (acz _) hI
theorem bY{α:Type}(n:Nat)(st:Nat→α→σ)(I:Nat→α→Prop)(Q:γ→Prop)
  (h:∀ i a,i<n→I i a→(∃ a',body (st i a)=some (.inl (st (i+1) a'))∧I (i+1) a') ∨ ∃ g,body (st i a)=some (.inr g)∧Q g)
  (h':∀ a,I n a → ∃ g,body (st n a)=some (.inr g)∧Q g):∀ m i a,m+i=n→I i a → ∃ g,loop body (st i a)=some g∧Q g:=by
 intro m
 induction m with
 | zero =>
  intro i a e hI
  obtain rfl:i=n:=ac_
  obtain⟨g,hg,hq⟩:=h' a hI
  exact⟨g,cV hg,hq⟩
 | succ m ih =>
  intro i a e hI
  rcases h i a ac_ hI with⟨a',hb,HZ⟩|⟨g,hg,hq⟩
  ·obtain⟨g,hg,hq⟩:=ih (i+1) a' ac_ HZ
   exact⟨g,cR hb hg,hq⟩
  ·exact⟨g,cV hg,hq⟩
end
theorem aQ{τ γ:Type}{x:τ}{k:τ→Option γ}:Fx.seq (some (inl x)) k=k x:=rfl
theorem mZ{τ γ:Type}{x:γ}{k:τ→Option γ}:Fx.seq (some (inr x)) k=some x:=rfl
theorem bI{τ γ:Type}{t:Option (τ⊕γ)}{o:τ⊕γ}{k:τ→Option γ}{u:Option γ}(h:t=some o)(h':Fx.fin k o=u):Fx.seq t k=u:=by rw[h];exact h'
theorem gq{i n:Nat}(h:i<n)(hn:n≤4611686018427387904):IntKind.i64.wrap ((i:Int)+1)=((i+1:Nat):Int):=by rw[jc ac_];rfl
theorem aX{X:Type}{l:List X}{i:Nat}(h:i<l.length):Fx.get l (i:Int)=some l[i]:=by simp[Fx.get,aa1 h]
theorem bT{i n:Nat}:decide ((i:Int)<(n:Int))=decide (i<n):=by simp
theorem cI{X:Type}{bytes:Nat}{l m:List X}(h:(l.length+m.length)*bytes≤140737488355328)(k:l.length+m.length≤4611686018427387904):Fx.app bytes l m=some (l++m):=aay ⟨h,k⟩
end Go.Sp
end
section
namespace Go.Sp
open Go Go.Fw Go.Fx Go.Proofs
section
variable {b:List UInt8}{r r1 r2:fL}
theorem Rd.at_{e:List UInt8}{g:Prop}(hw:Wf b r)(h:Rd b r r1 e g)(he:r1.e=0):r1.at_=r.at_+e.length:=by
 have h1:=congrArg List.length (h.2 he).2.2
 simp only[abT,abh]at h1
 have:=hw.Qz;have:=h.1.Qz;have:=hw.at0;have:=h.1.at0
 omega
end
end Go.Sp
end
section
namespace Go.Sp
open Go Go.Fw Go.Fx Go.Proofs
theorem dO(x lo hi:Int):Sh.bJ x lo hi=some (decide (lo≤x∧x≤hi)):=by
 unfold Sh.bJ
 by_cases h:lo≤x<;>simp[h,Fx.seq,Fx.fin,Sh.vY]
end Go.Sp
end
section
namespace Go.Sp
open Go Go.Fw Go.Fx Go.Proofs
def cur(r:fL):gY:=gY.mk r.b r.at_ r.place r.e
def tk(r:fL)(n:Int):List UInt8×fL :=
 if r.e=0 then(if r.at_+n≤r.b.length then((r.b.drop r.at_.toNat).take n.toNat,fL.mk r.b (r.at_+n) r.place r.e)else([],fL.mk r.b r.at_ r.b.length 236))else([],r)
section
variable {b:List UInt8}{r r1 r2:fL}
theorem xC(hb:b.length≤16777216)(hw:Wf b r){n:Int}(hn:0≤n∧n≤4294967296):Sh.aW r n=some (tk r n):=by
 obtain⟨h1,h2,h3,h4,h5⟩:=hw
 unfold Sh.aW tk
 have e1:IntKind.i64.wrap ((r.b.length:Int)-r.at_)=(b.length:Int)-r.at_:=by rw[h1];exact jc ac_
 rw[e1]
 have e2:IntKind.i64.wrap (r.at_+n)=r.at_+n:=jc ac_
 have e3:IntKind.i64.wrap (r.at_+n-n)=r.at_:=by rw[jc ac_];omega
 by_cases he:r.e=0
 ·by_cases hlt:(b.length:Int)-r.at_<n
  ·have h6:¬ r.at_+n≤(r.b.length:Int):=by rw[h1];omega
   simp[hlt,he,h6,Sh.aB,aQ,Sh.cN]
  ·have h6:r.at_+n≤(r.b.length:Int):=by rw[h1];omega
   have e4:(r.at_+n).toNat-r.at_.toNat=n.toNat:=ac_
   simp only[hlt,decide_false,abt,aQ,Sh.cN,he,decide_true,abK,e2,e3,if_true,h6,Fx.ny]
   have h7:0≤r.at_∧r.at_≤r.at_+n∧True:=⟨h2,ac_,trivial⟩
   rw[aay h7,e4];rfl
 ·by_cases hlt:(b.length:Int)-r.at_<n
  ·simp[hlt,he,Sh.aB,aQ,Sh.cN]
  ·simp[hlt,he,aQ,Sh.cN]
theorem pE(hb:b.length≤16777216)(hw:Wf b r){n:Nat}(hn:n≤8):Sh.aA r (n:Nat)=some (IntKind.i64.wrap (num (tk r n).1:Nat),(tk r n).2):=by
 have ht:=xC hb hw (n:=(n:Nat)) ac_
 have Y_:(tk r n).1.length≤8:=by unfold tk;split<;>(try split)<;>simp<;>omega
 have hl:=zB (tk r n) Y_ (tk r n).1.length 0 (by simp)
 have e0:IntKind.i64.wrap ((num ((tk r n).1.take 0):Nat):Int)=0:=by simp[num];rfl
 rw[e0]at hl
 unfold Sh.aA
 simp only[ht,aaG]
 exact bI hl rfl
theorem Ej(x:List UInt8)(i:Nat)(h:i<x.length):num (x.drop i)=x[i].toNat+256*num (x.drop (i+1)):=by
 rw[acj h];rfl
theorem JL{x:Int}(h:0≤x∧x<18446744073709551616):IntKind.u64.wrap x=x:=by
 simp[IntKind.wrap,IntKind.signed,IntKind.bits];omega
theorem SK(c:gY)(x:List UInt8)(h0:0≤c.at_)(hc:c.at_≤16777216)(hx:x.length≤8)(hg:∀ i (h:i<x.length),Fx.get c.b (c.at_+(i:Int))=some x[i]):∀ (m:Nat),m≤x.length →
  Fx.loop (fun(v:Int×Int)=>match v with|(v1,v2)=>Sh.fC c v1 v2) ((num (x.drop m):Nat),(m:Int)-1)=some (inl ((num x:Nat):Int)):=by
 intro m
 induction m with
 | zero=>intro _;exact cV (by simp[Sh.fC])
 | succ m ih =>
  intro hm
  have hlt:=PS (x.drop m)
  rw[abh]at hlt
  have h8:256^(x.length-m)≤256^8:=ac6 (by decide) ac_
  have h8':256^8=18446744073709551616:=by decide
  rw[Ej x m ac_]at hlt
  have e1:((m+1:Nat):Int)-1=(m:Int):=ac_
  refine cR ?_ (ih ac_)
  rw[e1]
  have h1:(0:Int)≤(m:Int):=ac_
  have e2:IntKind.i64.wrap (c.at_+(m:Int))=c.at_+(m:Int):=jc ac_
  have e3:IntKind.i64.wrap ((m:Int)-1)=(m:Int)-1:=jc ac_
  have e4:IntKind.u64.wrap (IntKind.u64.wrap (((num (x.drop (m+1)):Nat):Int)*256)+((x[m]'ac_).toNat:Int))=((num (x.drop m):Nat):Int):=by
   rw[Ej x m ac_]
   rw[JL (x:=((num (x.drop (m+1)):Nat):Int)*256) ac_,JL ac_]
   omega
  simp only[Sh.fC,h1,decide_true,abw,e2,hg m ac_,aaG,e3,e4]
theorem SZ(hb:b.length≤16777216)(hw:Wf b r){n:Nat}(hn:n≤8):Sh.aC (cur r) (n:Nat)=some (IntKind.i64.wrap (num (tk r n).1:Nat),cur (tk r n).2):=by
 obtain⟨h1,h2,h3,h4,h5⟩:=hw
 have e2:IntKind.i64.wrap (r.at_+(n:Int))=r.at_+n:=jc ac_
 unfold Sh.aC tk
 by_cases he:r.e=0
 ·by_cases hlt:r.at_+(n:Int)≤(r.b.length:Int)
  ·have h6:¬ (r.b.length:Int)<r.at_+(n:Int):=ac_
   simp only[cur,he,decide_true,abw,e2,h6,decide_false,aQ,Sh.dS,abt,Sh.dR,abK,if_true,hlt]
   have hlen:((r.b.drop r.at_.toNat).take (n:Int).toNat).length=n:=by simp;omega
   have:=SK (gY.mk r.b r.at_ r.place 0) ((r.b.drop r.at_.toNat).take (n:Int).toNat) h2 (by simp;omega) ac_ (fun i h=>by
    have hi:r.at_.toNat+i<r.b.length:=by rw[hlen]at h;omega
    have e:(r.at_+(i:Int)).toNat=r.at_.toNat+i:=ac_
    simp only[Fx.get]
    rw[aay ac_,e,aa1 hi]
    simp) n ac_
   rw[List.drop_of_length_le ac_]at this
   have e5:IntKind.i64.wrap ((n:Int)-1)=(n:Int)-1:=jc ac_
   rw[e5]
   exact bI this (by simp only[Fx.fin,Sh.lA,e2,cur])
  ·have h6:(r.b.length:Int)<r.at_+(n:Int):=ac_
   simp[cur,he,e2,h6,aQ,Sh.dS,Sh.dR,hlt,Sh.aM,num]
   rfl
 ·simp[cur,he,aQ,Sh.dS,Sh.dR,num]
  rfl
end
end Go.Sp
end
section
namespace Go.Sp
open Go Go.Fw Go.Fx Go.Proofs
section
variable {b:List UInt8}{r r1 r2:fL}
theorem jC(hb:b.length≤16777216)(hw:Wf b r)(n:Nat)(hn:n≤8){v:Int}(h:Sh.aA r (n:Nat)=some (v,r1)):Sh.aC (cur r) (n:Nat)=some (v,cur r1)∧(r1.e≠0→v=0):=by
 rw[pE hb hw hn]at h
 have h1:=congrArg Prod.fst (ac8 h)
 have h2:=congrArg Prod.snd (ac8 h)
 simp only at h1 h2
 subst h1 h2
 refine⟨SZ hb hw hn,fun he=>?_⟩
 have:(tk r n).1 = []:=by
  unfold tk at he ⊢
  split
  ·rename_i h0
   rw[aay h0]at he
   split
   ·rename_i h1;rw[aay h1]at he;exact absurd h0 he
   ·rfl
  ·rfl
 rw[this];simp[num];rfl
end
end Go.Sp
end
section
namespace Go.Sp
open Go Go.Fw Go.Fx Go.Proofs
structure GI{X:Type}(key:X→Int)(bad:X→Prop)(top:Int)(l:List X)(i:Nat)(h:i<l.length):Prop where
 lo:0≤key l[i]
 hi:key l[i]≤top
 un:¬ bad l[i]
 up:∀ (k:0<i),key (l[i-1]'ac_)<key l[i]
def vq{X:Type}(key:X→Int)(bad:X→Prop)(top:Int)(l:List X)(n:Nat):Prop:=∀ i (h:i<l.length),i<n→GI key bad top l i h
def vN(m:dw)(n:Nat):Prop:=vq (fun t:dM=>t.reg) (fun t=>t.old=t.new) 10 m.a8 n
def tj(m:dw)(n:Nat):Prop:=vq (fun t:d_=>t.slot) (fun t=>t.old=t.new) 31 m.slots n
theorem vq.succ{X:Type}{key:X→Int}{bad:X→Prop}{top:Int}{l:List X}{n:Nat}(h:vq key bad top l n)(hn:n<l.length)(k:GI key bad top l n hn):vq key bad top l (n+1):=by
 intro i hi hin
 by_cases e:i=n
 ·subst e;exact k
 ·exact h i hi ac_
theorem J6{m:dw}(hm:m.a8.length≤1099511627776):∃ g,Fx.loop (fun(v:Int×Int)=>match v with|(v1,v2)=>Sh.bL m v1 v2) (0,-1)=some g∧((g=inl ()∧vN m m.a8.length)∨(g=inr false ∧ ¬ vN m m.a8.length)):=by
 refine bY (body:=fun(v:Int×Int)=>match v with|(v1,v2)=>Sh.bL m v1 v2) m.a8.length (fun i (a:Int)=>((i:Int),a)) (fun i a=>vN m i∧((i=0∧a = -1) ∨ ∃ h:i-1<m.a8.length,0<i∧a=(m.a8[i-1]).reg)) _
  (fun i a hi hI=>?_) (fun a hI=>⟨inl (),by simp[Sh.bL],.inl ⟨rfl,hI.1⟩⟩) m.a8.length 0 (-1) ac_ ⟨fun _ _ h=>by omega,.inl ⟨rfl,rfl⟩⟩
 show(∃ a',Sh.bL m (i:Int) a=_∧_) ∨ ∃ g,Sh.bL m (i:Int) a=_∧_
 obtain⟨hA,ha⟩:=hI
 have ER : -1≤a∧a≤10:=by
  rcases ha with⟨_,rfl⟩|⟨h,h0,rfl⟩
  ·omega
  ·have:=hA (i-1) h ac_;have h1:=this.lo;have h2:=this.hi;omega
 have e1:IntKind.i64.wrap (a+1)=a+1:=jc ac_
 have hup:∀ q:Int,(∀ (k:0<i),(m.a8[i-1]'ac_).reg<q)∧0≤q↔a+1≤q:=by
  intro q
  rcases ha with⟨h0,rfl⟩|⟨h,h0,rfl⟩
  ·subst h0;constructor
   ·rintro⟨_,h⟩;omega
   ·intro h;exact⟨fun k=>by omega,ac_⟩
  ·have:=(hA (i-1) h ac_).lo
   constructor
   ·rintro⟨h1,_⟩;have:=h1 h0;omega
   ·intro h1;exact⟨fun _=>by omega,ac_⟩
 simp only[Sh.bL,bT,hi,decide_true,abw,aX hi,aaG,dO,Sh.sG,e1]
 by_cases c:a+1≤(m.a8[i]).reg∧(m.a8[i]).reg≤10
 ·by_cases c':(m.a8[i]).old=(m.a8[i]).new
  ·right
   refine⟨inr false,by simp[c,c',aQ],.inr ⟨rfl,fun h=>(h i hi hi).un c'⟩⟩
  ·left
   refine⟨(m.a8[i]).reg,by simp[c,c',aQ,gq hi (show m.a8.length≤_ by omega)],hA.succ hi ⟨((hup _).2 c.1).2,c.2,c',((hup _).2 c.1).1⟩,.inr ⟨ac_,ac_,rfl⟩⟩
 ·right
  refine⟨inr false,by simp[c,aQ],.inr ⟨rfl,fun h=>c ⟨(hup _).1 ⟨(h i hi hi).up,(h i hi hi).lo⟩,(h i hi hi).hi⟩⟩⟩
theorem G6{m:dw}(hm:m.slots.length≤1099511627776):∃ g,Fx.loop (fun(v:Int×Int)=>match v with|(v1,v2)=>Sh.bM m v1 v2) (-1,0)=some g∧((g=inl ()∧tj m m.slots.length)∨(g=inr false ∧ ¬ tj m m.slots.length)):=by
 refine bY (body:=fun(v:Int×Int)=>match v with|(v1,v2)=>Sh.bM m v1 v2) m.slots.length (fun i (a:Int)=>(a,(i:Int))) (fun i a=>tj m i∧((i=0∧a = -1) ∨ ∃ h:i-1<m.slots.length,0<i∧a=(m.slots[i-1]).slot)) _
  (fun i a hi hI=>?_) (fun a hI=>⟨inl (),by simp[Sh.bM],.inl ⟨rfl,hI.1⟩⟩) m.slots.length 0 (-1) ac_ ⟨fun _ _ h=>by omega,.inl ⟨rfl,rfl⟩⟩
 show(∃ a',Sh.bM m a (i:Int)=_∧_) ∨ ∃ g,Sh.bM m a (i:Int)=_∧_
 obtain⟨hA,ha⟩:=hI
 have ER : -1≤a∧a≤31:=by
  rcases ha with⟨_,rfl⟩|⟨h,h0,rfl⟩
  ·omega
  ·have:=hA (i-1) h ac_;have h1:=this.lo;have h2:=this.hi;omega
 have e1:IntKind.i64.wrap (a+1)=a+1:=jc ac_
 have hup:∀ q:Int,(∀ (k:0<i),(m.slots[i-1]'ac_).slot<q)∧0≤q↔a+1≤q:=by
  intro q
  rcases ha with⟨h0,rfl⟩|⟨h,h0,rfl⟩
  ·subst h0;constructor
   ·rintro⟨_,h⟩;omega
   ·intro h;exact⟨fun k=>by omega,ac_⟩
  ·have:=(hA (i-1) h ac_).lo
   constructor
   ·rintro⟨h1,_⟩;have:=h1 h0;omega
   ·intro h1;exact⟨fun _=>by omega,ac_⟩
 simp only[Sh.bM,bT,hi,decide_true,abw,aX hi,aaG,dO,Sh.sH,e1]
 by_cases c:a+1≤(m.slots[i]).slot∧(m.slots[i]).slot≤31
 ·by_cases c':(m.slots[i]).old=(m.slots[i]).new
  ·right
   refine⟨inr false,by simp[c,c',aQ],.inr ⟨rfl,fun h=>(h i hi hi).un c'⟩⟩
  ·left
   refine⟨(m.slots[i]).slot,by simp[c,c',aQ,gq hi (show m.slots.length≤_ by omega)],hA.succ hi ⟨((hup _).2 c.1).2,c.2,c',((hup _).2 c.1).1⟩,.inr ⟨ac_,ac_,rfl⟩⟩
 ·right
  refine⟨inr false,by simp[c,aQ],.inr ⟨rfl,fun h=>c ⟨(hup _).1 ⟨(h i hi hi).up,(h i hi hi).lo⟩,(h i hi hi).hi⟩⟩⟩
def Differ(x y:List UInt8):Prop:=∀ i,i<x.length→x.getD i 0≠y.getD i 0
structure GL(l:List b9)(i:Nat)(h:i<l.length):Prop where
 lo : -1≤(l[i]).table
 hi:(l[i]).table≤7
 lX:0≤(l[i]).from_
 ne:(l[i]).old.length≠0
 eq:(l[i]).new.length=(l[i]).old.length
 top:(l[i]).from_+((l[i]).old.length:Int)≤65535
 df:Differ (l[i]).old (l[i]).new
 up:∀ (k:0<i),(l[i-1]'ac_).table<(l[i]).table∨((l[i-1]'ac_).table=(l[i]).table∧(l[i-1]'ac_).from_+((l[i-1]'ac_).old.length:Int)<(l[i]).from_)
def su(l:List b9)(n:Nat):Prop:=∀ i (h:i<l.length),i<n→GL l i h
theorem su.succ{l:List b9}{n:Nat}(h:su l n)(hn:n<l.length)(k:GL l n hn):su l (n+1):=by
 intro i hi hin
 by_cases e:i=n
 ·subst e;exact k
 ·exact h i hi ac_
theorem S3{x y:List UInt8}(h:y.length=x.length)(hx:x.length≤1099511627776):∃ l,Sh.cQ x y=some l∧l.length≤x.length∧(l.length=x.length↔Differ x y):=by
 unfold Sh.cQ
 obtain⟨g,h1,l,h2,h3,h4⟩:=bY (body:=fun(v:List Int×Int)=>match v with|(v1,v2)=>Sh.aV x y v1 v2) x.length (fun i (a:List Int)=>(a,(i:Int))) (fun i a=>a.length≤i∧(a.length=i ↔ ∀ j,j<i→x.getD j 0≠y.getD j 0)) (fun g=>∃ l,g=inl l∧l.length≤x.length∧(l.length=x.length↔Differ x y))
  (fun i a hi ha=>.inl (by
   have ex:x.getD i 0=x[i]:=by simp[List.getD,aa1 hi]
   have ey:y.getD i 0=y[i]'ac_:=by simp[List.getD,aa1 (show i<y.length by omega)]
   by_cases hc:x[i]=y[i]'ac_
   ·refine⟨a,by simp[Sh.aV,Sh.cX,hi,aX hi,aX (show i<y.length by omega),hc,aQ,gq hi ac_],ac_,?_⟩
    constructor
    ·intro e;omega
    ·intro e;exact absurd (by rw[ex,ey,hc]) (e i ac_)
   ·have hc':¬ ((x[i]).toNat:Int)=((y[i]'ac_).toNat:Int):=fun e=>hc (UInt8.toNat_inj.1 ac_)
    refine⟨a ++ [(i:Int)],by simp[Sh.aV,Sh.cX,hi,aX hi,aX (show i<y.length by omega),hc',aQ,gq hi ac_,cI (bytes:=8) (l:=a) (m:=[(i:Int)]) (by simp;omega) (by simp;omega)],by simp;omega,?_⟩
    simp only[abT,abf]
    constructor
    ·intro e j hj
     by_cases hji:j=i
     ·subst hji;rw[ex,ey];exact hc
     ·exact ha.2.1 ac_ j ac_
    ·intro e
     have:=ha.2.2 (fun j hj=>e j ac_)
     omega))
  (fun a ha=>⟨inl a,by simp[Sh.aV],a,rfl,ha.1,ha.2⟩) x.length 0 [] ac_ (by simp)
 subst h2
 exact⟨l,bI h1 rfl,h3,h4⟩
end Go.Sp
end
section
namespace Go.Sp
open Go Go.Fw Go.Fx Go.Proofs
theorem SG{l:List b9}(hl:l.length≤1099511627776):∃ g,Fx.loop (fun(v:Int×Int×Int)=>match v with|(v1,v2,v3)=>Sh.aL l v1 v2 v3) (0,-1,0)=some g∧((g=inl ()∧su l l.length)∨(g=inr false ∧ ¬ su l l.length)):=by
 refine bY (body:=fun(v:Int×Int×Int)=>match v with|(v1,v2,v3)=>Sh.aL l v1 v2 v3) l.length (fun i (a:Int×Int)=>((i:Int),a.1,a.2)) (fun i a=>su l i∧((i=0∧a=(-1,0)) ∨ ∃ h:i-1<l.length,0<i∧a=((l[i-1]).table,(l[i-1]).from_+((l[i-1]).old.length:Int)+1))) _
  (fun i a hi hI=>?_) (fun a hI=>⟨inl (),by simp[Sh.aL],.inl ⟨rfl,hI.1⟩⟩) l.length 0 (-1,0) ac_ ⟨fun _ _ h=>by omega,.inl ⟨rfl,rfl⟩⟩
 obtain⟨t,f⟩:=a
 obtain⟨hA,ha⟩:=hI
 show(∃ a',Sh.aL l (i:Int) t f=_∧_) ∨ ∃ g,Sh.aL l (i:Int) t f=_∧_
 generalize hp:l[i]=p
 have ht : -1≤t∧t≤7∧0≤f∧f≤65536:=by
  rcases ha with⟨_,e⟩|⟨h,h0,e⟩
  ·cases e;omega
  ·have:=hA (i-1) h ac_
   have h1:=this.lo;have h2:=this.hi;have h3:=this.lX;have h4:=this.top
   cases e;omega
 have bad:(∀ h:GL l i hi,False) → ∃ g,(some (inr (inr false)):Option ((Int×Int×Int)⊕(Unit⊕Bool)))=some (inr g)∧((g=inl ()∧su l l.length)∨(g=inr false ∧ ¬ su l l.length)) :=
  fun h=>⟨_,rfl,.inr ⟨rfl,fun k=>h (k i hi hi)⟩⟩
 -- what the place must be,said of the state (t,f)
 have hup:∀ h:GL l i hi,t≤p.table∧(p.table=t→f≤p.from_):=by
  intro h
  rcases ha with⟨h0,e⟩|⟨h',h0,e⟩
  ·cases e;have:=h.lo;have:=h.lX;rw[hp]at *; exact⟨ac_,fun _=>by omega⟩
  ·cases e
   have:=h.up h0
   rw[hp]at this
   rcases this with h1|⟨h1,h2⟩
   ·exact⟨ac_,fun e=>by omega⟩
   ·exact⟨ac_,fun e=>by omega⟩
 have Ib:∀ q:Int,t≤p.table→0≤p.from_→(p.table=t→f≤p.from_) → ∀ (k:0<i),(l[i-1]'ac_).table<p.table∨((l[i-1]'ac_).table=p.table∧(l[i-1]'ac_).from_+((l[i-1]'ac_).old.length:Int)<p.from_):=by
  intro q h1 h2 h3 k
  rcases ha with⟨h0,e⟩|⟨h',h0,e⟩
  ·omega
  ·cases e
   by_cases hc:p.table=(l[i-1]).table
   ·right;have:=h3 hc;exact⟨hc.symm,ac_⟩
   ·left;omega
 have key:∀ f',0≤f' ∧ f' ≤ 65536→t≤p.table→p.table≤7→(f' ≤ p.from_→0≤p.from_→(p.table=t→f≤p.from_))→(∀ h:GL l i hi,f' ≤ p.from_) →
   (∃ a',Sh.cL (i:Int) p p.table f' = some (inl (((i+1:Nat):Int),a'.1,a'.2))∧su l (i+1)∧((i+1=0∧a' = ((-1,0):Int×Int)) ∨ ∃ h:i+1-1<l.length,0<i+1∧a' = ((l[i+1-1]).table,(l[i+1-1]).from_+((l[i+1-1]).old.length:Int)+1))) ∨
   ∃ g,Sh.cL (i:Int) p p.table f' = some (inr g)∧((g=inl ()∧su l l.length)∨(g=inr false ∧ ¬ su l l.length)):=by
  intro f' hf h1 h2 h3 h4
  unfold Sh.cL
  by_cases c1:(p.old.length:Int)=0
  ·right;simpa[c1,aQ,Sh.aY]using bad (fun h=>h.ne (by rw[hp];omega))
  by_cases c2:(p.new.length:Int)=(p.old.length:Int)
  ·by_cases c3:65535<(p.old.length:Int)
   ·right;simpa[c1,c2,c3,aQ,Sh.aY]using bad (fun h=>by have h5:=h.top;have h6:=h.lX;rw[hp]at h5 h6;omega)
   ·have e1:IntKind.i64.wrap (65535-(p.old.length:Int))=65535-(p.old.length:Int):=jc ac_
    simp only[c1,c2,c3,decide_false,decide_true,abt,abK,dO,aaG,e1]
    by_cases c4:f' ≤ p.from_∧p.from_≤65535-(p.old.length:Int)
    ·obtain⟨x,hx,hx1,CO⟩:=S3 (x:=p.old) (y:=p.new) ac_ ac_
     simp only[c4,decide_true,abK,abt,and_self,hx,aaG,aQ,Sh.aY]
     by_cases c5:(x.length:Int)<(p.old.length:Int)
     ·right
      rw[aaV c5]
      exact bad (fun h=>by have:=CO.2 (by rw[←hp];exact h.df);omega)
     ·left
      have e2:IntKind.i64.wrap (IntKind.i64.wrap (p.from_+(p.old.length:Int))+1)=p.from_+(p.old.length:Int)+1:=by rw[jc (x:=p.from_+(p.old.length:Int)) ac_,jc ac_]
      refine⟨(p.table,p.from_+(p.old.length:Int)+1),by simp only[c5,decide_false,abt,gq hi (show l.length≤_ by omega),e2],hA.succ hi ?_,.inr ⟨ac_,ac_,by simp[hp]⟩⟩
      have hd:=CO.1 ac_
      refine⟨by rw[hp];omega,by rw[hp];omega,by rw[hp];omega,by rw[hp];omega,by rw[hp];omega,by rw[hp];omega,by rw[hp];exact hd,?_⟩
      rw[hp]
      exact Ib 0 h1 ac_ (h3 c4.1 ac_)
    ·right
     simp only[c4,decide_false,ac7,abw,aQ,Sh.aY]
     exact bad (fun h=>c4 ⟨h4 h,by have h5:=h.top;rw[hp]at h5;omega⟩)
  ·right;simpa[c1,c2,aQ,Sh.aY]using bad (fun h=>c2 (by have:=h.eq;rw[hp]at this;omega))
 simp only[Sh.aL,bT,hi,decide_true,abw,aX hi,hp,aaG,dO]
 by_cases c:t≤p.table∧p.table≤7
 ·simp only[c,and_self,decide_true,abK,abt]
  by_cases c':t<p.table
  ·simp only[c',decide_true,abw,aQ]
   exact key 0 ac_ c.1 c.2 (fun _ _ e=>by omega) (fun h=>by have:=h.lX;rw[hp]at this;exact this)
  ·have e:p.table=t:=ac_
   simp only[c',decide_false,abt,aQ]
   have:=key f ac_ c.1 c.2 (fun h _ _=>h) (fun h=>(hup h).2 e)
   rw[e]at this
   rw[e]at *
   exact this
 ·simp only[c,decide_false,ac7,abw,mZ]
  right
  exact bad (fun h=>c ⟨(hup h).1,by have:=h.hi;rw[hp]at this;exact this⟩)
end Go.Sp
end
section
namespace Go.Sp
open Go Go.Fw Go.Fx Go.Proofs
structure St(b more:List UInt8)(r:fL)(t:List UInt8):Prop where
 wf:Wf b r
 ok:r.e=0→b.drop r.at_.toNat++more=t
 bad:r.e≠0→r.e=236∧r.place=b.length∧more ≠ []
section
variable {b more:List UInt8}{r r1 r2:fL}{t:List UInt8}
theorem St.any(h:St b more r t)(he:r.e≠0)(t':List UInt8):St b more r t':=⟨h.wf,fun k=>absurd k he,h.bad⟩
theorem St.to{t':List UInt8}(h:St b more r t)(k:r.e=0→t=t'):St b more r t':=⟨h.wf,fun he=>(h.ok he).trans (k he),h.bad⟩
end
end Go.Sp
end
section
namespace Go.Sp
open Go Go.Fw Go.Fx Go.Proofs
theorem fF{X:Type}{enc:X→List UInt8}(h:∀ x,1≤(enc x).length)(xs:List X):xs.length≤(xs.flatMap enc).length:=by
 induction xs with
 | nil=>simp
 | cons x xs ih=>have:=h x;simp only[abm,List.flatMap_cons,abT];omega
end Go.Sp
end
section
namespace Go.Sp
open Go Go.Fw Go.Fx Go.Proofs
def p_(o:Option Bool)(P:Prop):Prop:=∃ t,o=some t∧(t=true↔P)
theorem p_.eq{o o':Option Bool}{P:Prop}(h:p_ o P)(h':p_ o' P):o=o':=by
 obtain⟨t,rfl,ht⟩:=h
 obtain⟨t',rfl,ht'⟩:=h'
 congr 1
 cases t<;>cases t' <;> simp_all
theorem p_.true{o:Option Bool}{P:Prop}(h:p_ o P)(hp:P):o=some true:=by
 obtain⟨t,rfl,ht⟩:=h
 rw[ht.2 hp]
theorem p_.false{o:Option Bool}{P:Prop}(h:p_ o P)(hp:¬ P):o=some false:=by
 obtain⟨t,rfl,ht⟩:=h
 cases t
 ·rfl
 ·exact absurd (ht.1 rfl) hp
theorem p_.of{P:Prop}[Decidable P]:p_ (some (decide P)) P:=⟨_,rfl,by simp⟩
theorem scan{γ:Type}{body:Int→Option (Int⊕γ)}{ok bad:γ}(n:Nat)(P:Nat→Prop)(hn:n≤4611686018427387904)
  (h:∀ i:Nat,i<n→(P i∧body (i:Int)=some (.inl (IntKind.i64.wrap ((i:Int)+1))))∨(¬ P i∧body (i:Int)=some (.inr bad))) (h':body (n:Int)=some (.inr ok)) :
  ∃ g,Fx.loop body 0=some g∧((g=ok ∧ ∀ i,i<n→P i)∨(g=bad ∧ ¬ ∀ i,i<n→P i)):=by
 refine bY (body:=body) n (fun i (a:Unit)=>(i:Int)) (fun i a=>∀ j,j<i→P j) _ (fun i a hi hI=>?_) (fun a hI=>⟨ok,h',.inl ⟨rfl,hI⟩⟩) n 0 () ac_ (fun j hj=>by omega)
 rcases h i hi with⟨hp,hb⟩|⟨hp,hb⟩
 ·left
  refine⟨(),by rw[hb,gq hi hn],fun j hj=>?_⟩
  by_cases e:j=i
  ·subst e;exact hp
  ·exact hI j ac_
 ·exact .inr ⟨bad,hb,.inr ⟨rfl,fun k=>hp (k i hi)⟩⟩
end Go.Sp
end
section
namespace Go.Sp
open Go Go.Fw Go.Fx Go.Proofs
theorem oO{X:Type}{l:List X}{Q:X→Prop}:(∀ i,i<l.length → ∀ h:i<l.length,Q l[i]) ↔ ∀ t∈l,Q t:=by
 constructor
 ·intro h t ht
  obtain⟨i,hi,rfl⟩:=abH.1 ht
  exact h i hi hi
 ·intro h i hi _;exact h _ (abd hi)
def B9(i:gi):Prop:=i.cq.length≤65535∧i.ah.length≤8 ∧ ∀ t∈i.ah,t.length≤65535
end Go.Sp
end
section
namespace Go.Sp
open Go Go.Fw Go.Fx Go.Proofs
theorem pass{γ:Type}{body:Int→Option (Int⊕γ)}{g:γ}(n:Nat)(hn:n≤4611686018427387904)(h:∀ i:Nat,i<n→body (i:Int)=some (.inl (IntKind.i64.wrap ((i:Int)+1))))(h':body (n:Int)=some (.inr g)):Fx.loop body 0=some g:=by
 obtain⟨g',h1,h2⟩:=bY (body:=body) n (fun i (a:Unit)=>(i:Int)) (fun i a=>True) (fun g'=>g' = g)
  (fun i a hi _=>.inl ⟨(),by rw[h i hi,gq hi hn],trivial⟩) (fun a _=>⟨g,h',rfl⟩) n 0 () ac_ trivial
 subst h2;exact h1
def oL(m:dw):Prop:=m.a8.length≤1099511627776∧m.slots.length≤1099511627776∧m.dy.length≤1099511627776∧m.a7.length≤1099511627776
end Go.Sp
end
section
namespace Go.Sp
open Go Go.Fw Go.Fx Go.Proofs
section
variable {b:List UInt8}{r r1 r2:fL}
theorem two{σ γ τ δ X:Type}(N n:Nat){Ar:σ→Option (σ⊕γ)}{Au:τ→Option (τ⊕δ)}(st1:List X→fL→Int→σ)(out1:List X→fL→γ)(st2:List X→gY→Int→τ)(Jd:List X→gY→δ)
  (QH:∀ xs r m,(m=0∨r.e≠0)→Ar (st1 xs r m)=some (.inr (out1 xs r)))
  (QI:∀ xs c i,(i=(n:Int)∨c.e≠0)→Au (st2 xs c i)=some (.inr (Jd xs c)))
  (hs:∀ xs r (m i:Nat),Wf b r→r.e=0→m+1+i=n→xs.length<N → ∃ x x' r',Ar (st1 xs r ((m+1:Nat):Int))=some (.inl (st1 (xs ++ [x]) r' (m:Int))) ∧
   Au (st2 xs (cur r) (i:Int))=some (.inl (st2 (xs ++ [x']) (cur r') ((i+1:Nat):Int)))∧Wf b r' ∧ (r'.e=0→x' = x)) :
  ∀ (m i:Nat) xs xs' r,m+i=n→Wf b r→xs.length+m≤N→(r.e=0→xs' = xs) →
   ∃ ys KP r',loop Ar (st1 xs r (m:Int))=some (out1 (xs++ys) r')∧loop Au (st2 xs' (cur r) (i:Int))=some (Jd (xs' ++ KP) (cur r'))∧Wf b r' ∧ (r'.e=0→xs' ++ KP=xs++ys):=by
 intro m
 induction m with
 | zero =>
  intro i xs xs' r hi hw _ hx
  refine⟨[],[],r,?_,?_,hw,fun h=>by rw[hx h]⟩
  ·rw[acT];exact cV (QH _ _ _ (.inl rfl))
  ·rw[acT];exact cV (QI _ _ _ (.inl ac_))
 | succ m ih =>
  intro i xs xs' r hi hw hN hx
  by_cases he:r.e=0
  ·obtain rfl:=hx he
   obtain⟨x,x',r1,h1,h2,h3,h4⟩:=hs xs' r m i hw he hi ac_
   obtain⟨ys,KP,r2,k1,k2,k3,k4⟩:=ih (i+1) (xs' ++ [x]) (xs' ++ [x']) r1 ac_ h3 (by simp;omega) (fun h=>by rw[h4 h])
   exact⟨x::ys,x' :: KP,r2,cR h1 (by rw[k1];simp),cR h2 (by rw[k2];simp),k3,fun h=>by simpa using k4 h⟩
  ·refine⟨[],[],r,?_,?_,hw,fun h=>absurd h he⟩
   ·rw[acT];exact cV (QH _ _ _ (.inr he))
   ·rw[acT];exact cV (QI _ _ _ (.inr he))
theorem c1(hb:b.length≤16777216)(hw:Wf b r){v:Int}(h:Sh.aA r 1=some (v,r1)):Sh.aC (cur r) 1=some (v,cur r1):=(jC hb hw 1 ac_ h).1
theorem c2(hb:b.length≤16777216)(hw:Wf b r){v:Int}(h:Sh.aA r 2=some (v,r1)):Sh.aC (cur r) 2=some (v,cur r1):=(jC hb hw 2 ac_ h).1
theorem c4(hb:b.length≤16777216)(hw:Wf b r){v:Int}(h:Sh.aA r 4=some (v,r1)):Sh.aC (cur r) 4=some (v,cur r1):=(jC hb hw 4 ac_ h).1
theorem c8(hb:b.length≤16777216)(hw:Wf b r){v:Int}(h:Sh.aA r 8=some (v,r1)):Sh.aC (cur r) 8=some (v,cur r1):=(jC hb hw 8 ac_ h).1
end
end Go.Sp
end
section
namespace Go.Sp
open Go Go.Fw Go.Fx Go.Proofs
section
variable {X S:Type}[DecidableEq X]
def jo(f:Nat→X→X→S→S)(a b:List X)(s:S):Nat→S
 | 0=>s
 | i+1=>match a[i]?,b[i]? with
  | some x,some y=>if x=y then jo f a b s i else f i x y (jo f a b s i)
  | _,_=>jo f a b s i
def je(a b:List X):Nat→List Int:=jo (fun i _ _ D=>D ++ [(i:Int)]) a b []
def ou (f : Nat → X → X → S → S) (a b : List X) (D : List Int) (s : S) : S := D.foldl (fun s j => match a[j.toNat]?, b[j.toNat]? with
    | some x,some y=>f j.toNat x y s
    | _,_=>s) s
theorem gD(f:Nat→X→X→S→S){a b:List X}{i:Nat}(ha:i<a.length)(hb:i<b.length)(s:S):jo f a b s (i+1)=if a[i]=b[i]then jo f a b s i else f i a[i] b[i] (jo f a b s i):=by
 simp only[jo,aa1 ha,aa1 hb]
theorem oZ{a b:List X}{i:Nat}(ha:i<a.length)(hb:i<b.length):je a b (i+1)=if a[i]=b[i]then je a b i else je a b i ++ [(i:Int)]:=gD _ ha hb []
theorem vC(f:Nat→X→X→S→S){a b:List X}(s:S)(h:a.length=b.length):∀ n,n≤a.length→ou f a b (je a b n) s=jo f a b s n:=by
 intro n
 induction n with
 | zero=>intro _;rfl
 | succ n ih =>
  intro hn
  rw[oZ ac_ ac_,gD f ac_ ac_]
  split
  ·exact ih ac_
  ·rw[ou,ac4]
   have:=ih ac_
   rw[ou]at this
   rw[this]
   simp[aa1 (show n<a.length by omega),aa1 (show n<b.length by omega)]
theorem nG{a b:List X}(h:a.length=b.length):∀ n,n≤a.length→(je a b n).length≤n:=by
 intro n
 induction n with
 | zero=>intro _;exact aal _
 | succ n ih =>
  intro hn
  rw[oZ ac_ ac_]
  have:=ih ac_
  split
  ·omega
  ·simp;omega
theorem TY{a b:List X}(h:a.length=b.length):∀ n,n≤a.length → ∀ j∈je a b n,∃ k:Nat,j=(k:Int)∧k<n:=by
 intro n
 induction n with
 | zero=>intro _ j hj;cases hj
 | succ n ih =>
  intro hn j hj
  rw[oZ ac_ ac_]at hj
  split at hj
  ·obtain⟨k,e,hk⟩:=ih ac_ j hj;exact⟨k,e,ac_⟩
  ·rcases aaF.1 hj with hj|hj
   ·obtain⟨k,e,hk⟩:=ih ac_ j hj;exact⟨k,e,ac_⟩
   ·exact⟨n,by simpa using hj,ac_⟩
theorem vA{a b:List X}(h:a.length=b.length){k:Nat}(hk:k<(je a b a.length).length):∃ j:Nat,(je a b a.length)[k]=(j:Int)∧j<a.length∧j<b.length:=by
 obtain⟨j,e,hj⟩:=TY h a.length (aal _) _ (abd hk)
 exact⟨j,e,hj,h ▸ hj⟩
end
theorem xO{X S:Type}(f:Nat→X→X→S→S){a b:List X}(s:S){D:List Int}{k j:Nat}(hk:k<D.length)(hj:D[k]=(j:Int))(ha:j<a.length)(hb:j<b.length):ou f a b (D.take (k+1)) s=f j a[j] b[j] (ou f a b (D.take k) s):=by
 rw[aa9,aa1 hk,ou,ac4,hj]
 simp[aa1 ha,aa1 hb,ou]
theorem Ox(x y:UInt8):decide ((x.toNat:Int)=(y.toNat:Int))=decide (x=y):=by
 by_cases h:x=y
 ·subst h;simp
 ·have:x.toNat≠y.toNat:=fun e=>h (UInt8.toNat_inj.1 e)
  simp[h];omega
theorem Av{a b:List UInt8}(h:a.length=b.length)(hn:a.length≤1099511627776):Sh.cQ a b=some (je a b a.length):=by
 have key:=bY (body:=fun(s:List Int×Int)=>Sh.aV a b s.1 s.2) a.length (fun i D=>(D,(i:Int))) (fun i D=>D=je a b i) (fun g=>g = .inl (je a b a.length))
  (by
   intro i D hi hI
   subst hI
   refine .inl ⟨_,?_,rfl⟩
   have hb:i<b.length:=ac_
   have hl:=nG h i ac_
   simp only[Sh.aV,bT,hi,decide_true,abw,aX hi,aX hb,aaG,Ox]
   rw[oZ hi hb]
   by_cases e:a[i]=b[i]
   ·simp only[e,decide_true,abK,abt,aQ,Sh.cX,gq hi ac_,if_true]
   ·simp only[e,decide_false,ac7,abw,Sh.cX,gq hi ac_,if_false,cI (l:=je a b i) (m:=[(i:Int)]) (bytes:=8) (by simp;omega) (by simp;omega),aaG,aQ])
  (by
   intro D hI
   subst hI
   exact⟨_,by simp[Sh.aV],rfl⟩) a.length 0 [] ac_ rfl
 obtain⟨g,hg,e⟩:=key
 subst e
 unfold Sh.cQ
 exact bI hg rfl
theorem Ax{a b:List aj}(h:a.length=b.length)(hn:a.length≤1099511627776):Sh.hB a b=some (je a b a.length):=by
 have key:=bY (body:=fun(s:List Int×Int)=>Sh.dD a b s.1 s.2) a.length (fun i D=>(D,(i:Int))) (fun i D=>D=je a b i) (fun g=>g = .inl (je a b a.length))
  (by
   intro i D hi hI
   subst hI
   refine .inl ⟨_,?_,rfl⟩
   have hb:i<b.length:=ac_
   have hl:=nG h i ac_
   simp only[Sh.dD,bT,hi,decide_true,abw,aX hi,aX hb,aaG]
   rw[oZ hi hb]
   by_cases e:a[i]=b[i]
   ·simp only[e,decide_true,abK,abt,aQ,Sh.hZ,gq hi ac_,if_true]
   ·simp only[e,decide_false,ac7,abw,Sh.hZ,gq hi ac_,if_false,cI (l:=je a b i) (m:=[(i:Int)]) (bytes:=8) (by simp;omega) (by simp;omega),aaG,aQ])
  (by
   intro D hI
   subst hI
   exact⟨_,by simp[Sh.dD],rfl⟩) a.length 0 [] ac_ rfl
 obtain⟨g,hg,e⟩:=key
 subst e
 unfold Sh.hB
 exact bI hg rfl
theorem Aw{a b:List bn}(h:a.length=b.length)(hn:a.length≤1099511627776):Sh.hU a b=some (je a b a.length):=by
 have key:=bY (body:=fun(s:List Int×Int)=>Sh.dV a b s.1 s.2) a.length (fun i D=>(D,(i:Int))) (fun i D=>D=je a b i) (fun g=>g = .inl (je a b a.length))
  (by
   intro i D hi hI
   subst hI
   refine .inl ⟨_,?_,rfl⟩
   have hb:i<b.length:=ac_
   have hl:=nG h i ac_
   simp only[Sh.dV,bT,hi,decide_true,abw,aX hi,aX hb,aaG]
   rw[oZ hi hb]
   by_cases e:a[i]=b[i]
   ·simp only[e,decide_true,abK,abt,aQ,Sh.iX,gq hi ac_,if_true]
   ·simp only[e,decide_false,ac7,abw,Sh.iX,gq hi ac_,if_false,cI (l:=je a b i) (m:=[(i:Int)]) (bytes:=8) (by simp;omega) (by simp;omega),aaG,aQ])
  (by
   intro D hI
   subst hI
   exact⟨_,by simp[Sh.dV],rfl⟩) a.length 0 [] ac_ rfl
 obtain⟨g,hg,e⟩:=key
 subst e
 unfold Sh.hU
 exact bI hg rfl
def ext(t:Int)(i:Nat)(x y:UInt8)(P:List b9):List b9:=match P.getLast? with
 | some p=>if p.from_+(p.old.length:Int)=(i:Int)then P.dropLast ++ [⟨p.table,p.from_,p.old ++ [x],p.new ++ [y]⟩]else P ++ [⟨t,(i:Int),[x],[y]⟩]
 | none=>P ++ [⟨t,(i:Int),[x],[y]⟩]
def grow(t:Int)(a b:List UInt8):Nat→List b9:=jo (ext t) a b []
theorem tA(t:Int)(i:Nat)(x y:UInt8):ext t i x y [] = [⟨t,(i:Int),[x],[y]⟩]:=rfl
theorem jT(t:Int)(i:Nat)(x y:UInt8)(Q:List b9)(p:b9):ext t i x y (Q ++ [p])=if p.from_+(p.old.length:Int)=(i:Int)then Q ++ [⟨p.table,p.from_,p.old ++ [x],p.new ++ [y]⟩]else Q ++ [p] ++ [⟨t,(i:Int),[x],[y]⟩]:=by
 simp[ext]
theorem oJ{X:Type}(l:List X):l = [] ∨ ∃ q x,l=q ++ [x]:=by
 rcases List.eq_nil_or_concat l with h|⟨q,x,h⟩
 ·exact .inl h
 ·exact .inr ⟨q,x,by simpa using h⟩
structure FC(t:Int)(i:Nat)(P:List b9):Prop where
 few:P.length≤i
 each:∀ p∈P,p.table=t∧0≤p.from_∧p.from_+(p.old.length:Int)≤(i:Int)∧p.new.length=p.old.length
theorem VO{t:Int}{i j:Nat}{x y:UInt8}{P:List b9}(h:FC t i P)(hj:i≤j):FC t (j+1) (ext t j x y P):=by
 obtain⟨h1,h2⟩:=h
 rcases oJ P with rfl|⟨Q,p,rfl⟩
 ·rw[tA]
  refine⟨by simp,?_⟩
  intro q hq
  simp at hq;subst hq
  simp
 ·rw[jT]
  simp only[abT,abm,abV]at h1
  have hp:=h2 p (by simp)
  split
  ·refine⟨by simp;omega,?_⟩
   intro q hq
   rcases aaF.1 hq with hq|hq
   ·obtain⟨a1,a2,a3,a4⟩:=h2 q (by simp[hq]);exact⟨a1,a2,ac_,a4⟩
   ·simp at hq;subst hq;simp;refine⟨hp.1,hp.2.1,ac_,hp.2.2.2⟩
  ·refine⟨by simp;omega,?_⟩
   intro q hq
   rcases aaF.1 hq with hq|hq
   ·obtain⟨a1,a2,a3,a4⟩:=h2 q hq;exact⟨a1,a2,ac_,a4⟩
   ·simp at hq;subst hq;simp
theorem FC.mono{t:Int}{i j:Nat}{P:List b9}(h:FC t i P)(hj:i≤j):FC t j P:=⟨by have:=h.few;omega,fun p hp=>by obtain⟨a1,a2,a3,a4⟩:=h.each p hp;exact⟨a1,a2,ac_,a4⟩⟩
theorem mI(t:Int){a b:List UInt8}(h:a.length=b.length):∀ n,n≤a.length→FC t n (grow t a b n):=by
 intro n
 induction n with
 | zero=>intro _;exact⟨aal _,fun p hp=>by cases hp⟩
 | succ n ih =>
  intro hn
  unfold grow
  rw[gD _ ac_ ac_]
  split
  ·exact(ih ac_).mono ac_
  ·exact VO (ih ac_) (aal _)
end Go.Sp
end
section
namespace Go.Sp
open Go Go.Fw Go.Fx Go.Proofs
theorem PR{X:Type}(Q:List X)(p:X)(h:Q.length≤4611686018427387904):IntKind.i64.wrap (((Q ++ [p]).length:Int)-1)=(Q.length:Int):=by
 have e:((Q ++ [p]).length:Int)-1=(Q.length:Int):=by simp
 rw[e];exact jc ac_
theorem U7{X:Type}(Q:List X)(p:X):decide ((Q.length:Int)=((Q ++ [p]).length:Int)-1)=true:=by simp
theorem PQ{X:Type}(Q:List X)(p:X):Fx.get (Q ++ [p]) (Q.length:Int)=some p:=by simp[Fx.get]
theorem U8{X:Type}(Q:List X)(p q:X):(Q ++ [p]).set ((Q.length:Int)).toNat q=Q ++ [q]:=by simp
theorem Xa{X:Type}(Q:List X):decide (0≤(Q.length:Int))=true:=by simp
structure Wk(n k:Nat)(P:List b9):Prop where
 few:P.length≤k
 each:∀ p∈P,(0≤p.from_∧p.from_≤(n:Int))∧p.old.length≤k∧p.new.length≤k
theorem W8{t:Int}{n k j:Nat}{x y:UInt8}{P:List b9}(h:Wk n k P)(hj:j≤n):Wk n (k+1) (ext t j x y P):=by
 obtain⟨h1,h2⟩:=h
 rcases oJ P with rfl|⟨Q,p,rfl⟩
 ·rw[tA]
  exact⟨by simp,fun q hq=>by simp at hq;subst hq;simp;omega⟩
 ·rw[jT]
  simp only[abT,abm,abV]at h1
  have hp:=h2 p (by simp)
  split
  ·refine⟨by simp;omega,?_⟩
   intro q hq
   rcases aaF.1 hq with hq|hq
   ·have:=h2 q (by simp[hq]);exact⟨this.1,ac_,ac_⟩
   ·simp at hq;subst hq;simp;exact⟨hp.1,ac_,ac_⟩
  ·refine⟨by simp;omega,?_⟩
   intro q hq
   rcases aaF.1 hq with hq|hq
   ·have:=h2 q hq;exact⟨this.1,ac_,ac_⟩
   ·simp at hq;subst hq;simp;omega
def ye{X:Type}:List X→Bool
 | []=>false
 | _::_=>true
theorem tU{X:Type}(Q:List X)(p:X):ye (Q ++ [p])=true:=by cases Q<;>rfl
theorem S4(t:Int)(i:Nat)(x y:UInt8)(P:List b9):ye (ext t i x y P)=true:=by
 rcases oJ P with rfl|⟨Q,p,rfl⟩
 ·rfl
 ·rw[jT];split
  ·exact tU _ _
  ·exact tU _ _
theorem D8(t:Int){a b:List UInt8}(h:a.length=b.length)(hn:a.length≤1099511627776):Sh.sF t a b=some (grow t a b a.length):=by
 have hD:=nG h a.length (aal _)
 have hK:=fun k hk=>vA (a:=a) (b:=b) h (k:=k) hk
 have hF:=vC (ext t) (a:=a) (b:=b) [] h a.length (aal _)
 generalize hd:je a b a.length=D at hD hF hK
 have key:=bY (body:=fun(s:Int×List b9×Bool)=>Sh.mM t a b D s.1 s.2.1 s.2.2) D.length (fun k P=>((k:Int),P,ye P)) (fun k P=>P=ou (ext t) a b (D.take k) []∧Wk a.length k P) (fun g=>∃ s,g = .inl (grow t a b a.length,s))
  (by
   intro k P hk ⟨hP,hW⟩
   obtain⟨j,ej,ja,jb⟩:=hK k hk
   refine .inl ⟨ext t j a[j] b[j] P,?_,by rw[hP,xO (ext t) [] hk ej ja jb],W8 hW ac_⟩
   have hf:=hW.few
   simp only[Sh.mM,bT,hk,decide_true,abw,aX hk,aaG,ej,S4]
   rcases oJ P with e|⟨Q,p,e⟩
   ·clear hP hW
    subst e
    have e0:decide (0≤IntKind.i64.wrap (((([]:List b9).length:Nat):Int)-1))=false:=by
     rw[jc (by simp)];simp
    simp only[e0,abt,aQ,Sh.mL,aX ja,aX jb,aaG,cI (l:=([]:List b9)) (m:=[b9.mk t (j:Int) [a[j]] [b[j]]]) (bytes:=64) (by simp) (by simp),Sh.mK,gq hk ac_,abA,tA]
   ·have hp:=hW.each p (by rw[e];simp)
    clear hP
    subst e
    simp only[abT,abm,abV]at hf
    have hQ:Q.length≤4611686018427387904:=ac_
    have ew:IntKind.i64.wrap (p.from_+(p.old.length:Int))=p.from_+(p.old.length:Int):=jc ac_
    simp only[PR Q p hQ,Xa,abw,PQ,aaG,aQ,ew,jT,tU]
    by_cases hc:p.from_+(p.old.length:Int)=(j:Int)
    ·simp only[hc,decide_true,Sh.mL,abw,PR Q p hQ,PQ,aaG,aX ja,aX jb,U7,Fx.must,U8,if_true,
      cI (l:=p.old) (m:=[a[j]]) (bytes:=1) (by simp;omega) (by simp;omega),cI (l:=p.new) (m:=[b[j]]) (bytes:=1) (by simp;omega) (by simp;omega),aQ,Sh.vW,Sh.mK,gq hk ac_]
    ·simp only[hc,decide_false,Sh.mL,abt,aX ja,aX jb,aaG,if_false,cI (l:=Q ++ [p]) (m:=[b9.mk t (j:Int) [a[j]] [b[j]]]) (bytes:=64) (by simp;omega) (by simp;omega),aQ,Sh.mK,gq hk ac_])
  (by
   intro P ⟨hP,hW⟩
   rw[aby,hF]at hP
   exact⟨.inl (P,ye P),by simp[Sh.mM],ye P,by rw[hP];rfl⟩) D.length 0 [] ac_ ⟨by simp[ou],⟨aal _,fun p hp=>by cases hp⟩⟩
 obtain⟨g,hg,s,e⟩:=key
 subst e
 unfold Sh.sF
 rw[Av h hn,aaG,hd]
 exact bI hg rfl
end Go.Sp
end
section
namespace Go.Sp
open Go Go.Fw Go.Fx Go.Proofs
structure oM(x:br):Prop where
 cq:x.cq.length≤1099511627776
 ah:x.ah.length≤1099511627776
 each:∀ t∈x.ah,t.length≤1099511627776
 a7:x.a7.length≤1099511627776
def iG(x:br):Prop:=(0≤x.at_∧x.at_≤4095)∧(0≤x.steps∧x.steps≤4294967296)∧B9 ⟨x.cq,x.ah⟩
theorem jX(x:br):p_ (Sh.iD x) (iG x):=by
 unfold Sh.iD iG B9
 simp only[dO,aaG]
 by_cases c1:0≤x.at_∧x.at_≤4095
 ·by_cases c2:0≤x.steps∧x.steps≤4294967296
  ·rw[aaV c1,aaV c2]
   simp only[abw]
   by_cases c3:x.cq.length≤65535
   ·have d3:decide ((65535:Int)<(x.cq.length:Int))=false:=aaW ac_
    by_cases c4:x.ah.length≤8
    ·have d4:decide ((x.ah.length:Int)≤8)=true:=aaV ac_
     simp only[d3,aQ,Sh.hN,ac7,abw,d4]
     obtain⟨g,e1,e2⟩:=bY (body:=fun(v:Int)=>Sh.hQ x v) x.ah.length (fun k (a:Unit)=>(k:Int)) (fun k a=>∀ j,j<k → ∀ h:j<x.ah.length,(x.ah[j]).length≤65535)
      (fun g=>(g=inl () ∧ ∀ t∈x.ah,t.length≤65535)∨(∃ k:Nat,g=inr (inl (k:Int))) ∧ ¬ ∀ t∈x.ah,t.length≤65535)
      (fun k a hk hI=>by
       simp only[Sh.hQ,bT,hk,decide_true,abw,aX hk,aaG,aQ,Sh.pA]
       by_cases c3:(x.ah[k]).length≤65535
       ·left
        have d3:decide ((65535:Int)<((x.ah[k]).length:Int))=false:=aaW ac_
        refine⟨(),by rw[d3,abt,gq hk ac_],fun j hj h=>?_⟩
        by_cases e:j=k
        ·subst e;exact c3
        ·exact hI j ac_ h
       ·right
        have d3:decide ((65535:Int)<((x.ah[k]).length:Int))=true:=aaV ac_
        exact⟨_,by rw[d3,abw],.inr ⟨⟨k,rfl⟩,fun h=>c3 (h _ (abd hk))⟩⟩)
      (fun a hI=>⟨inl (),by simp[Sh.hQ],.inl ⟨rfl,oO.1 hI⟩⟩) x.ah.length 0 () ac_ (fun j hj=>by omega)
     rw[show Fx.loop (fun Fh=>Sh.hQ x Fh) 0=some g from e1]
     rcases e2 with⟨rfl,ha⟩|⟨⟨k,rfl⟩,ha⟩
     ·exact⟨true,rfl,by simp only[true_iff];exact⟨c1,c2,c3,c4,ha⟩⟩
     ·refine⟨false,?_,by simp only[abq,false_iff];exact fun h=>ha h.2.2.2.2⟩
      have dk:decide (0≤(k:Int))=true:=aaV ac_
      simp only[mZ,aQ,Sh.oZ,dk,Sh.oY,Sh.hP,Sh.hM,Sh.hO,abK]
    ·have d4:decide ((x.ah.length:Int)≤8)=false:=aaW ac_
     exact⟨false,by simp only[d3,aQ,Sh.hN,ac7,abw,d4,abt,Sh.hP,Sh.hM,Sh.hO],by simp only[abq,false_iff];exact fun h=>c4 h.2.2.2.1⟩
   ·have d3:decide ((65535:Int)<(x.cq.length:Int))=true:=aaV ac_
    exact⟨false,by simp only[d3,aQ,Sh.hN,abK,abt,Sh.hP,Sh.hM,Sh.hO],by simp only[abq,false_iff];exact fun h=>c3 h.2.2.1⟩
  ·rw[aaV c1,aaW c2]
   exact⟨false,rfl,by simp only[abq,false_iff];exact fun h=>c2 h.2.1⟩
 ·rw[aaW c1]
  exact⟨false,rfl,by simp only[abq,false_iff];exact fun h=>c1 h.1⟩
def uj(x y:br):Prop:=∀ i,i<x.ah.length → ∀ (h:i<x.ah.length) (k:i<y.ah.length),(x.ah[i]).length=(y.ah[i]).length
def GR(x y:br):Prop:=∀ i,i<x.a7.length → ∀ (h:i<x.a7.length) (k:i<y.a7.length),x.a7[i]=y.a7[i]
structure Gz(x y:br):Prop where
 tP:x.done=false
 steps:y.steps=IntKind.i64.wrap (x.steps+1)
 cq:x.cq.length=y.cq.length
 ah:x.ah.length=y.ah.length
 lens:uj x y
 BJ:x.a7.length≤y.a7.length
 BK:y.a7.length≤x.a7.length+1
 a7:GR x y
theorem PE(x y:br)(hx:oM x)(hy:oM y):p_ (Sh.wI x y) (Gz x y):=by
 have no:∀ P:Prop,(P→False)→p_ (some false) P:=fun P h=>⟨false,rfl,by simp only[abq,false_iff];exact h⟩
 unfold Sh.wI
 cases c1:x.done
 case true=>exact no _ fun h=>by have:=h.tP;rw[c1]at this;cases this
 simp only[abt]
 by_cases c2:y.steps=IntKind.i64.wrap (x.steps+1)
 case neg=>rw[aaW c2];exact no _ fun h=>c2 h.steps
 rw[aaV c2]
 simp only[abK,abt]
 by_cases c3:x.cq.length=y.cq.length
 case neg=>rw[aaW ac_];exact no _ fun h=>c3 h.cq
 rw[aaV ac_]
 simp only[abK,abt]
 by_cases c4:x.ah.length=y.ah.length
 case neg=>rw[aaW ac_];exact no _ fun h=>c4 h.ah
 rw[aaV ac_]
 simp only[abK,aQ,Sh.vP,abt]
 have hxt:=hx.ah
 have hxs:=hx.a7
 have hys:=hy.a7
 obtain⟨g,e1,e2⟩:=scan (body:=fun(v:Int)=>Sh.mE x y v) (ok:=inl ()) (bad:=inr false) x.ah.length (fun i=>∀ (h:i<x.ah.length) (k:i<y.ah.length),(x.ah[i]).length=(y.ah[i]).length) ac_ (fun i hi=>by
  have hj:i<y.ah.length:=ac_
  simp only[Sh.mE,bT,hi,decide_true,abw,aX hi,aX hj,aaG]
  by_cases c:(x.ah[i]).length=(y.ah[i]).length
  ·exact .inl ⟨fun _ _=>c,by rw[aaV ac_];rfl⟩
  ·exact .inr ⟨fun h=>c (h trivial hj),by rw[aaW ac_];rfl⟩) (by simp[Sh.mE])
 rw[show Fx.loop (fun Ov=>Sh.mE x y Ov) 0=some g from e1]
 rcases e2 with⟨rfl,c5⟩|⟨rfl,c5⟩
 case inr=>exact no _ fun h=>c5 h.lens
 simp only[aQ,Sh.vQ,dO,aaG]
 have ew:IntKind.i64.wrap ((y.a7.length:Int)-(x.a7.length:Int))=(y.a7.length:Int)-(x.a7.length:Int):=jc ac_
 rw[ew]
 by_cases c6:x.a7.length≤y.a7.length∧y.a7.length≤x.a7.length+1
 case neg=>rw[aaW ac_];exact no _ fun h=>c6 ⟨h.BJ,h.BK⟩
 rw[aaV ac_]
 have es:Fx.ny y.a7 0 (x.a7.length:Int)=some (y.a7.take x.a7.length):=by
  unfold Fx.ny
  rw[aay ac_]
  simp
 have el:((y.a7.take x.a7.length).length:Int)=(x.a7.length:Int):=by simp;omega
 simp only[abw,es,aaG,el,decide_true,abK,abt]
 obtain⟨g,e1,e2⟩:=scan (body:=fun(v:Int)=>Sh.mF x (y.a7.take x.a7.length) v) (ok:=inl ()) (bad:=inr (inl false)) x.a7.length (fun i=>∀ (h:i<x.a7.length) (k:i<y.a7.length),x.a7[i]=y.a7[i]) ac_ (fun i hi=>by
  have hj:i<y.a7.length:=ac_
  have hk:i<(y.a7.take x.a7.length).length:=ac_
  simp only[Sh.mF,bT,hi,decide_true,abw,aX hi,aX hk,aaG,List.getElem_take]
  by_cases c:x.a7[i]=y.a7[i]
  ·exact .inl ⟨fun _ _=>c,by rw[aaV c];rfl⟩
  ·exact .inr ⟨fun h=>c (h trivial hj),by rw[aaW c];rfl⟩) (by simp[Sh.mF])
 rw[show Fx.loop (fun BO=>Sh.mF x (y.a7.take x.a7.length) BO) 0=some g from e1]
 rcases e2 with⟨rfl,c7⟩|⟨rfl,c7⟩
 ·exact⟨true,rfl,by simp only[true_iff];exact⟨c1,c2,c3,c4,c5,c6.1,c6.2,c7⟩⟩
 ·exact no _ fun h=>c7 h.a7
def oH(i:Nat)(a b:aj)(T:List dM):List dM:=T ++ [⟨(i:Int),a,b⟩]
def o6(i:Nat)(a b:bn)(T:List d_):List d_:=T ++ [⟨(i:Int),a,b⟩]
theorem pS{X Y:Type}[DecidableEq X]{f:Nat→X→X→List Y→List Y}(hf:∀ i a b T,(f i a b T).length≤T.length+1){a b:List X}(h:a.length=b.length):∀ n,n≤a.length→(jo f a b [] n).length≤n:=by
 intro n
 induction n with
 | zero=>intro _;exact aal _
 | succ n ih =>
  intro hn
  rw[gD f ac_ ac_]
  have:=ih ac_
  split
  ·omega
  ·exact aam (hf _ _ _ _) ac_
theorem V4(x y:br):Fx.loop (fun(v:List dM×Int)=>Sh.kI x y (je x.a8.l y.a8.l x.a8.l.length) v.1 v.2) ([],0)=some (.inl (jo oH x.a8.l y.a8.l [] 11)):=by
 have h:x.a8.l.length=y.a8.l.length:=by rw[x.a8.len,y.a8.len]
 have h11:=x.a8.len
 have hD:=nG h x.a8.l.length (aal _)
 have hK:=fun k hk=>vA h (k:=k) hk
 have hF:=vC oH [] h x.a8.l.length (aal _)
 generalize hd:je x.a8.l y.a8.l x.a8.l.length=D at hD hK hF
 obtain⟨g,hg,e⟩:=bY (body:=fun(v:List dM×Int)=>Sh.kI x y D v.1 v.2) D.length (fun k T=>(T,(k:Int))) (fun k T=>T=ou oH x.a8.l y.a8.l (D.take k) []∧T.length≤k) (fun g=>g = .inl (jo oH x.a8.l y.a8.l [] x.a8.l.length))
  (by
   intro k T hk ⟨hT,hl⟩
   obtain⟨j,ej,ja,jb⟩:=hK k hk
   refine .inl ⟨oH j x.a8.l[j] y.a8.l[j] T,?_,by rw[hT,xO oH [] hk ej ja jb],by simp[oH];omega⟩
   simp only[Sh.kI,bT,hk,decide_true,abw,aX hk,aaG,ej,aX ja,aX jb,cI (l:=T) (m:=[dM.mk (j:Int) x.a8.l[j] y.a8.l[j]]) (bytes:=72) (by simp;omega) (by simp;omega),gq hk ac_,oH])
  (by
   intro T ⟨hT,hl⟩
   rw[aby,hF]at hT
   exact⟨.inl T,by simp[Sh.kI],by rw[hT]⟩) D.length 0 [] ac_ ⟨by simp[ou],aal _⟩
 subst e
 rw[h11]at hg
 exact hg
theorem UZ(x y:br)(T:List dM):Fx.loop (fun(v:List dM×List d_×Int)=>Sh.kJ x y (je x.bh.l y.bh.l x.bh.l.length) v.1 v.2.1 v.2.2) (T,[],0)=some (.inl (T,jo o6 x.bh.l y.bh.l [] 32)):=by
 have h:x.bh.l.length=y.bh.l.length:=by rw[x.bh.len,y.bh.len]
 have h11:=x.bh.len
 have hD:=nG h x.bh.l.length (aal _)
 have hK:=fun k hk=>vA h (k:=k) hk
 have hF:=vC o6 [] h x.bh.l.length (aal _)
 generalize hd:je x.bh.l y.bh.l x.bh.l.length=D at hD hK hF
 obtain⟨g,hg,e⟩:=bY (body:=fun(v:List dM×List d_×Int)=>Sh.kJ x y D v.1 v.2.1 v.2.2) D.length (fun k C=>(T,C,(k:Int))) (fun k C=>C=ou o6 x.bh.l y.bh.l (D.take k) []∧C.length≤k) (fun g=>g = .inl (T,jo o6 x.bh.l y.bh.l [] x.bh.l.length))
  (by
   intro k C hk ⟨hT,hl⟩
   obtain⟨j,ej,ja,jb⟩:=hK k hk
   refine .inl ⟨o6 j x.bh.l[j] y.bh.l[j] C,?_,by rw[hT,xO o6 [] hk ej ja jb],by simp[o6];omega⟩
   simp only[Sh.kJ,bT,hk,decide_true,abw,aX hk,aaG,ej,aX ja,aX jb,cI (l:=C) (m:=[d_.mk (j:Int) x.bh.l[j] y.bh.l[j]]) (bytes:=104) (by simp;omega) (by simp;omega),gq hk ac_,o6])
  (by
   intro C ⟨hT,hl⟩
   rw[aby,hF]at hT
   exact⟨.inl (T,C),by simp[Sh.kJ],by rw[hT]⟩) D.length 0 [] ac_ ⟨by simp[ou],aal _⟩
 subst e
 rw[h11]at hg
 exact hg
def tabs(A B:List (List UInt8))(P:List b9):Nat→List b9
 | 0=>P
 | k+1=>match A[k]?,B[k]? with
  | some a,some b=>tabs A B P k++grow (k:Int) a b a.length
  | _,_=>tabs A B P k
theorem xA{A B:List (List UInt8)}(P:List b9){k:Nat}(ha:k<A.length)(hb:k<B.length):tabs A B P (k+1)=tabs A B P k++grow (k:Int) A[k] B[k] (A[k]).length:=by
 simp only[tabs,aa1 ha,aa1 hb]
theorem xB{A B:List (List UInt8)}{P:List b9}(hl:A.length=B.length)(he:∀ i (h:i<A.length) (k:i<B.length),(A[i]).length=(B[i]).length)(hA:∀ t∈A,t.length≤65535):∀ k,k≤A.length→(tabs A B P k).length≤P.length+65535*k:=by
 intro k
 induction k with
 | zero=>intro _;simp[tabs]
 | succ k ih =>
  intro hk
  have ha:k<A.length:=ac_
  have hb:k<B.length:=ac_
  rw[xA P ha hb,abT]
  have h1:=ih ac_
  have h2:=(mI (k:Int) (he k ha hb) (A[k]).length (aal _)).few
  have h3:=hA _ (abd ha)
  omega
section
variable {x y:br}(hl:x.ah.length=y.ah.length)(he:uj x y)(hi:B9 ⟨x.cq,x.ah⟩){P:List b9}(hP:P.length≤65535)
include hl he hi hP
theorem VK(T:List dM)(C:List d_):Fx.loop (fun(v:List dM×List d_×List b9×Int)=>Sh.kK x y v.1 v.2.1 v.2.2.1 v.2.2.2) (T,C,P,0)=some (.inl (T,C,tabs x.ah y.ah P x.ah.length)):=by
 obtain⟨h1,h2,h3⟩:=hi
 simp only at h1 h2 h3
 have hb:=xB (P:=P) hl (fun i h k=>he i h h k) h3
 obtain⟨g,hg,e⟩:=bY (body:=fun(v:List dM×List d_×List b9×Int)=>Sh.kK x y v.1 v.2.1 v.2.2.1 v.2.2.2) x.ah.length (fun i P'=>(T,C,P',(i:Int))) (fun i P'=>P' = tabs x.ah y.ah P i) (fun g=>g = .inl (T,C,tabs x.ah y.ah P x.ah.length))
  (by
   intro i P' ia hT
   have ib:i<y.ah.length:=ac_
   refine .inl ⟨_,?_,rfl⟩
   have hl:=hb i ac_
   rw[←hT]at hl
   have hA:=h3 _ (abd ia)
   have hg:=(mI (i:Int) (he i ia ia ib) (x.ah[i]).length (aal _)).few
   rw[xA P ia ib,←hT]
   simp only[Sh.kK,bT,ia,decide_true,abw,aX ia,aX ib,aaG,D8 (i:Int) (he i ia ia ib) ac_,cI (l:=P') (m:=grow (i:Int) x.ah[i] y.ah[i] (x.ah[i]).length) (bytes:=64) ac_ ac_,gq ia ac_])
  (by
   intro P' hT
   exact⟨.inl (T,C,P'),by simp[Sh.kK],by rw[hT]⟩) x.ah.length 0 P ac_ rfl
 subst e
 exact hg
end
def jq(x y:br):dw:=⟨x.at_,y.at_,y.done,jo oH x.a8.l y.a8.l [] 11,jo o6 x.bh.l y.bh.l [] 32,tabs x.ah y.ah (grow (-1) x.cq y.cq x.cq.length) x.ah.length,y.a7.drop x.a7.length⟩
def noMark:dw:=⟨0,0,false,[],[],[],[]⟩
theorem S_{x y:br}(h1:x.a7.length≤y.a7.length)(h2:y.a7.length≤x.a7.length+1):(Fx.ny y.a7 (x.a7.length:Int) (y.a7.length:Int)).bind (fun z=>Fx.app 8 [] z)=some (y.a7.drop x.a7.length):=by
 unfold Fx.ny
 rw[aay ac_]
 simp only[aaG,abe]
 rw[abW (by simp),cI (by simp;omega) (by simp;omega)]
 rfl
theorem TN{x y:br}(hx:oM x)(hy:oM y):(iG x→iG y→Gz x y→Sh.eW x y=some (jq x y,0))∧(iG x→iG y → ¬ Gz x y→Sh.eW x y=some (noMark,231))∧(¬ (iG x∧iG y)→Sh.eW x y=some (noMark,1)):=by
 refine⟨fun p q hb=>?_,fun p q hb=>?_,fun h=>?_⟩
 ·unfold Sh.eW
  simp only[(jX x).true p,(jX y).true q,aaG,abK,abt,aQ,Sh.nA,(PE x y hx hy).true hb]
  have hr:x.a8.l.length=y.a8.l.length:=by rw[x.a8.len,y.a8.len]
  have hs:x.bh.l.length=y.bh.l.length:=by rw[x.bh.len,y.bh.len]
  rw[Ax hr (by rw[x.a8.len];decide),aaG,show Fx.loop (fun(v:List dM×Int)=>match v with|(Js,Jt)=>Sh.kI x y (je x.a8.l y.a8.l x.a8.l.length) Js Jt) ([],0)=_ from V4 x y]
  simp only[aQ,Sh.aE9]
  rw[Aw hs (by rw[x.bh.len];decide),aaG,show Fx.loop (fun(v:List dM×List d_×Int)=>match v with|(Ju,Jv,Jw)=>Sh.kJ x y (je x.bh.l y.bh.l x.bh.l.length) Ju Jv Jw) (jo oH x.a8.l y.a8.l [] 11,[],0)=_ from UZ x y _]
  simp only[aQ,Sh.yX]
  have hc:=p.2.2.1
  simp only at hc
  have hg:=(mI (-1) hb.cq x.cq.length (aal _)).few
  rw[D8 (-1) hb.cq hx.cq,aaG,show Fx.loop (fun(v:List dM×List d_×List b9×Int)=>match v with|(JD,JE,JF,BO)=>Sh.kK x y JD JE JF BO) (jo oH x.a8.l y.a8.l [] 11,jo o6 x.bh.l y.bh.l [] 32,grow (-1) x.cq y.cq x.cq.length,0)=_ from VK hb.ah hb.lens p.2.2 (aam hg hc) _ _]
  simp only[aQ,Sh.yY]
  obtain⟨z,hz,e⟩:=acx.1 (S_ hb.BJ hb.BK)
  rw[hz,aaG,e,aaG]
  rfl
 ·unfold Sh.eW
  simp only[(jX x).true p,(jX y).true q,aaG,abK,abt,aQ,Sh.nA,(PE x y hx hy).false hb,ac7,abw]
  rfl
 ·unfold Sh.eW
  by_cases p:iG x
  ·have q:¬ iG y:=fun q=>h ⟨p,q⟩
   simp only[(jX x).true p,(jX y).false q,aaG,abK,ac7,abt,abw,aQ,Sh.nA]
   rfl
  ·simp only[(jX x).false p,aaG,ac7,abw,aQ,Sh.nA]
   rfl
end Go.Sp
end
section
namespace Go.Sp
open Go Go.Fw Go.Fx Go.Proofs
section
variable {X Y:Type}{key:Y→Nat}{val old:Y→X}
def pR(key:Y→Nat)(val:Y→X)(l:List X)(T:List Y):List X:=T.foldl (fun v t=>v.set (key t) (val t)) l
theorem nL{l:List X}{T:List Y}{j:Nat}(h:∀ t∈T,key t≠j):(pR key val l T)[j]? = l[j]?:=by
 unfold pR
 induction T generalizing l with
 | nil=>rfl
 | cons t T ih =>
  rw[ack,ih fun u hu=>h u (aaN _ hu),abG,aaz (h t (aaR ..))]
theorem yG{l:List X}{T:List Y}(hd:T.Pairwise (fun a b=>key a≠key b)){t:Y}(ht:t∈T)(hl:key t<l.length):(pR key val l T)[key t]? = some (val t):=by
 induction T generalizing l with
 | nil=>cases ht
 | cons u T ih =>
  rw[aaS]at hd
  have e:pR key val l (u::T)=pR key val (l.set (key u) (val u)) T:=rfl
  rw[e]
  rcases aaM.1 ht with rfl|ht
  ·rw[nL fun v hv=>(hd.1 v hv).symm,abG,aay rfl,aay hl]
  ·exact ih hd.2 ht (by rw[abv];exact hl)
end
section
variable {Y:Type}{key:Y→Int}
theorem Vp{T:List Y}{R:Y→Y→Prop}(tr:∀ a b c,R a b→R b c→R a c)(h:∀ i (k:0<i) (hi:i<T.length),R (T[i-1]'ac_) T[i]):T.Pairwise R:=by
 rw[aaO]
 intro i j hi hj hij
 induction j with
 | zero=>omega
 | succ j ih =>
  have h1:=h (j+1) ac_ hj
  simp only[Nat.add_sub_cancel]at h1
  by_cases c:i=j
  ·subst c;exact h1
  ·exact tr _ _ _ (ih ac_ ac_) h1
end
end Go.Sp
end
section
namespace Go.Sp
open Go Go.Fw Go.Fx Go.Proofs
abbrev kp(p:b9):Nat:=(p.table+1).toNat
abbrev fp(p:b9):Nat:=p.from_.toNat
abbrev wd(p:b9):Nat:=p.old.length
def bt(M:List (List UInt8))(k j:Nat):Option UInt8:=(M[k]?).bind (fun b=>b[j]?)
def x8(val:b9→List UInt8)(M:List (List UInt8))(p:b9):List (List UInt8):=M.set (kp p) (put (pk M (kp p)) (fp p) (val p))
def oo(val:b9→List UInt8)(M:List (List UInt8))(P:List b9):List (List UInt8):=P.foldl (x8 val) M
def jR(M:List (List UInt8))(p:b9):Prop:=∃ b,M[kp p]? = some b∧fp p+wd p≤b.length
def B8(p:b9)(k j:Nat):Prop:=kp p=k∧fp p≤j∧j<fp p+wd p
def n_(val:b9→List UInt8)(M:List (List UInt8))(p:b9):Prop:=∃ b,M[kp p]? = some b∧fp p+(val p).length≤b.length∧(b.drop (fp p)).take (val p).length=val p
theorem wK{α:Type}{l vs:List α}{i:Nat}(h:i+vs.length≤l.length):(put l i vs).length=l.length:=by simp[put];omega
theorem TG{α:Type}{l vs:List α}{i:Nat}(h:i+vs.length≤l.length)(j:Nat):(put l i vs)[j]? = if i≤j∧j<i+vs.length then vs[j-i]? else l[j]?:=by
 unfold put
 simp only[acy,abT,abn,aav,aaw]
 repeat' split
 all_goals first|rfl|omega|(congr 1;omega)|skip
theorem TM{M M':List (List UInt8)}(hl:M.map List.length=M'.map List.length)(h:∀ k j,bt M k j=bt M' k j):M=M':=by
 have e:M.length=M'.length:=by simpa using congrArg List.length hl
 apply aa6 
 intro k
 by_cases c:k<M.length
 ·rw[aa1 c,aa1 (e ▸ c)]
  congr 1
  apply aa6
  intro j
  have:=h k j
  simpa[bt,aa1 c,aa1 (e ▸ c)]using this
 ·rw[aaj ac_,aaj ac_]
theorem UR{M M':List (List UInt8)}(hl:M.map List.length=M'.map List.length){k:Nat}{b:List UInt8}(h:M[k]? = some b):∃ b',M'[k]? = some b' ∧ b'.length=b.length:=by
 have h1:(M.map List.length)[k]? = some b.length:=by rw[abE,h];rfl
 rw[hl,abE]at h1
 cases h2:M'[k]? with
 | none=>rw[h2]at h1;cases h1
 | some b'=>rw[h2]at h1;exact⟨b',rfl,by simpa using h1⟩
theorem K5{M:List (List UInt8)}{k:Nat}{b:List UInt8}(h:M[k]? = some b):pk M k=b:=by simp[pk,h]
section
variable {val:b9→List UInt8}{M:List (List UInt8)}{P:List b9}{p:b9}
theorem jR.shape{M':List (List UInt8)}(h:jR M p)(hl:M.map List.length=M'.map List.length):jR M' p:=by
 obtain⟨b,h1,h2⟩:=h
 obtain⟨b',h3,h4⟩:=UR hl h1
 exact⟨b',h3,ac_⟩
theorem sB(h:jR M p)(hv:(val p).length=wd p):(x8 val M p).map List.length=M.map List.length:=by
 obtain⟨b,h1,h2⟩:=h
 unfold x8
 rw[K5 h1,List.map_set,wK ac_]
 apply aa6
 intro j
 rw[abG]
 split
 ·rename_i e;subst e
  rw[abE,h1]
  have:=(aap.1 h1).1
  rw[aay (by simpa using this)];rfl
 ·rfl
theorem PX(h:jR M p)(hv:(val p).length=wd p)(k j:Nat):bt (x8 val M p) k j=if kp p=k∧fp p≤j∧j<fp p+wd p then(val p)[j-fp p]? else bt M k j:=by
 obtain⟨b,h1,h2⟩:=h
 have hk:=(aap.1 h1).1
 unfold x8 bt
 rw[K5 h1,abG]
 by_cases c:kp p=k
 ·subst c
  rw[aay rfl,aay hk,h1]
  show(put b (fp p) (val p))[j]? = _
  rw[TG ac_,hv]
  by_cases c2:fp p≤j∧j<fp p+wd p
  ·rw[aay c2,aay ⟨rfl,c2⟩]
  ·rw[aaz c2,aaz fun e=>c2 e.2];rfl
 ·rw[aaz c,aaz fun e=>c e.1]
theorem qO(h:∀ p∈P,jR M p)(hv:∀ p∈P,(val p).length=wd p):(oo val M P).map List.length=M.map List.length:=by
 unfold oo
 induction P generalizing M with
 | nil=>rfl
 | cons p P ih =>
  have e:=sB (h p (aaR ..)) (hv p (aaR ..))
  rw[ack,ih (fun q hq=>(h q (aaN _ hq)).shape e.symm) fun q hq=>hv q (aaN _ hq),e]
theorem pK(h:∀ p∈P,jR M p)(hv:∀ p∈P,(val p).length=wd p){k j:Nat}(hu:∀ p∈P,¬ B8 p k j):bt (oo val M P) k j=bt M k j:=by
 unfold oo
 induction P generalizing M with
 | nil=>rfl
 | cons p P ih =>
  have h1:=h p (aaR ..)
  have h2:=hv p (aaR ..)
  rw[ack,ih (fun q hq=>(h q (aaN _ hq)).shape (sB h1 h2).symm) (fun q hq=>hv q (aaN _ hq)) (fun q hq=>hu q (aaN _ hq)),PX h1 h2]
  exact aaz fun e=>hu p (aaR ..) e
def OH(p q:b9):Prop:=∀ k j,B8 p k j → ¬ B8 q k j
theorem xR(h:∀ p∈P,jR M p)(hv:∀ p∈P,(val p).length=wd p)(hd:P.Pairwise OH)(hp:p∈P){k j:Nat}(hc:B8 p k j):bt (oo val M P) k j=(val p)[j-fp p]?:=by
 induction P generalizing M with
 | nil=>cases hp
 | cons q P ih =>
  have h1:=h q (aaR ..)
  have h2:=hv q (aaR ..)
  have h3:∀ p∈P,jR (x8 val M q) p:=fun q' hq=>(h q' (aaN _ hq)).shape (sB h1 h2).symm
  have h4:∀ p∈P,(val p).length=wd p:=fun q' hq=>hv q' (aaN _ hq)
  rw[aaS]at hd
  have e:oo val M (q::P)=oo val (x8 val M q) P:=rfl
  rw[e]
  rcases aaM.1 hp with rfl|hp
  ·rw[pK h3 h4 fun u hu=>hd.1 u hu k j hc,PX h1 h2];exact aay hc
  ·exact ih h3 h4 hd.2 hp
theorem n_.room(h:n_ val M p)(hv:(val p).length=wd p):jR M p:=by
 obtain⟨b,h1,h2,h3⟩:=h;exact⟨b,h1,ac_⟩
theorem n_.bt(h:n_ val M p){k j:Nat}(hv:(val p).length=wd p)(hc:B8 p k j):bt M k j=(val p)[j-fp p]?:=by
 obtain⟨b,h1,h2,h3⟩:=h
 obtain⟨rfl,c2,c3⟩:=hc
 rw[←h3]
 simp only[Go.Sp.bt,h1,aaG,aav,aaw]
 rw[aay ac_]
 congr 1;omega
theorem n_.of(h:jR M p)(hv:(val p).length=wd p)(hb:∀ k j,B8 p k j→Go.Sp.bt M k j=(val p)[j-fp p]?):n_ val M p:=by
 obtain⟨b,h1,h2⟩:=h
 refine⟨b,h1,ac_,?_⟩
 apply aa6
 intro j
 rw[aav,aaw]
 split
 ·rename_i c
  have:=hb (kp p) (fp p+j) ⟨rfl,ac_,ac_⟩
  rw[show fp p+j-fp p=j by omega]at this
  simpa[Go.Sp.bt,h1]using this
 ·rename_i c;rw[aaj ac_]
end
section
variable {t:Int}{a b:List UInt8}
structure qj(t:Int)(a b:List UInt8)(p:b9):Prop where
 table:p.table=t
 lX:0≤p.from_
 pos:0<wd p
 room:fp p+wd p≤a.length
 eq:p.new.length=wd p
 df:Differ p.old p.new
 old:(a.drop (fp p)).take (wd p)=p.old
 new:(b.drop (fp p)).take (wd p)=p.new
theorem qj.ne{p:b9}(h:qj t a b p)(hl:a.length=b.length){k:Nat}(h1:fp p≤k)(h2:k<fp p+wd p):a[k]? ≠ b[k]?:=by
 have hw:wd p=p.old.length:=rfl
 have h3:=h.df (k-fp p) ac_
 have:=h.room
 have ha:k<a.length:=ac_
 have hb:k<b.length:=ac_
 intro e
 apply h3
 rw[←h.new,←h.old]
 simp only[List.getD,aav,aaw]
 rw[show fp p+(k-fp p)=k by omega,e]
end
end Go.Sp
end
section
namespace Go.Sp
open Go Go.Fw Go.Fx Go.Proofs
theorem kB{P:Prop}(h:P→False):p_ (some false) P:=⟨false,rfl,by simp only[abq,false_iff];exact h⟩
theorem S9{P:Prop}(h:P):p_ (some true) P:=⟨true,rfl,by simp only[true_iff];exact h⟩
structure ly(m:dw):Prop where
 at_:0≤m.at_∧m.at_≤4095
 next:0≤m.next∧m.next≤4095
 a7:m.a7.length≤1
 a8:vN m m.a8.length
 slots:tj m m.slots.length
 dy:su m.dy m.dy.length
theorem sN{m:dw}(h:oL m):p_ (Sh.cS m) (ly m):=by
 obtain⟨g1,e1,c1⟩:=J6 h.1
 obtain⟨g2,e2,c2⟩:=G6 h.2.1
 obtain⟨g3,e3,c3⟩:=SG h.2.2.1
 unfold Sh.cS
 simp only[dO,aaG]
 by_cases d1:0≤m.at_∧m.at_≤4095
 case neg =>
  rw[aaW d1]
  exact kB fun k=>d1 k.at_
 by_cases d2:0≤m.next∧m.next≤4095
 case neg =>
  rw[aaV d1,aaW d2]
  exact kB fun k=>d2 k.next
 by_cases d3:m.a7.length≤1
 case neg =>
  rw[aaV d1,aaV d2,aaV ac_]
  exact kB fun k=>d3 k.a7
 rw[aaV d1,aaV d2,aaW ac_]
 simp only[abK,abt,aQ,Sh.dE]
 rw[show Fx.loop (fun(v:Int×Int)=>match v with|(Jy,Jz)=>Sh.bL m Jy Jz) (0,-1)=some g1 from e1]
 rcases c1 with⟨rfl,d4⟩|⟨rfl,d4⟩
 case inr=>exact kB fun k=>d4 k.a8
 simp only[aQ,Sh.dF]
 rw[show Fx.loop (fun(v:Int×Int)=>match v with|(JG,JH)=>Sh.bM m JG JH) (-1,0)=some g2 from e2]
 rcases c2 with⟨rfl,d5⟩|⟨rfl,d5⟩
 case inr=>exact kB fun k=>d5 k.slots
 simp only[aQ,Sh.dG,Sh.eI]
 rw[show Fx.loop (fun(v:Int×Int×Int)=>match v with|(v1,v2,v3)=>Sh.aL m.dy v1 v2 v3) (0,-1,0)=some g3 from e3]
 rcases c3 with⟨rfl,d6⟩|⟨rfl,d6⟩
 case inr=>exact kB fun k=>d6 k.dy
 exact S9 ⟨d1,d2,d3,d4,d5,d6⟩
theorem ly.reg{m:dw}(h:ly m):∀ t∈m.a8,0≤t.reg∧t.reg≤10∧t.old≠t.new:=fun t ht=>by
 obtain⟨i,hi,rfl⟩:=abH.1 ht
 have:=h.a8 i hi hi
 exact⟨this.lo,this.hi,this.un⟩
theorem ly.slot{m:dw}(h:ly m):∀ t∈m.slots,0≤t.slot∧t.slot≤31∧t.old≠t.new:=fun t ht=>by
 obtain⟨i,hi,rfl⟩:=abH.1 ht
 have:=h.slots i hi hi
 exact⟨this.lo,this.hi,this.un⟩
structure wj(p:b9):Prop where
 lo : -1≤p.table
 hi:p.table≤7
 lX:0≤p.from_
 ne:0<wd p
 eq:p.new.length=wd p
 top:p.from_+(wd p:Int)≤65535
 df:Differ p.old p.new
theorem ly.piece{m:dw}(h:ly m):∀ p∈m.dy,wj p:=fun p hp=>by
 obtain⟨i,hi,rfl⟩:=abH.1 hp
 have:=h.dy i hi hi
 exact⟨this.lo,this.hi,this.lX,Nat.pos_of_ne_zero this.ne,this.eq,this.top,this.df⟩
def Behind(p q:b9):Prop:=p.table<q.table∨(p.table=q.table∧p.from_+(wd p:Int)<q.from_)
theorem ly.pieces_pw{m:dw}(h:ly m):m.dy.Pairwise Behind :=
 Vp (R:=Behind) (fun a b c h1 h2=>by unfold Behind at *; omega) fun i k hi=>(h.dy i hi hi).up k
theorem ly.apart{m:dw}(h:ly m):m.dy.Pairwise OH:=by
 refine List.Pairwise.imp_of_mem ?_ h.pieces_pw
 intro p q hp hq hb k j h1 h2
 have a:=h.piece p hp
 have b:=h.piece q hq
 obtain⟨c1,c2,c3⟩:=h1
 obtain⟨c4,c5,c6⟩:=h2
 have:=a.lo;have:=b.lo;have:=a.lX;have:=b.lX
 unfold Behind at hb
 simp only[kp,fp]at *
 omega
def yg(t:dM):dM:=⟨t.reg,t.new,t.old⟩
def yf(t:d_):d_:=⟨t.slot,t.new,t.old⟩
def sj(p:b9):b9:=⟨p.table,p.from_,p.new,p.old⟩
def turn(m:dw):dw:=⟨m.next,m.at_,false,m.a8.map yg,m.slots.map yf,m.dy.map sj,[]⟩
theorem Differ.symm{x y:List UInt8}(h:Differ x y)(hl:y.length=x.length):Differ y x:=fun i hi e=>h i ac_ e.symm
theorem ly.turn{m:dw}(h:ly m):ly (turn m):=by
 refine⟨h.next,h.at_,aau _,?_,?_,?_⟩
 ·intro i hi hi'
  have hj:i<m.a8.length:=by simpa[Sp.turn]using hi
  have:=h.a8 i hj hj
  refine⟨by simpa[Sp.turn,yg]using this.lo,by simpa[Sp.turn,yg]using this.hi,?_,fun k=>by simpa[Sp.turn,yg]using this.up k⟩
  have:=this.un
  simpa[Sp.turn,yg]using fun e=>this e.symm
 ·intro i hi hi'
  have hj:i<m.slots.length:=by simpa[Sp.turn]using hi
  have:=h.slots i hj hj
  refine⟨by simpa[Sp.turn,yf]using this.lo,by simpa[Sp.turn,yf]using this.hi,?_,fun k=>by simpa[Sp.turn,yf]using this.up k⟩
  have:=this.un
  simpa[Sp.turn,yf]using fun e=>this e.symm
 ·intro i hi hi'
  have hj:i<m.dy.length:=by simpa[Sp.turn]using hi
  have o:=h.dy i hj hj
  have e:(Sp.turn m).dy[i]=sj m.dy[i]:=by simp[Sp.turn]
  refine⟨by rw[e];exact o.lo,by rw[e];exact o.hi,by rw[e];exact o.lX,by rw[e];simp only[sj];rw[o.eq];exact o.ne,by rw[e];simp only[sj];exact o.eq.symm,by rw[e];simp only[sj];rw[o.eq];exact o.top,by rw[e];simp only[sj];exact o.df.symm o.eq,fun k=>?_⟩
  have hj':i-1<m.dy.length:=ac_
  have e':(Sp.turn m).dy[i-1]'ac_=sj (m.dy[i-1]):=by simp[Sp.turn]
  have:=o.up k
  have eq':=(h.dy (i-1) hj' hj').eq
  rw[e,e']
  simp only[sj]
  rw[eq']
  exact this
theorem oL.turn{m:dw}(h:oL m):oL (turn m):=⟨by simpa[Sp.turn]using h.1,by simpa[Sp.turn]using h.2.1,by simpa[Sp.turn]using h.2.2.1,aau _⟩
theorem wH{σ γ X Y:Type}{body:σ→Option (σ⊕γ)}(l:List X)(f:X→Y)(st:List Y→Int→σ)(g:List Y→γ)(hn:l.length≤4611686018427387904)
  (h:∀ (i:Nat) (hi:i<l.length) T,T.length=i→body (st T (i:Int))=some (.inl (st (T ++ [f l[i]]) (IntKind.i64.wrap ((i:Int)+1))))) (h':∀ T,body (st T (l.length:Int))=some (.inr (g T))):Fx.loop body (st [] 0)=some (g (l.map f)):=by
 obtain⟨o,e,rfl⟩:=bY (body:=body) l.length (fun i T=>st T (i:Int)) (fun i T=>T=(l.take i).map f) (fun o=>o=g (l.map f)) (fun i T hi hT=>.inl ⟨T ++ [f l[i]],by
   rw[h i hi T (by rw[hT];simp;omega),gq hi hn],by
   rw[hT,aa9,aa1 hi,aa3];rfl⟩) (fun T hT=>⟨_,h' T,by rw[hT,aby]⟩) l.length 0 [] ac_ (by simp)
 exact e
end Go.Sp
end
section
namespace Go.Sp
open Go Go.Fw Go.Fx Go.Proofs
def mem(x:br):List (List UInt8):=x.cq::x.ah
structure xn(x:br)(m:dw):Prop where
 a8:∀ t∈m.a8,x.a8.l[t.reg.toNat]? = some t.old
 slots:∀ t∈m.slots,x.bh.l[t.slot.toNat]? = some t.old
 dy:∀ p∈m.dy,n_ (fun p=>p.old) (mem x) p
theorem sW{X:Type}{l:List X}{P:X→Prop}:(∀ i,i<l.length → ∀ h:i<l.length,P l[i]) ↔ ∀ t∈l,P t:=by
 constructor
 ·intro h t ht
  obtain⟨i,hi,rfl⟩:=abH.1 ht
  exact h i hi hi
 ·intro h i _ hi
  exact h _ (abd hi)
theorem nC{X:Type}{n:Nat}(v:Vec X n){i:Int}(h0:0≤i)(h1:i<(n:Int)):∃ x,Fx.get v.l i=some x∧v.l[i.toNat]? = some x:=by
 obtain⟨x,hx⟩:=v.get (i:=i.toNat) ac_
 exact⟨x,by unfold Fx.get;rw[aay h0,hx],hx⟩
theorem VF(x:br){t:Int}(ht : -1≤t):(∃ b,(mem x)[(t+1).toNat]? = some b∧Sh.sE x t=some (b,true))∨((mem x)[(t+1).toNat]? = none∧Sh.sE x t=some ([],false)):=by
 unfold Sh.sE
 by_cases c:t<0
 ·left
  have:t = -1:=ac_
  subst this
  exact⟨x.cq,rfl,rfl⟩
 ·have e:(t+1).toNat=t.toNat+1:=ac_
  by_cases c2:t<(x.ah.length:Int)
  ·left
   have hk:t.toNat<x.ah.length:=ac_
   refine⟨x.ah[t.toNat],by rw[e];simp[mem,hk],?_⟩
   rw[aaW c,aaV c2]
   have:Fx.get x.ah t=some x.ah[t.toNat]:=by unfold Fx.get;rw[aay ac_];exact aa1 hk
   simp[this]
  ·right
   refine⟨by rw[e];simp[mem];omega,?_⟩
   rw[aaW c,aaW c2];rfl
theorem Di{b o:List UInt8}{f:Int}(h0:0≤f)(h1:f+(o.length:Int)≤65535):IntKind.i64.wrap (f+(o.length:Int))=f+(o.length:Int)∧(f.toNat+o.length≤b.length→Fx.ny b f (f+(o.length:Int))=some ((b.drop f.toNat).take o.length)):=by
 refine⟨jc ac_,fun h=>?_⟩
 unfold Fx.ny
 rw[aay ac_]
 congr 2
 omega
theorem Pj{x:br}{m:dw}(hm:oL m)(hp:ly m):p_ (Sh.xI x m) (xn x m∧x.at_=m.at_):=by
 obtain⟨h1,h2,h3,h4⟩:=hm
 unfold Sh.xI
 obtain⟨g,e,c⟩:=scan (body:=fun Om=>Sh.uI x m Om) (ok:=inl ()) (bad:=inr false) m.a8.length (fun i=>∀ h:i<m.a8.length,x.a8.l[(m.a8[i]).reg.toNat]? = some (m.a8[i]).old) ac_ (fun i hi=>by
  obtain⟨r1,r2,_⟩:=hp.reg _ (abd hi)
  obtain⟨y,e1,e2⟩:=nC x.a8 r1 ac_
  simp only[Sh.uI,bT,hi,decide_true,abw,aX hi,aaG,e1]
  by_cases c:y=(m.a8[i]).old
  ·exact .inl ⟨fun _=>by rw[e2,c],by rw[aaV c];rfl⟩
  ·exact .inr ⟨fun h=>c (ac8 (e2.symm.trans (h trivial))),by rw[aaW c];rfl⟩) (by simp[Sh.uI])
 rw[e]
 rcases c with⟨rfl,c1⟩|⟨rfl,c1⟩
 case inr=>exact kB fun k=>c1 fun i hi h=>k.1.a8 _ (abd h)
 simp only[aQ,Sh.zG]
 obtain⟨g,e,c⟩:=scan (body:=fun Oo=>Sh.uJ x m Oo) (ok:=inl ()) (bad:=inr false) m.slots.length (fun i=>∀ h:i<m.slots.length,x.bh.l[(m.slots[i]).slot.toNat]? = some (m.slots[i]).old) ac_ (fun i hi=>by
  obtain⟨r1,r2,_⟩:=hp.slot _ (abd hi)
  obtain⟨y,e1,e2⟩:=nC x.bh r1 ac_
  simp only[Sh.uJ,bT,hi,decide_true,abw,aX hi,aaG,e1]
  by_cases c:y=(m.slots[i]).old
  ·exact .inl ⟨fun _=>by rw[e2,c],by rw[aaV c];rfl⟩
  ·exact .inr ⟨fun h=>c (ac8 (e2.symm.trans (h trivial))),by rw[aaW c];rfl⟩) (by simp[Sh.uJ])
 rw[e]
 rcases c with⟨rfl,c2⟩|⟨rfl,c2⟩
 case inr=>exact kB fun k=>c2 fun i hi h=>k.1.slots _ (abd h)
 simp only[aQ,Sh.zH]
 obtain⟨g,e,c⟩:=scan (body:=fun Jx=>Sh.uK x m Jx) (ok:=inl ()) (bad:=inr false) m.dy.length (fun i=>∀ h:i<m.dy.length,n_ (fun p=>p.old) (mem x) m.dy[i]) ac_ (fun i hi=>by
  have q:=hp.piece _ (abd hi)
  refine(?_:(n_ (fun p=>p.old) (mem x) m.dy[i]∧_)∨(¬ n_ (fun p=>p.old) (mem x) m.dy[i]∧_)).imp (fun a=>⟨fun _=>a.1,a.2⟩) (fun a=>⟨fun h=>a.1 (h hi),a.2⟩)
  have q1:=q.lo;have q2:=q.lX;have q3:=q.top
  simp only[Sh.uK,bT,hi,decide_true,abw,aX hi,aaG]
  generalize m.dy[i]=p at *
  rcases VF x q1 with⟨b,e1,e2⟩|⟨e1,e2⟩
  ·obtain⟨w1,w2⟩:=Di (b:=b) (o:=p.old) q2 q3
   simp only[e2,aaG,abK,abt,w1]
   by_cases c:p.from_.toNat+p.old.length≤b.length
   ·rw[aaW ac_,w2 c]
    simp only[abt,aaG,aQ,Sh.zF,Sh.uH]
    by_cases c':(b.drop p.from_.toNat).take p.old.length=p.old
    ·rw[aaV c']
     exact .inl ⟨⟨b,e1,c,c'⟩,rfl⟩
    ·rw[aaW c']
     refine .inr ⟨fun h=>?_,rfl⟩
     obtain⟨b',k1,k2,k3⟩:=h
     cases e1.symm.trans k1
     exact c' k3
   ·rw[aaV ac_]
    refine .inr ⟨fun h=>?_,rfl⟩
    obtain⟨b',k1,k2,k3⟩:=h
    cases e1.symm.trans k1
    exact c k2
  ·simp only[e2,aaG,ac7,abw,aQ,Sh.uH]
   refine .inr ⟨fun h=>?_,by first|rfl|trivial⟩
   obtain⟨b',k1,k2,k3⟩:=h
   cases e1.symm.trans k1) (by simp[Sh.uK])
 rw[e]
 rcases c with⟨rfl,c3⟩|⟨rfl,c3⟩
 case inr=>exact kB fun k=>c3 fun i hi h=>k.1.dy _ (abd h)
 simp only[aQ,Sh.zI]
 refine⟨_,rfl,?_⟩
 rw[decide_eq_true_iff]
 exact⟨fun h=>⟨⟨sW.1 c1,sW.1 c2,sW.1 c3⟩,h⟩,fun h=>h.2⟩
end Go.Sp
end
section
namespace Go.Sp
open Go Go.Fw Go.Fx Go.Proofs
theorem nH{σ γ X S:Type}{body:σ→Option (σ⊕γ)}(l:List X)(f:S→X→S)(st:S→Int→σ)(g:S→γ)(I:S→Prop)(s0:S)(h0:I s0)(hn:l.length≤4611686018427387904)
  (h:∀ (i:Nat) (hi:i<l.length) s,I s→body (st s (i:Int))=some (.inl (st (f s l[i]) (IntKind.i64.wrap ((i:Int)+1))))∧I (f s l[i])) (h':∀ s,I s→body (st s (l.length:Int))=some (.inr (g s))):Fx.loop body (st s0 0)=some (g (l.foldl f s0))∧I (l.foldl f s0):=by
 obtain⟨o,e,rfl,hI⟩:=bY (body:=body) l.length (fun i s=>st s (i:Int)) (fun i s=>s=(l.take i).foldl f s0∧I s) (fun o=>o=g (l.foldl f s0)∧I (l.foldl f s0)) (fun i s hi hs=>.inl ⟨f s l[i],by
   rw[(h i hi s hs.2).1,gq hi hn],by
   refine⟨?_,(h i hi s hs.2).2⟩
   rw[aa9,aa1 hi,ac4,←hs.1];rfl⟩) (fun s hs=>⟨_,h' s hs.2,by
   rw[aby]at hs;rw[←hs.1];exact⟨rfl,hs.2⟩⟩) l.length 0 s0 ac_ ⟨by simp,h0⟩
 exact⟨e,hI⟩
def BL{X Y:Type}{n:Nat}(key:Y→Nat)(val:Y→X)(v:Vec X n)(T:List Y):Vec X n:=T.foldl (fun v t=>v.set (key t) (val t)) v
theorem mV{X Y:Type}{n:Nat}{key:Y→Nat}{val:Y→X}(T:List Y):∀ v:Vec X n,(BL key val v T).l=pR key val v.l T:=by
 induction T with
 | nil=>intro v;rfl
 | cons t T ih=>intro v;exact ih (v.set (key t) (val t))
def x7(x:br)(m:dw):List (List UInt8):=oo (fun p=>p.new) (mem x) m.dy
def Bq(x:br)(m:dw)(a7:List Int)(a s:Int)(d:Bool):br :=
 ⟨BL (fun t:dM=>t.reg.toNat) (fun t=>t.new) x.a8 m.a8,BL (fun t:d_=>t.slot.toNat) (fun t=>t.new) x.bh m.slots,pk (x7 x m) 0,(x7 x m).tail,a7,a,s,d⟩
theorem qF{l:List UInt8}(h:l.length≤1099511627776):Sh.cY l=some l:=by
 unfold Sh.cY;rw[cI (by simp;omega) (by simp;omega)];rfl
theorem vV{l:List Int}(h:l.length≤1099511627776):Sh.bG l=some l:=by
 unfold Sh.bG;rw[cI (by simp;omega) (by simp;omega)];rfl
theorem V2{l:List (List UInt8)}(h:l.length≤1099511627776):Sh.fS l=some l:=by
 unfold Sh.fS;rw[cI (by simp;omega) (by simp;omega)];rfl
theorem wY{x:br}(h:oM x):Sh.hV x=some x:=by
 have h1:=h.ah
 obtain⟨g,hg,e⟩:=bY (body:=fun(v:Nat×Int)=>match v with|(NS,Ol)=>Sh.mJ x.ah NS Ol) x.ah.length (fun i (a:Unit)=>(i,(i:Int))) (fun i a=>True) (fun g=>g = .inl x.ah.length)
  (fun i a hi _=>.inl ⟨(),by
   simp only[Sh.mJ,bT,hi,decide_true,abw,aX hi,aaG,abe,aal,Fx.must,qF (h.each _ (abd hi)),gq hi ac_],trivial⟩)
  (fun a _=>⟨inl x.ah.length,by simp[Sh.mJ],rfl⟩) x.ah.length 0 () ac_ trivial
 subst e
 unfold Sh.hV
 rw[qF h.cq,aaG,V2 h.ah,aaG]
 refine bI hg ?_
 simp only[Fx.fin,Sh.vV,vV h.a7,aaG,aal,decide_true,Fx.must,abw]
section
variable {M:List (List UInt8)}{p:b9}
theorem U6(hr:jR M p):kp p<M.length:=by
 obtain⟨b,h1,_⟩:=hr;exact(aap.1 h1).1
theorem OZ(hr:jR M p):fp p+wd p≤(pk M (kp p)).length:=by
 obtain⟨b,h1,h2⟩:=hr;rw[K5 h1];exact h2
theorem XL{γ:Type}(hp:wj p)(hr:jR M p):(bif decide (p.table<0)then some (inl (0,true))else bif decide (p.table<((List.tail M).length:Int))then(Fx.get (List.tail M) p.table).bind fun _=>some (inl (p.table.toNat+1,true))else Fx.must false none:Option ((Nat×Bool)⊕γ))=some (inl (kp p,true)):=by
 have h1:=hp.lo
 have h2:=U6 hr
 by_cases c:p.table<0
 ·have e:kp p=0:=by simp only[kp];omega
  rw[aaV c,e];rfl
 ·have e:kp p=p.table.toNat+1:=by simp only[kp];omega
  have ht:p.table.toNat<M.tail.length:=by simp only[List.length_tail];omega
  have:Fx.get M.tail p.table=some M.tail[p.table.toNat]:=by unfold Fx.get;rw[aay ac_];exact aa1 ht
  rw[aaW c,aaV ac_,this,e];rfl
theorem XQ(hp:wj p)(hr:jR M p):∃ y,Fx.ny (pk M (kp p)) p.from_ ((pk M (kp p)).length:Int)=some y:=by
 have h1:=hp.lX
 have h2:=OZ hr
 have h3:fp p=p.from_.toNat:=rfl
 unfold Fx.ny
 rw[aay ac_]
 exact⟨_,rfl⟩
theorem XK{v:List UInt8}(hp:wj p)(hr:jR M p)(hv:v.length=wd p):Fx.LC (pk M (kp p)) p.from_ v=some (put (pk M (kp p)) (fp p) v):=by
 have h1:=hp.lX
 have h2:=OZ hr
 have h3:fp p=p.from_.toNat:=rfl
 unfold Fx.LC
 rw[aay ac_]
end
theorem sC(b:List UInt8)(f:Nat):put b f []=b:=by simp[put]
def to(m:dw)(o:Bool):dw:=bif o then turn m else m
section
variable {x:br}{m:dw}(hx:oM x)(hm:oL m)(hp:ly m)(hr:∀ p∈m.dy,jR (mem x) p)
include hx hm hp hr
theorem Ce:Sh.sD x m=some (Bq x m x.a7 m.next x.steps x.done):=by
 obtain⟨h1,h2,h3,h4⟩:=hm
 unfold Sh.sD
 rw[wY hx,aaG]
 have e1:=(nH (body:=fun(v:Vec aj 11×List Int×Int)=>match v with|(Oq,Ot,Ou)=>Sh.mG m Oq Ot Ou) m.a8 (fun v (t:dM)=>v.set t.reg.toNat t.new) (fun v i=>(v,x.a7,i)) (fun v=>inl (v,x.a7)) (fun _=>True) x.a8 trivial ac_
  (fun i hi v _=>⟨by
   obtain⟨r1,r2,_⟩:=hp.reg _ (abd hi)
   obtain⟨y,e,_⟩:=nC v r1 ac_
   simp only[Sh.mG,bT,hi,decide_true,abw,aX hi,aaG,e],trivial⟩) (fun v _=>by simp[Sh.mG])).1
 refine bI e1 ?_
 simp only[Fx.fin,Sh.vS]
 have e2:=(nH (body:=fun(v:Vec bn 32×List Int×Int)=>match v with|(Jp,Jq,Jr)=>Sh.mH m Jp Jq Jr) m.slots (fun v (t:d_)=>v.set t.slot.toNat t.new) (fun v i=>(v,x.a7,i)) (fun v=>inl (v,x.a7)) (fun _=>True) x.bh trivial ac_
  (fun i hi v _=>⟨by
   obtain⟨r1,r2,_⟩:=hp.slot _ (abd hi)
   obtain⟨y,e,_⟩:=nC v r1 ac_
   simp only[Sh.mH,bT,hi,decide_true,abw,aX hi,aaG,e],trivial⟩) (fun v _=>by simp[Sh.mH])).1
 refine bI e2 ?_
 simp only[Fx.fin,Sh.vT]
 have e3:=(nH (body:=fun(v:List (List UInt8)×Int)=>match v with|(I7,JC)=>Sh.mI m I7 JC) m.dy (x8 (fun p=>p.new)) (fun M i=>(M,i)) (fun M=>inl M) (fun M=>M.map List.length=(mem x).map List.length) (mem x) rfl ac_
  (fun i hi M hM=>by
   have hq:=hp.piece _ (abd hi)
   have hro:jR M m.dy[i]:=(hr _ (abd hi)).shape hM.symm
   refine⟨?_,(sB hro hq.eq).trans hM⟩
   obtain⟨y,ey⟩:=XQ hq hro
   simp only[Sh.mI,bT,hi,decide_true,abw,aX hi,aaG]
   refine bI (XL hq hro) ?_
   simp only[Fx.fin,Sh.vR,ey,XK hq hro hq.eq,aaG]
   rfl) (fun M _=>by simp[Sh.mI])).1
 refine bI e3 ?_
 rfl
end
end Go.Sp
end
section
namespace Go.Sp
open Go Go.Fw Go.Fx Go.Proofs
def tO:br:=⟨⟨List.replicate 11 aj.zero,rfl⟩,⟨List.replicate 32 bn.zero,rfl⟩,[],[],[],0,0,false⟩
structure GG(x:br)(m:dw):Prop where
 done:x.done=false
 at_:x.at_=m.at_
 steps:x.steps≠4294967296
 st:xn x m
def applied(x:br)(m:dw):br:=Bq x m (x.a7++m.a7) m.next (x.steps+1) m.done
structure tq(o:Option (br×Int))(x:br)(m:dw)(C:Prop)(y:br):Prop where
 arg:¬ iG x→o=some (tO,1)
 mark:iG x → ¬ ly m→o=some (tO,230)
 from_:iG x→ly m → ¬ C→o=some (tO,231)
 ok:iG x→ly m→C→o=some (y,0)
theorem T0{x:br}{m:dw}(hm:oL m):(¬ iG x→Sh.nR x m=some 1)∧(iG x → ¬ ly m→Sh.nR x m=some 230)∧(iG x→ly m→Sh.nR x m=some 0):=by
 unfold Sh.nR
 refine⟨fun h=>?_,fun h k=>?_,fun h k=>?_⟩
 ·rw[(jX x).false h];rfl
 ·rw[(jX x).true h,aaG,(sN hm).false k];rfl
 ·rw[(jX x).true h,aaG,(sN hm).true k];rfl
theorem xn.room{x:br}{m:dw}(h:xn x m):∀ p∈m.dy,jR (mem x) p:=fun p hp=>(h.dy p hp).room rfl
section
variable {x:br}{m:dw}(hx:oM x)(hm:oL m)
include hx hm
theorem qX:tq (Sh.bO x m) x m (GG x m) (applied x m):=by
 obtain⟨r1,r2,r3⟩:=T0 (x:=x) hm
 have hs:=hx.a7
 have hms:=hm.2.2.2
 refine⟨fun h=>?_,fun h k=>?_,fun h k c=>?_,fun h k c=>?_⟩
 ·unfold Sh.bO;rw[r1 h];rfl
 ·unfold Sh.bO;rw[r2 h k];rfl
 ·unfold Sh.bO
  rw[r3 h k]
  simp only[aaG,decide_true,abK,abt]
  cases c1:x.done
  case true=>rfl
  simp only[abt]
  by_cases c2:x.steps=4294967296
  ·rw[aaV c2];rfl
  rw[aaW c2]
  have c3:¬ (xn x m∧x.at_=m.at_):=fun e=>c ⟨c1,e.2,c2,e.1⟩
  rw[(Pj hm k).false c3];rfl
 ·unfold Sh.bO
  rw[r3 h k]
  simp only[aaG,decide_true,abK,abt]
  rw[c.done,aaW c.steps,(Pj hm k).true ⟨c.st,c.at_⟩]
  simp only[abt,aaG,abK,aQ,Sh.xF,Ce hx hm k c.st.room]
  have ha:Fx.app 8 x.a7 m.a7=some (x.a7++m.a7):=cI ac_ ac_
  have hw:IntKind.i64.wrap (x.steps+1)=x.steps+1:=jc (by have:=h.2.1;omega)
  simp only[Bq,ha,aaG,hw]
  rfl
end
theorem tq.same{o o':Option (br×Int)}{x:br}{m:dw}{C:Prop}{y:br}(h:tq o x m C y)(h':tq o' x m C y):o=o' ∧ ((∃ e,o=some (tO,e)∧e≠0)∨(o=some (y,0)∧iG x∧ly m∧C)):=by
 by_cases c1:iG x
 case neg=>rw[h.arg c1,h'.arg c1];exact⟨rfl,.inl ⟨1,rfl,by decide⟩⟩
 by_cases c2:ly m
 case neg=>rw[h.mark c1 c2,h'.mark c1 c2];exact⟨rfl,.inl ⟨230,rfl,by decide⟩⟩
 by_cases c3:C
 case neg=>rw[h.from_ c1 c2 c3,h'.from_ c1 c2 c3];exact⟨rfl,.inl ⟨231,rfl,by decide⟩⟩
 rw[h.ok c1 c2 c3,h'.ok c1 c2 c3]
 exact⟨rfl,.inr ⟨rfl,c1,c2,c3⟩⟩
end Go.Sp
end
section
namespace Go.Sp
open Go Go.Fw Go.Fx Go.Proofs
theorem Wm(x:br):0<(mem x).length:=by simp[mem]
theorem Wu{M:List (List UInt8)}(h:0<M.length):pk M 0::M.tail=M:=by
 cases M with
 | nil=>simp at h
 | cons a M=>rfl
section
variable {x:br}{m:dw}(hp:ly m)
include hp
theorem qM:∀ p∈m.dy,p.new.length=wd p:=fun p h=>(hp.piece p h).eq
theorem pL(hr:∀ p∈m.dy,jR (mem x) p):(x7 x m).map List.length=(mem x).map List.length:=qO hr (qM hp)
theorem G_(hr:∀ p∈m.dy,jR (mem x) p):0<(x7 x m).length:=by
 have:=congrArg List.length (pL hp hr)
 simp only[abl]at this
 rw[this];exact Wm x
theorem tF(hr:∀ p∈m.dy,jR (mem x) p)(l:List Int)(a s:Int)(d:Bool):mem (Bq x m l a s d)=x7 x m:=Wu (G_ hp hr)
end
end Go.Sp
end
