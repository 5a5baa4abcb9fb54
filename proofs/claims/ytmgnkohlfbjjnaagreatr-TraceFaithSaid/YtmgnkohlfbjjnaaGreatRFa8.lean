/- Ground for the claim TraceFaith. -/
import Derived.Lib.BytesEntry
import Derived.Laws.StandIn
import Derived.RangeFuncRecord
import Derived.Test.YtmgnkohlfbjjnaaGreatRFa7
set_option linter.unusedVariables false
set_option linter.unusedSimpArgs false
open Sum
section
namespace Go.Fx
open Go Go.Fw
section
variable {P:Program}{n:Nat}{F:List (Nat×Value)}{a:Act}{dd:List Deferred}{w:World}{o:Oper}{J:Value→World→Prop}
theorem Tt{f:FuncId}{xs:List Operand}{ts:Array TypeId}{vs:List Value}{v:Value}(hcall:(callFunc f vs.toArray).run P w = .ok (.value v) w)(hF:Fr n F a dd)
  (ho:o.op = .call { callee:=.value (.func f),args:=xs.toArray,argTypes:=ts }) (hx:evs F xs=some vs) (next:Unit→J v w):Yd P o a.eval w J:=by
 unfold Yd
 simp only[execOp,ho,resolve,Act.eval,Deferred.ofValue,invoke,Sem.run_bind,Sem.run_pure,Result.andThen_ok,acd,hF.evals hx,ace,acf,hcall]
 exact next ()
theorem H5{lo:Nat}{s:SV}{l:List UInt8}(h:cH lo w s l):(Extern.Bytes.bytesOf s.v).run P w = .ok ⟨l.toArray⟩ w:=by
 have hl:=h.len
 have hc:=h.cells
 obtain⟨sa,sl,sc⟩:=s
 simp only at hl;subst hl
 cases sa with
 | none =>
  have hn:l = []:=hc.1
  subst hn
  rfl
 | some ad =>
  obtain⟨b,off,sp⟩:=ad
  obtain⟨h1,h2,h3⟩:=hc
  have he:Lib.bytesOf (l.map fun b=>(b.toNat:Int))=l:=by
   unfold Lib.bytesOf
   rw[ac5]
   conv=>rhs;rw[←List.map_id l]
   exact ac8 fun b _=>by simp
  have hx:=Lib.run_loadBytesX (P:=P) w (l.map fun b=>(b.toNat:Int)) ⟨b,off,sp⟩ .empty (fun j x hj=>by
   rw[aby]at hj
   obtain⟨y,hy,rfl⟩:=aaI.1 hj
   have hj':j<l.length:=(aaz.1 hy).1
   have h1:sp=none:=h1.resolve_left fun h=>by rw[h]at hj'; exact absurd hj' (acp _)
   subst h1
   rw[dY]
   have:=h3 (j*d_.sz UInt8) (.int .u8 (y.toNat:Int)) (qM hy rfl)
   simpa[d_.sz]using this)
  rw[he,abM]at hx
  have e0:(⟨ByteArray.empty.data++l.toArray⟩ : ByteArray)=⟨l.toArray⟩:=by
   apply ByteArray.ext
   show(#[]:Array UInt8)++l.toArray=l.toArray
   simp
  rw[e0]at hx
  exact hx
theorem VZ{lo lo':Nat}{s t:SV}{l m:List UInt8}(h:cH lo w s l)(k:cH lo' w t m):(Extern.BytealgCompare.compare #[s.v,t.v]).run P w = .ok (.int .i64 (Lib.compareBytes l m)) w:=by
 change Sem.run P (do pure (goInt (Extern.BytealgCompare.cmp (←Extern.Bytes.bytesOf s.v) (←Extern.Bytes.bytesOf t.v)))) w=_
 simp only[Sem.run_bind,Sem.run_pure,H5 h,H5 k,Result.andThen_ok,Lib.cmp_eq]
 rfl
theorem Wy{lo:Nat}{s:SV}{l:List UInt8}{c:UInt8}(h:cH lo w s l):(Extern.BytealgIndexByte.indexByte #[s.v,.int .u8 (c.toNat:Int)]).run P w = .ok (.int .i64 (Lib.indexByte l c)) w:=by
 have hs:=Lib.run_indexByteString (P:=P) ⟨l.toArray⟩ (c.toNat:Int) w
 change Sem.run P (do
  let b←Extern.Bytes.bytesOf s.v
  let c←Extern.Bytes.asByte (.int .u8 (c.toNat:Int))
  match(List.range b.size).find? fun i=>b[i]! == c with
  | some i=>pure (goInt i)
  | none=>pure (goInt (-1))) w=_
 change Sem.run P (do
  let b←Extern.Bytes.bytesOf (.string ⟨l.toArray⟩)
  let c←Extern.Bytes.asByte (.int .u8 (c.toNat:Int))
  match(List.range b.size).find? fun i=>b[i]! == c with
  | some i=>pure (goInt i)
  | none=>pure (goInt (-1))) w=_ at hs
 have e1:(Extern.Bytes.bytesOf (.string ⟨l.toArray⟩)).run P w = .ok ⟨l.toArray⟩ w:=rfl
 simp only[Sem.run_bind,H5 h,e1,Result.andThen_ok]at hs ⊢
 rw[hs]
 simp
theorem hO{t:TypeId}{x:Operand}{v:Value}(hc:P.concrete t=true)(hF:Fr n F a dd)(ho:o.op = .makeInterface t x)(hx:ev F x=some v):(execOp a.eval o).run P w = .ok (.value (.iface t v)) w:=by
 simp[execOp,ho,hF.eval hx,run_makeInterface w t v hc]
theorem IE{f:FuncId}{T:TypeId}{r:Operand}{name:String}{x:Value}{R:Value→World→Prop}(hi:∀ w,(invoke (.fn (.method name) #[]) #[.iface T x]).run P w = .ok (.enter f #[x]) w)(hF:Fr n F a dd)
  (ho:o.op = .call { callee:=.invoke r name,args:=#[],argTypes:=#[] }) (hr:ev F r=some (.iface T x)) (hc:Calls P f #[x] w (gf R)) (next:∀ v w',R v w' → J v w'):Yd P o a.eval w J:=by
 unfold Yd
 simp only[execOp,ho,resolve,hF.eval hr,Sem.run_bind,Sem.run_pure,Result.andThen_ok,acd,abq,acf,hi]
 exact Calls.mono hc fun e w' he=>by cases e<;>first|exact next _ _ he|exact he
end
end Go.Fx
end
section
namespace Go.Proofs
open Go Go.Fw Go.Fx
noncomputable def Sh.vW(x0:Int):Option ((qx×Bool)) :=
 (bif (decide (x0=1))then(some (qx.mk [2,4,1,0,0] (dm.mk (0) (65535) false false),true))else(bif (decide (x0=2))then(some (qx.mk [3,2,4,0,0] dm.zero,true))else(bif (decide (x0=3))then(some (qx.mk [3,1,4,0,0] dm.zero,true))else(bif (decide (x0=4))then(some (qx.mk [2,2,4,0,0] (dm.mk (-1) 1 false false),true))else(bif (decide (x0=5))then(some (qx.mk [2,4,1,0,0] (dm.mk (-1) (65534) false false),true))else(bif (decide (x0=6))then(some (qx.mk [1,0,0,0,0] (dm.mk (-1) 0 false false),true))else(bif (decide (x0=7))then(some (qx.mk [1,1,0,0,0] (dm.mk 0 0 false false),true))else(bif (decide (x0=8))then(some (qx.mk [1,1,0,0,0] (dm.mk 0 0 true true),true))else(some (qx.mk [] dm.zero,false))))))))))
end Go.Proofs
end
noncomputable section
namespace Go.Proofs
open Go Go.Fw Go.Fx
set_option maxRecDepth 10000
def Sh.GI(x0:List UInt8)(x1:List UInt8):Option Int :=
 (some (Lib.compareBytes x0 x1))
def Sh.Gs(x0:List UInt8)(x1:UInt8):Option Int :=
 (some (Lib.indexByte x0 x1))
def Sh.JO(x0:List UInt8)(x1:List UInt8):Option Int :=
 ((Sh.GI x0 x1).bind fun y9=>(some y9))
def Sh.JQ(x0:List UInt8)(x1:Int):Option Int :=
 ((Sh.Gs x0 (Fw.byteOf x1)).bind fun y7=>(some y7))
def Sh.dB(x0:aj)(x1:Int)(x2:Int):Option (List UInt8) :=
 ((Fx.get x0.bk.l x1).bind fun U9=>((Fx.get x0.bk.l x1).bind fun U_=>((Sh.kN x0 U9 U_.x x2).bind fun Fq=>(some Fq))))
def Sh.lJ(c0:Int)(c1:Bool):Option ((Int⊕(Unit⊕(Vec Int 6×Bool)))) :=
 (bif c1 then(some (inr (inr ((⟨List.replicate 6 0,rfl⟩ : Vec Int 6),false))))else(some (inl (IntKind.i64.wrap (c0+1)))))
def Sh.lM(x0:aj)(x1:List Int)(c1:Int):Option ((Int⊕(Unit⊕(Vec Int 6×Bool)))) :=
 (bif (decide (c1<(x1.length:Int)))then((Fx.get x1 c1).bind fun c2=>((Fx.get x0.bk.l (IntKind.i64.wrap (c1+1))).bind fun c0=>(Fx.seq (bif (decide (c2=1))then((Sh.cF c0).bind fun c4=>(bif (!c4)then(some (inl true))else(bif (decide (c2=4))then(bif (decide (c0.x<0))then(some (inl true))else(some (inl (decide (65535<c0.x)))))else(some (inl false)))))else(bif (decide (c2=4))then((Sh.cF c0).bind fun c5=>(bif (!c5)then(some (inl true))else(bif (decide (c0.x<0))then(some (inl true))else(some (inl (decide (65535<c0.x)))))))else(some (inl false)))) fun c3=>Sh.lJ c1 c3)))else(some (inr (inl ()))))
def Sh.lN(x1:List Int)(c0:Int):Option ((Int⊕(Int⊕(Vec Int 6⊕((Vec Int 6×Int)⊕(Vec Int 6⊕(Vec Int 6×Bool))))))) :=
 ((Fx.get x1 c0).bind fun c1=>(bif (!decide (c1=4))then(some (inl (IntKind.i64.wrap (c0+1))))else(some (inr (inl c0)))))
def Sh.kQ(x0:aj)(c1:Vec Int 6)(c2:Int)(c5:Int)(c3:ak)(c0:ak)(c4:Bool):Option ((Vec Int 6⊕((Vec Int 6×Int)⊕(Vec Int 6⊕(Vec Int 6×Bool))))) :=
 (bif c4 then(some (inr (inr (inr ((c1.set ((IntKind.i64.wrap (c2+1)):Int).toNat c0.x),false)))))else(bif (decide (c5=3))then(bif (decide (c3.kind=4))then(some (inr (inr (inr ((c1.set ((IntKind.i64.wrap (c2+1)):Int).toNat c0.x),false)))))else(some (inl (c1.set ((IntKind.i64.wrap (c2+1)):Int).toNat c0.x))))else((Sh.eJ x0 c3 c3.x c0.x).bind fun c6=>(bif (!decide (c6=0))then(some (inr (inr (inr ((c1.set ((IntKind.i64.wrap (c2+1)):Int).toNat c0.x),false)))))else(some (inl (c1.set ((IntKind.i64.wrap (c2+1)):Int).toNat c0.x)))))))
def Sh.lL(x0:aj)(c2:Vec Int 6)(c1:Int)(c6:Int)(c4:Int):Option ((Vec Int 6⊕((Vec Int 6×Int)⊕(Vec Int 6⊕(Vec Int 6×Bool))))) :=
 ((Fx.get x0.bk.l (IntKind.i64.wrap (c1+1))).bind fun c0=>((Fx.get x0.bk.l (IntKind.i64.wrap (c4+1))).bind fun c3=>((Fx.get c2.l (IntKind.i64.wrap (c1+1))).bind fun c9=>(Fx.seq ((Sh.hF c0).bind fun c7=>(bif (!c7)then(some (inl true))else((Sh.eH x0 c0 c0.x c3.x).bind fun c8=>(some (inl (!c8)))))) fun c5=>Sh.kQ x0 c2 c1 c6 c0 c3 c5))))
def Sh.lK(x0:aj)(x1:List Int)(c0:Vec Int 6)(c1:Int)(c5:Int)(c2:Bool):Option ((Vec Int 6⊕((Vec Int 6×Int)⊕(Vec Int 6⊕(Vec Int 6×Bool))))) :=
 (bif c2 then(some (inl c0))else(Fx.seq (Fx.loop (fun c4=>Sh.lN x1 c4) (IntKind.i64.wrap (c1+1))) fun c3=>Sh.lL x0 c0 c1 c5 c3))
def Sh.qV(c0:Int)(c1:Vec Int 6):Option (((Vec Int 6×Int)⊕(Vec Int 6⊕(Vec Int 6×Bool)))) :=
 (some (inl (c1,(IntKind.i64.wrap (c0+1)))))
def Sh.hR(x0:aj)(x1:List Int)(c2:Vec Int 6)(c0:Int):Option (((Vec Int 6×Int)⊕(Vec Int 6⊕(Vec Int 6×Bool)))) :=
 (bif (decide (c0<(x1.length:Int)))then(Fx.seq ((Fx.get x1 c0).bind fun c1=>(Fx.seq (bif (!decide (c1=2))then(some (inl (!decide (c1=3))))else(some (inl false))) fun c4=>Sh.lK x0 x1 c2 c0 c1 c4)) fun c3=>Sh.qV c0 c3)else(some (inr (inl c2))))
def Sh.zW(c0:Vec Int 6):Option ((Vec Int 6×Bool)) :=
 (some (c0,true))
def Sh.lI(x0:aj)(x1:List Int):Option ((Vec Int 6×Bool)) :=
 (Fx.seq (Fx.loop (fun(c1,c2)=>Sh.hR x0 x1 c1 c2) ((⟨List.replicate 6 0,rfl⟩ : Vec Int 6),0)) fun c0=>Sh.zW c0)
def Sh.kX(x0:aj)(x1:List Int):Option ((Vec Int 6×Bool)) :=
 (Fx.seq (Fx.loop (fun c0=>Sh.lM x0 x1 c0) 0) fun _=>Sh.lI x0 x1)
def Sh.iS(c3:ak)(c2:List UInt8)(c1:List UInt8)(c0:Int):Option (((List UInt8×Int)⊕(List UInt8⊕((ak×Vec bn 32×List UInt8×List (List UInt8)×List Int)⊕(Int×Int×aj))))) :=
 (bif (decide (c0<(c2.length:Int)))then((Fx.get c1 c0).bind fun c4=>(some (inl ((c1.set (c0:Int).toNat (Fw.byteOf c3.x)),(IntKind.i64.wrap (c0+1))))))else(some (inr (inl c1))))
def Sh.sS(x0:aj)(c4:ak)(c3:ak)(c1:List UInt8):Option (((ak×Vec bn 32×List UInt8×List (List UInt8)×List Int)⊕(Int×Int×aj))) :=
 ((Fx.get x0.bk.l 1).bind fun c2=>((Sh.eY x0 c2 c3.x c1).bind fun c0=>(some (inl (c4,c0.ae.bp,c0.ae.b_,c0.ae.ah,x0.bf)))))
def Sh.nE(x0:aj)(c3:ak)(c1:ak)(c2:ak)(c0:Bool):Option (((ak×Vec bn 32×List UInt8×List (List UInt8)×List Int)⊕(Int×Int×aj))) :=
 (bif c0 then(some (inl ((ak.mk 5 c1.x c2.x 0),x0.ae.bp,x0.ae.b_,x0.ae.ah,x0.bf)))else(some (inl (c3,x0.ae.bp,x0.ae.b_,x0.ae.ah,x0.bf))))
def Sh.nD(x0:aj)(c5:ak)(c1:ak)(c0:ak)(c2:Bool):Option (((ak×Vec bn 32×List UInt8×List (List UInt8)×List Int)⊕(Int×Int×aj))) :=
 (bif c2 then(some (inr (0,87,x0)))else(Fx.seq (bif (decide (0≤c0.x))then((Fx.get x0.ae.sizes c1.x).bind fun c4=>(some (inl (decide (c0.x<c4.rows)))))else(some (inl false))) fun c3=>Sh.nE x0 c5 c1 c0 c3))
def Sh.iT(c1:Vec ak 11)(c0:Int):Option (((Vec ak 11×Int)⊕(Vec ak 11⊕(Int×Int×aj)))) :=
 (bif (decide (c0≤5))then((Fx.get c1.l c0).bind fun c2=>(some (inl ((c1.set (c0:Int).toNat ak.zero),(IntKind.i64.wrap (c0+1))))))else(some (inr (inl c1))))
def Sh.aAn(x0:aj)(c0:Vec bn 32)(c1:List UInt8)(c2:List (List UInt8))(c3:List Int)(c4:Vec ak 11):Option ((Int×Int×aj)) :=
 (some (0,0,(aj.mk (fq.mk c0 c1 c2 x0.ae.data x0.ae.sizes) x0.code x0.dq x0.cg c4 c3 x0.at_ x0.steps x0.done)))
def Sh.iR(x0:aj)(c0:ak)(c1:Vec bn 32)(c2:List UInt8)(c3:List (List UInt8))(c4:List Int):Option ((Int×Int×aj)) :=
 ((Fx.get x0.bk.l 0).bind fun c8=>(Fx.seq (Fx.loop (fun(c6,c7)=>Sh.iT c6 c7) ((x0.bk.set (0:Int).toNat c0),1)) fun c5=>Sh.aAn x0 c1 c2 c3 c4 c5))
def Sh.jM(x0:aj)(x1:b9):Option ((Int×Int×aj)) :=
 ((Sh.vW x1.k_).bind fun c7=>(bif (!c7.2)then(some (0,87,x0))else((Sh.kX x0 c7.1.args).bind fun c2=>(bif (!c2.2)then(some (0,87,x0))else((Sh.dJ 0).bind fun c0=>((Fx.get x0.bk.l 1).bind fun c1=>((Fx.get x0.bk.l 2).bind fun c4=>((Fx.get x0.bk.l 3).bind fun c6=>(Fx.seq (bif (decide (x1.k_=1))then((Fx.get c2.1.l 1).bind fun d7=>((Sh.dB x0 1 d7).bind fun g5=>((Sh.aGa g5 c6.x).bind fun g6=>(some (inl ((ak.mk c0.kind c0.table c0.row g6),x0.ae.bp,x0.ae.b_,x0.ae.ah,x0.bf))))))else(bif (decide (x1.k_=2))then((Fx.get x0.bk.l 1).bind fun d8=>((Fx.get c2.1.l 2).bind fun d9=>((Sh.dB x0 2 d9).bind fun g7=>((Sh.eY x0 d8 c1.x g7).bind fun c3=>(some (inl (c0,c3.ae.bp,c3.ae.b_,c3.ae.ah,x0.bf)))))))else(bif (decide (x1.k_=3))then((Fx.get c2.1.l 1).bind fun g0=>((Fx.mk 1 (0:UInt8) g0).bind fun c5=>(Fx.seq (Fx.loop (fun(d4,d5)=>Sh.iS c4 c5 d4 d5) (c5,0)) fun d3=>Sh.sS x0 c0 c1 d3)))else(bif (decide (x1.k_=4))then((Fx.get c2.1.l 1).bind fun g1=>((Fx.get c2.1.l 2).bind fun g2=>((Sh.dB x0 1 g1).bind fun g8=>((Sh.dB x0 2 g2).bind fun g9=>((Sh.JO g8 g9).bind fun i0=>(some (inl ((ak.mk c0.kind c0.table c0.row i0),x0.ae.bp,x0.ae.b_,x0.ae.ah,x0.bf))))))))else(bif (decide (x1.k_=5))then((Fx.get c2.1.l 1).bind fun g3=>((Sh.dB x0 1 g3).bind fun i1=>((Sh.JQ i1 c6.x).bind fun i2=>(some (inl ((ak.mk c0.kind c0.table c0.row i2),x0.ae.bp,x0.ae.b_,x0.ae.ah,x0.bf))))))else(bif (decide (x1.k_=6))then(bif (decide (64≤(x0.bf.length:Int)))then(some (inl ((ak.mk c0.kind c0.table c0.row (-1)),x0.ae.bp,x0.ae.b_,x0.ae.ah,x0.bf)))else((Fx.app 8 x0.bf [c1.x]).bind fun g4=>(some (inl (c0,x0.ae.bp,x0.ae.b_,x0.ae.ah,g4)))))else(bif (decide (x1.k_=7))then(Fx.seq (bif (decide (c1.x<0))then(some (inl true))else(some (inl (decide ((x0.ae.sizes.length:Int)≤c1.x))))) fun d6=>Sh.nD x0 c0 c1 c4 d6)else(bif (decide (x1.k_=8))then((Sh.aIw c1.x c4.x).bind fun i3=>(some (inl ((ak.mk c0.kind c0.table c0.row i3),x0.ae.bp,x0.ae.b_,x0.ae.ah,x0.bf))))else(some (inl (c0,x0.ae.bp,x0.ae.b_,x0.ae.ah,x0.bf))))))))))) fun(c8,c9,d0,d1,d2)=>Sh.iR x0 c8 c9 d0 d1 d2)))))))))
end Go.Proofs
end
noncomputable section
namespace Go.Proofs
open Go Go.Fw Go.Fx
set_option maxRecDepth 10000
def Sh.sT(x0:aj)(x1:b9)(c1:List UInt8)(c2:List (List UInt8))(c3:List Int):Option (((Vec bn 32×List UInt8×List (List UInt8)×Vec ak 11×List Int×Bool×Int)⊕Int)) :=
 ((Sh.eI (aj.mk (fq.mk x0.ae.bp c1 c2 x0.ae.data x0.ae.sizes) x0.code x0.dq x0.cg x0.bk c3 x0.at_ x0.steps x0.done) x1).bind fun c0=>(some (inl (x0.ae.bp,c1,c2,c0.2.2.bk,c3,x0.done,c0.2.1))))
def Sh.sU(x0:aj)(x1:b9)(c1:List UInt8)(c2:List (List UInt8))(c3:List Int):Option (((Vec bn 32×List UInt8×List (List UInt8)×Vec ak 11×List Int×Bool×Int)⊕Int)) :=
 ((Sh.jP (aj.mk (fq.mk x0.ae.bp c1 c2 x0.ae.data x0.ae.sizes) x0.code x0.dq x0.cg x0.bk c3 x0.at_ x0.steps x0.done) x1).bind fun c0=>(some (inl (x0.ae.bp,c1,c2,c0.2.2.bk,c3,x0.done,c0.2.1))))
def Sh.sV(x0:aj)(x1:b9)(c1:List UInt8)(c2:List (List UInt8))(c3:List Int):Option (((Vec bn 32×List UInt8×List (List UInt8)×Vec ak 11×List Int×Bool×Int)⊕Int)) :=
 ((Sh.fK (aj.mk (fq.mk x0.ae.bp c1 c2 x0.ae.data x0.ae.sizes) x0.code x0.dq x0.cg x0.bk c3 x0.at_ x0.steps x0.done) x1).bind fun c0=>(some (inl (x0.ae.bp,c1,c2,c0.2.2.bk,c3,x0.done,c0.2.1))))
def Sh.sW(x0:aj)(x1:b9)(c1:List UInt8)(c2:List (List UInt8))(c3:List Int):Option (((Vec bn 32×List UInt8×List (List UInt8)×Vec ak 11×List Int×Bool×Int)⊕Int)) :=
 ((Sh.jO (aj.mk (fq.mk x0.ae.bp c1 c2 x0.ae.data x0.ae.sizes) x0.code x0.dq x0.cg x0.bk c3 x0.at_ x0.steps x0.done) x1).bind fun c0=>(some (inl (x0.ae.bp,c1,c2,c0.2.2.bk,c3,x0.done,c0.2.1))))
def Sh.sX(x0:aj)(x1:b9)(c2:List UInt8)(c3:List (List UInt8))(c1:List Int):Option (((Vec bn 32×List UInt8×List (List UInt8)×Vec ak 11×List Int×Bool×Int)⊕Int)) :=
 ((Sh.hT (aj.mk (fq.mk x0.ae.bp c2 c3 x0.ae.data x0.ae.sizes) x0.code x0.dq x0.cg x0.bk c1 x0.at_ x0.steps x0.done) x1).bind fun c0=>(some (inl (c0.2.2.ae.bp,c0.2.2.ae.b_,c0.2.2.ae.ah,x0.bk,c1,x0.done,c0.2.1))))
def Sh.sY(x0:aj)(x1:b9)(c2:List UInt8)(c3:List (List UInt8))(c1:List Int):Option (((Vec bn 32×List UInt8×List (List UInt8)×Vec ak 11×List Int×Bool×Int)⊕Int)) :=
 ((Sh.jL (aj.mk (fq.mk x0.ae.bp c2 c3 x0.ae.data x0.ae.sizes) x0.code x0.dq x0.cg x0.bk c1 x0.at_ x0.steps x0.done) x1).bind fun c0=>(some (inl (c0.2.2.ae.bp,c0.2.2.ae.b_,c0.2.2.ae.ah,c0.2.2.bk,c1,x0.done,c0.2.1))))
def Sh.sZ(x0:aj)(x1:b9)(c0:List UInt8)(c1:List (List UInt8))(c2:List Int):Option (((Vec bn 32×List UInt8×List (List UInt8)×Vec ak 11×List Int×Bool×Int)⊕Int)) :=
 ((Sh.jN (aj.mk (fq.mk x0.ae.bp c0 c1 x0.ae.data x0.ae.sizes) x0.code x0.dq x0.cg x0.bk c2 x0.at_ x0.steps x0.done) x1).bind fun c3=>(some (inl (x0.ae.bp,c0,c1,x0.bk,c2,x0.done,c3.2))))
def Sh.qW(x0:aj)(x1:b9)(c0:List UInt8)(c1:List (List UInt8))(c2:List Int):Option (((Vec bn 32×List UInt8×List (List UInt8)×Vec ak 11×List Int×Bool×Int)⊕Int)) :=
 ((Sh.gX (aj.mk (fq.mk x0.ae.bp c0 c1 x0.ae.data x0.ae.sizes) x0.code x0.dq x0.cg x0.bk c2 x0.at_ x0.steps x0.done) x1).bind fun c3=>(some (inl (x0.ae.bp,c0,c1,x0.bk,c2,x0.done,c3.2))))
def Sh.qX(x0:aj)(x1:b9)(c1:List UInt8)(c2:List (List UInt8))(c3:List Int):Option (((Vec bn 32×List UInt8×List (List UInt8)×Vec ak 11×List Int×Bool×Int)⊕Int)) :=
 ((Sh.jM (aj.mk (fq.mk x0.ae.bp c1 c2 x0.ae.data x0.ae.sizes) x0.code x0.dq x0.cg x0.bk c3 x0.at_ x0.steps x0.done) x1).bind fun c0=>(some (inl (c0.2.2.ae.bp,c0.2.2.ae.b_,c0.2.2.ae.ah,c0.2.2.bk,c0.2.2.bf,x0.done,c0.2.1))))
def Sh.qY(x0:aj)(x1:b9)(c1:List UInt8)(c2:List (List UInt8))(c3:List Int):Option (((Vec bn 32×List UInt8×List (List UInt8)×Vec ak 11×List Int×Bool×Int)⊕Int)) :=
 ((Sh.hS (aj.mk (fq.mk x0.ae.bp c1 c2 x0.ae.data x0.ae.sizes) x0.code x0.dq x0.cg x0.bk c3 x0.at_ x0.steps x0.done) x1).bind fun c0=>(some (inl (x0.ae.bp,c1,c2,x0.bk,c3,c0.2.2.done,c0.2.1))))
def Sh.tA(c1:Vec bn 32)(c2:List UInt8)(c3:List (List UInt8))(c4:Vec ak 11)(c5:List Int)(c6:Bool)(c0:Int):Option Int :=
 (bif (!decide (c0=0))then(some c0)else(some 89))
def Sh.mY(x0:aj)(x1:b9):Option Int :=
 ((Sh.aM x0.ae.b_).bind fun c0=>((Sh.iH x0.ae.ah).bind fun c1=>((Sh.bH x0.bf).bind fun c2=>(Fx.seq (Fx.seq (bif (decide (x1.op≤15))then(some (inl (inl ())))else(bif (decide (x1.op≤19))then(some (inl (inr (inl ()))))else(bif (decide (x1.op≤21))then(some (inl (inr (inr (inl ())))))else(bif (decide (x1.op≤23))then(some (inl (inr (inr (inr (inl ()))))))else(bif (decide (x1.op=24))then(some (inl (inr (inr (inr (inr (inl ())))))))else(bif (decide (x1.op=25))then(some (inl (inr (inr (inr (inr (inr (inl ()))))))))else(bif (decide (x1.op=26))then(some (inl (inr (inr (inr (inr (inr (inr (inl ())))))))))else(bif (decide (x1.op≤37))then(some (inl (inr (inr (inr (inr (inr (inr (inr (inl ()))))))))))else(bif (decide (x1.op=38))then(some (inl (inr (inr (inr (inr (inr (inr (inr (inr (inl ())))))))))))else(some (inl (inr (inr (inr (inr (inr (inr (inr (inr (inr ())))))))))))))))))))) (Sum.elim (fun _=>Sh.sT x0 x1 c0 c1 c2) (Sum.elim (fun _=>Sh.sU x0 x1 c0 c1 c2) (Sum.elim (fun _=>Sh.sV x0 x1 c0 c1 c2) (Sum.elim (fun _=>Sh.sW x0 x1 c0 c1 c2) (Sum.elim (fun _=>Sh.sX x0 x1 c0 c1 c2) (Sum.elim (fun _=>Sh.sY x0 x1 c0 c1 c2) (Sum.elim (fun _=>Sh.sZ x0 x1 c0 c1 c2) (Sum.elim (fun _=>Sh.qW x0 x1 c0 c1 c2) (Sum.elim (fun _=>Sh.qX x0 x1 c0 c1 c2) (fun _=>Sh.qY x0 x1 c0 c1 c2))))))))))) fun(c3,c4,c5,c6,c7,c8,c9)=>Sh.tA c3 c4 c5 c6 c7 c8 c9))))
def Sh.sM(x0:aj)(c1:b9):Option (((Vec bn 32×List UInt8×List (List UInt8)×Vec ak 11×List Int×Bool×Int×Int)⊕(Int×aj))) :=
 ((Sh.eI x0 c1).bind fun c0=>(some (inl (x0.ae.bp,x0.ae.b_,x0.ae.ah,c0.2.2.bk,x0.bf,x0.done,c0.1,c0.2.1))))
def Sh.sN(x0:aj)(c1:b9):Option (((Vec bn 32×List UInt8×List (List UInt8)×Vec ak 11×List Int×Bool×Int×Int)⊕(Int×aj))) :=
 ((Sh.jP x0 c1).bind fun c0=>(some (inl (x0.ae.bp,x0.ae.b_,x0.ae.ah,c0.2.2.bk,x0.bf,x0.done,c0.1,c0.2.1))))
def Sh.sO(x0:aj)(c1:b9):Option (((Vec bn 32×List UInt8×List (List UInt8)×Vec ak 11×List Int×Bool×Int×Int)⊕(Int×aj))) :=
 ((Sh.fK x0 c1).bind fun c0=>(some (inl (x0.ae.bp,x0.ae.b_,x0.ae.ah,c0.2.2.bk,x0.bf,x0.done,c0.1,c0.2.1))))
def Sh.sP(x0:aj)(c1:b9):Option (((Vec bn 32×List UInt8×List (List UInt8)×Vec ak 11×List Int×Bool×Int×Int)⊕(Int×aj))) :=
 ((Sh.jO x0 c1).bind fun c0=>(some (inl (x0.ae.bp,x0.ae.b_,x0.ae.ah,c0.2.2.bk,x0.bf,x0.done,c0.1,c0.2.1))))
def Sh.sQ(x0:aj)(c1:b9):Option (((Vec bn 32×List UInt8×List (List UInt8)×Vec ak 11×List Int×Bool×Int×Int)⊕(Int×aj))) :=
 ((Sh.hT x0 c1).bind fun c0=>(some (inl (c0.2.2.ae.bp,c0.2.2.ae.b_,c0.2.2.ae.ah,x0.bk,x0.bf,x0.done,c0.1,c0.2.1))))
def Sh.qQ(x0:aj)(c1:b9):Option (((Vec bn 32×List UInt8×List (List UInt8)×Vec ak 11×List Int×Bool×Int×Int)⊕(Int×aj))) :=
 ((Sh.jL x0 c1).bind fun c0=>(some (inl (c0.2.2.ae.bp,c0.2.2.ae.b_,c0.2.2.ae.ah,c0.2.2.bk,x0.bf,x0.done,c0.1,c0.2.1))))
def Sh.qR(x0:aj)(c1:b9):Option (((Vec bn 32×List UInt8×List (List UInt8)×Vec ak 11×List Int×Bool×Int×Int)⊕(Int×aj))) :=
 ((Sh.jN x0 c1).bind fun c0=>(some (inl (x0.ae.bp,x0.ae.b_,x0.ae.ah,x0.bk,x0.bf,x0.done,c0.1,c0.2))))
def Sh.qS(x0:aj)(c1:b9):Option (((Vec bn 32×List UInt8×List (List UInt8)×Vec ak 11×List Int×Bool×Int×Int)⊕(Int×aj))) :=
 ((Sh.gX x0 c1).bind fun c0=>(some (inl (x0.ae.bp,x0.ae.b_,x0.ae.ah,x0.bk,x0.bf,x0.done,c0.1,c0.2))))
def Sh.qT(x0:aj)(c1:b9):Option (((Vec bn 32×List UInt8×List (List UInt8)×Vec ak 11×List Int×Bool×Int×Int)⊕(Int×aj))) :=
 ((Sh.jM x0 c1).bind fun c0=>(some (inl (c0.2.2.ae.bp,c0.2.2.ae.b_,c0.2.2.ae.ah,c0.2.2.bk,c0.2.2.bf,x0.done,c0.1,c0.2.1))))
def Sh.qU(x0:aj)(c1:b9):Option (((Vec bn 32×List UInt8×List (List UInt8)×Vec ak 11×List Int×Bool×Int×Int)⊕(Int×aj))) :=
 ((Sh.hS x0 c1).bind fun c0=>(some (inl (x0.ae.bp,x0.ae.b_,x0.ae.ah,x0.bk,x0.bf,c0.2.2.done,c0.1,c0.2.1))))
def Sh.iQ(x0:aj)(c1:Vec bn 32)(c2:List UInt8)(c3:List (List UInt8))(c4:Vec ak 11)(c5:List Int)(c0:Bool)(c6:Int)(c7:Int):Option ((Int×aj)) :=
 (bif (!decide (c7=0))then(some (c7,(aj.mk (fq.mk c1 c2 c3 x0.ae.data x0.ae.sizes) x0.code x0.dq x0.cg c4 c5 x0.at_ x0.steps c0)))else(bif c0 then(some (0,(aj.mk (fq.mk c1 c2 c3 x0.ae.data x0.ae.sizes) x0.code x0.dq x0.cg c4 c5 x0.at_ (IntKind.i64.wrap (x0.steps+1)) c0)))else((Fx.get x0.dq (IntKind.i64.wrap (x0.at_+1))).bind fun c8=>(bif (!((Fx.jy x0.cg (IntKind.i64.wrap (c8+c6))).isSome))then(some (89,(aj.mk (fq.mk c1 c2 c3 x0.ae.data x0.ae.sizes) x0.code x0.dq x0.cg c4 c5 x0.at_ x0.steps c0)))else(some (0,(aj.mk (fq.mk c1 c2 c3 x0.ae.data x0.ae.sizes) x0.code x0.dq x0.cg c4 c5 ((Fx.jy x0.cg (IntKind.i64.wrap (c8+c6))).getD 0) (IntKind.i64.wrap (x0.steps+1)) c0)))))))
def Sh.nB(x0:aj)(c0:b9)(c1:Bool):Option ((Int×aj)) :=
 (bif c1 then((Sh.mY x0 c0).bind fun d0=>(some (d0,x0)))else(Fx.seq (Fx.seq (bif (decide (c0.op≤15))then(some (inl (inl ())))else(bif (decide (c0.op≤19))then(some (inl (inr (inl ()))))else(bif (decide (c0.op≤21))then(some (inl (inr (inr (inl ())))))else(bif (decide (c0.op≤23))then(some (inl (inr (inr (inr (inl ()))))))else(bif (decide (c0.op=24))then(some (inl (inr (inr (inr (inr (inl ())))))))else(bif (decide (c0.op=25))then(some (inl (inr (inr (inr (inr (inr (inl ()))))))))else(bif (decide (c0.op=26))then(some (inl (inr (inr (inr (inr (inr (inr (inl ())))))))))else(bif (decide (c0.op≤37))then(some (inl (inr (inr (inr (inr (inr (inr (inr (inl ()))))))))))else(bif (decide (c0.op=38))then(some (inl (inr (inr (inr (inr (inr (inr (inr (inr (inl ())))))))))))else(some (inl (inr (inr (inr (inr (inr (inr (inr (inr (inr ())))))))))))))))))))) (Sum.elim (fun _=>Sh.sM x0 c0) (Sum.elim (fun _=>Sh.sN x0 c0) (Sum.elim (fun _=>Sh.sO x0 c0) (Sum.elim (fun _=>Sh.sP x0 c0) (Sum.elim (fun _=>Sh.sQ x0 c0) (Sum.elim (fun _=>Sh.qQ x0 c0) (Sum.elim (fun _=>Sh.qR x0 c0) (Sum.elim (fun _=>Sh.qS x0 c0) (Sum.elim (fun _=>Sh.qT x0 c0) (fun _=>Sh.qU x0 c0))))))))))) fun(c2,c3,c4,c5,c6,c7,c8,c9)=>Sh.iQ x0 c2 c3 c4 c5 c6 c7 c8 c9))
def Sh.sR(x0:aj)(c0:b9)(c1:Bool):Option ((Int×aj)) :=
 (Fx.seq (bif (!c1)then(bif (!decide (c0.op=39))then(some (inl (decide ((IntKind.i64.wrap (x0.at_+1))=(x0.code.length:Int)))))else(some (inl false)))else(some (inl false))) fun c2=>Sh.nB x0 c0 c2)
def Sh.bA(x0:aj):Option ((Int×aj)) :=
 (bif x0.done then(some (4,x0))else((Fx.get x0.code x0.at_).bind fun c0=>(Fx.seq (bif (decide (26≤c0.op))then(some (inl (decide (c0.op≤37))))else(some (inl false))) fun c1=>Sh.sR x0 c0 c1)))
def Sh.dS(x0:aj)(x1:Int)(c6:Vec bn 32)(c1:List UInt8)(c2:List (List UInt8))(c3:Vec ak 11)(c4:List Int)(c7:Int)(c8:Int)(c5:Bool)(c9:Int):Option (((Vec bn 32×List UInt8×List (List UInt8)×Vec ak 11×List Int×Int×Int×Bool×Int)⊕(ot×Int×aj))) :=
 (bif c5 then((Fx.get c3.l 0).bind fun d0=>((Sh.aM c1).bind fun d1=>((Sh.iH c2).bind fun d2=>((Sh.bH c4).bind fun d3=>(some (inr ((ot.mk d0.x d1 d2 d3),0,(aj.mk (fq.mk c6 c1 c2 x0.ae.data x0.ae.sizes) x0.code x0.dq x0.cg c3 c4 c7 c8 c5))))))))else(bif (decide (x1≤c9))then(some (inr ((ot.mk 0 [] [] []),88,(aj.mk (fq.mk c6 c1 c2 x0.ae.data x0.ae.sizes) x0.code x0.dq x0.cg c3 c4 c7 c8 c5))))else((Sh.bA (aj.mk (fq.mk c6 c1 c2 x0.ae.data x0.ae.sizes) x0.code x0.dq x0.cg c3 c4 c7 c8 c5)).bind fun c0=>(bif (!decide (c0.1=0))then(some (inr ((ot.mk 0 [] [] []),c0.1,(aj.mk (fq.mk c0.2.ae.bp c0.2.ae.b_ c0.2.ae.ah x0.ae.data x0.ae.sizes) x0.code x0.dq x0.cg c0.2.bk c0.2.bf c0.2.at_ c0.2.steps c0.2.done))))else(some (inl (c0.2.ae.bp,c0.2.ae.b_,c0.2.ae.ah,c0.2.bk,c0.2.bf,c0.2.at_,c0.2.steps,c0.2.done,(IntKind.i64.wrap (c9+1)))))))))
def Sh.kM(x0:aj)(x1:Int):Option ((ot×Int×aj)) :=
 (Fx.loop (fun(c0,c1,c2,c3,c4,c5,c6,c7,c8)=>Sh.dS x0 x1 c0 c1 c2 c3 c4 c5 c6 c7 c8) (x0.ae.bp,x0.ae.b_,x0.ae.ah,x0.bk,x0.bf,x0.at_,x0.steps,x0.done,0))
end Go.Proofs
end
noncomputable section
namespace Go.Proofs
open Go Go.Fw Go.Fx
set_option maxRecDepth 10000
def Sh.lA(c0:Int)(c1:Bool):Option ((Int⊕(Unit⊕(Int⊕(Bool⊕(Bool⊕Bool)))))) :=
 (bif c1 then(some (inr (inr (inl c0))))else(some (inl (IntKind.i64.wrap (c0+1)))))
def Sh.cO(x0:fj)(c0:Int):Option ((Int⊕(Unit⊕(Int⊕(Bool⊕(Bool⊕Bool)))))) :=
 (bif (decide (c0<(x0.ah.length:Int)))then((Fx.get x0.ah c0).bind fun c2=>(Fx.seq (some (inl (decide (65535<(c2.length:Int))))) fun c1=>Sh.lA c0 c1))else(some (inr (inl ()))))
def Sh.wC:Option ((Int⊕(Bool⊕(Bool⊕Bool)))) :=
 (some (inl (-1)))
def Sh.pW(c0:Int):Option ((Bool⊕(Bool⊕Bool))) :=
 (some (inl (decide (0≤c0))))
def Sh.pV(c0:Bool):Option ((Bool⊕Bool)) :=
 (some (inl (!c0)))
def Sh.fX(x0:fj)(c0:Bool):Option ((Bool⊕Bool)) :=
 (bif (!c0)then(bif (decide ((x0.ah.length:Int)≤8))then(Fx.seq (Fx.seq (Fx.seq (Fx.loop (fun c3=>Sh.cO x0 c3) 0) fun _=>Sh.wC) fun c2=>Sh.pW c2) fun c1=>Sh.pV c1)else(some (inl false)))else(some (inl false)))
def Sh.iA(c0:Bool):Option Bool :=
 (some c0)
def Sh.gW(x0:fj):Option Bool :=
 (Fx.seq (Fx.seq (some (inl (decide (65535<(x0.b_.length:Int))))) fun c1=>Sh.fX x0 c1) fun c0=>Sh.iA c0)
end Go.Proofs
end
section
namespace Go.Ev
open Go.Fw
def mR(P:Program)(w0:World)(env:Env)(call:ki):Prop :=
 ∀ (I:Ip) (s s':St) (w:World) (g:AV) (vs:List AV) (v:AV),call g vs s=some (v,s')→SR I env w0 s w→jz s.nx g→(∀ u∈vs,jz s.nx u) →
  match g with
  | .f f fs cs=>(∀ args w,(callFunc f args).run P w = .ok (.enter f args) w)∧Calls P f ((fs++vs++cs).map I.g).toArray w (gf (Left I env w0 s s' v))
  | .y l=>∃ f tmps as bd,(Instr.yield (I.sv l).blk (vs.map I.g).toArray).run P w = .ok (.round (I.sv l).blk f tmps as bd) w∧RoundIn (Wd none) 0 P (I.sv l).blk f tmps as bd w (gf (Left I env w0 s s' v))
  | _=>False
section
variable {I:Ip}{env:Env}{n:Nat}{w0 w:World}{s s':St}{F:Fm}{a:Act}{dd:List Deferred}{P:Program}
theorem X_{e z:Nat}(h:(gd P).small e=true)(hz:(gd P).sz e=some z):∃ i zv,P.info? e=some i∧i.bytes≤1000000∧i.zero=some zv∧zv.cells.size=z∧i.size=z:=by
 simp only[gd]at h hz
 obtain⟨i,hi,rfl⟩:=aaI.1 hz
 rw[hi]at h
 simp only[D9,aaB]at h
 obtain⟨h1,h2⟩:=h
 cases EB:i.zero with
 | none=>simp[EB]at h2
 | some zv =>
  simp only[EB]at h2
  exact⟨i,zv,hi,di h1,EB,aac h2,rfl⟩
theorem SR.newRow(h:SR I env w0 s w){m e z k:Nat}{l:List AV}{sv:SV}{w':World}(hf:fresh s (.row e z k l)=some (m,s'))(hr:Row s.nx (k*z) l)(hz:0<z)(hA:iy (.row w0.heap.size sv.v e z k (l.map I.g)) w w') :
  Left I env w0 s s' (.row m []) sv.v w':=by
 have hst:=Step.fresh hf
 obtain⟨e1,e2⟩:=gT hf
 refine⟨I.with s.nx sv #[],Agree.with _ _ _ _,h.add hf sv ⟨hr.n,hz,hr.one,fun v hv=>jF (ab7 _) v (hr.ok v hv)⟩ ?_,?_,by rw[e2,e1];exact acU _,hst,by rw[e2]⟩
 ·simp only[res]
  rw[(Agree.with I s.nx _ _).map hr.ok,mE]
  exact hA
 ·simp only[Ip.g,ig,adi,e1,mE]
theorem W3(h:SR I env w0 s w)(hF:FR I s.nx n F a dd){call:ki}{o:Oper}{xs:Array Operand}{ts:Array TypeId}{v:AV}(ho:o.op = .call { callee:=.builtin .append,args:=xs,argTypes:=ts })(hh:mU (gd P) call s F o.op=some (v,s')):Yd P o a.eval w (Left I env w0 s s' v):=by
 rw[ho]at hh
 simp only[mU,ac1]at hh
 rw[acT]at hh
 obtain⟨us,AO,hh⟩:=hh
 obtain⟨h1,h2⟩:=hF.evals AO
 split at hh
 ·rename_i x y t t' I8
  split at hh
  ·cases hh
  ·rename_i Ln
   simp only[ne_eq,Decidable.not_not]at Ln
   subst Ln
   rw[acT]at hh
   obtain⟨d,(hd:P.underlying t=some d),hh⟩:=hh
   cases d<;>simp only at hh<;>try (cases hh;done)
   rename_i e
   rw[acT]at hh
   obtain⟨z,hz,hh⟩:=hh
   rw[acT]at hh
   obtain⟨q,hq,hh⟩:=hh
   split at hh
   ·cases hh
   ·rename_i hc
    simp only[not_or,ac6]at hc
    obtain⟨hc1,qN,hc3⟩:=hc
    obtain⟨i,zv,hi,An,EB,vg,hsize⟩:=X_ hc3 hz
    obtain⟨sy,hsy,hy,y1,y2⟩:=mA h.gk hq
    have Gi:∀ u∈q.2.map I.g,u.oneCell' = true:=by
     intro u hu
     obtain⟨u',hu',rfl⟩:=aaW.1 hu
     exact Iq (y1 u' hu')
    have hpos:0<z:=adr
    have hxs:xs.map a.eval = #[I.g x,sy.v]:=by
     rw[←adb,acW,h1];simp[hsy]
    have P3:ts = #[t,t]:=by rw[←adb];simpa using I8
    have fin:∀ {u:Value} {w':World},(Builtin.append_ #[t,t] o.type #[I.g x,sy.v]).run P w = .ok u w' → (execOp a.eval o).run P w = .ok (.value u) w':=by
     intro u w' e
     simp only[execOp,ho,resolve,invoke,builtin,Sem.run_bind,Sem.run_pure,Result.andThen_ok,hxs,P3,e]
    have hrow:∀ (m:Nat) (l:List AV),m≤1000000→Row s.nx (m*z) l→Row s.nx ((m+q.1)*z) (Az l q.2):=by
     intro m l _ hr
     rw[zW]
     refine⟨by rw[ach,hr.n,aci];have:=hy.n;rw[abM]at this;omega,fun u hu=>?_,fun u hu=>?_⟩
     ·exact(aaR.1 hu).elim (hr.one u) (y1 u)
     ·exact(aaR.1 hu).elim (hr.ok u) (y2 u)
    have hb1:∀ m,m≤1000000→m+q.1≤maxLen∧(m+q.1)*i.bytes≤140737488355328:=by
     intro m hm
     refine⟨by simp only[maxLen];omega,?_⟩
     have:(m+q.1)*i.bytes≤2000000*1000000:=Nat.mul_le_mul adr An
     omega
    split at hh
    ·-- onto nothing
     split at hh
     ·rename_i Us
      simp only[adq,Prod.mk.injEq]at hh
      obtain⟨rfl,rfl⟩:=hh
      refine Yd.B5 (v:=I.g .nsl) (w':=w) (fin ?_) ⟨I,Agree.refl _ _,h,rfl,trivial,Step.refl _,rfl⟩
      have hl:=hy.len
      rw[Us]at hl
      obtain⟨sa,sl,sc⟩:=sy
      simp only at hl;subst hl
      cases sa<;>simp[ig,Builtin.append_,run_underlying hd,sizeOf,typeInfo,hi,Builtin.lenOf,Builtin.firstCells,loadCells,loadCellsFrom]
     ·rename_i Us
      rw[acT]at hh
      obtain⟨⟨m,s1⟩,hf,hh⟩:=hh
      simp only[adq,Prod.mk.injEq]at hh
      obtain⟨rfl,rfl⟩:=hh
      obtain⟨C_,KW⟩:=hb1 0 adr
      obtain⟨Jg,w',hr,hU⟩:=SJ (P:=P) (ty:=o.type) (sv:=SV.nil) (xs:=[]) (m:=0) hd hi EB hsize vg hpos (World.ownsRow_nil w w0.heap.size e z) hy Gi C_ KW h.size
      refine Yd.B5 (fin hr) (h.newRow hf ⟨?_,y1,y2⟩ hpos ⟨⟨hU.io,hU.size,fun k hk _=>hU.block k hk (by simp[dw.fp,Value.ownBlock])⟩,?_,fun k hk=>?_⟩)
      ·have:=hy.n;rwa [abM]at this
      ·have:=hU.holds;simpa using this
      ·rcases hU.fp k (by simpa[dw.fp]using hk)with h9|h9
       ·simp[dw.fp,Value.ownBlock]at h9
       ·exact h9
    ·-- onto a slice without room
     rename_i m off len cap
     split at hh
     ·cases hh
     ·rename_i hlc
      simp only[not_or,Nat.not_le,Nat.not_lt]at hlc
      obtain⟨I4,hl2⟩:=hlc
      rw[acT]at hh
      obtain⟨p,hp,hh⟩:=hh
      rw[acT]at hh
      obtain⟨⟨m',s1⟩,hf,hh⟩:=hh
      simp only[adq,Prod.mk.injEq]at hh
      obtain⟨rfl,rfl⟩:=hh
      obtain⟨sx,hsx,hx,x1,x2⟩:=mA h.gk hp
      have Lj:sx=⟨some ⟨(I.sv m).blk,off,none⟩,len,cap⟩:=by
       have e9:(Value.slice (some ⟨(I.sv m).blk,off,none⟩) len cap)=sx.v:=by rw[←hsx];simp[ig]
       obtain⟨a1,a2,a3⟩:=sx
       simp only[SV.v,Value.slice.injEq]at e9
       obtain⟨r1,r2,r3⟩:=e9
       rw[r1,r2,r3]
      have PT:p.1=len:=by have:=hx.len;rw[Lj]at this;exact this.symm
      rw[PT]at hx
      rw[Lj]at hx
      obtain⟨C_,KW⟩:=hb1 len hl2
      obtain⟨Jg,w',hr,hA⟩:=CO (P:=P) (ty:=o.type) (lo:=w0.heap.size) hd hi EB hsize vg hx hy I4 C_ KW h.size
      have I9:Row s.nx (len*z) p.2:=⟨by have:=hx.n;rwa [abM]at this,x1,x2⟩
      refine Yd.B5 (v:=Jg.v) (w':=w') (fin ?_) (h.newRow hf (hrow len p.2 hl2 I9) hpos ?_)
      ·rw[show I.g (.sl m off len cap) = .slice (some ⟨(I.sv m).blk,off,none⟩) len cap by simp[ig]];exact hr
      ·rw[zW,abo];exact hA
    ·-- onto a row
     rename_i m
     split at hh
     ·rename_i e' z' c l hm
      split at hh
      ·rename_i hcc
       obtain⟨rfl,rfl,hcm⟩:=hcc
       rw[acT]at hh
       obtain⟨⟨m',s1⟩,hf,hh⟩:=hh
       simp only[adq,Prod.mk.injEq]at hh
       obtain⟨rfl,rfl⟩:=hh
       obtain⟨hk,hok⟩:=h.ok m _ hm
       have hown:w.ownsRow w0.heap.size e' z' (I.sv m).v c (l.map I.g):=h.holds m _ hm
       obtain⟨C_,KW⟩:=hb1 c hcm
       obtain⟨Jg,w',hr,hU⟩:=SJ (P:=P) (ty:=o.type) hd hi EB hsize vg hpos hown hy Gi C_ KW h.size
       have I9:=hrow c l hcm ⟨hok.1,hok.2.2.1,hok.2.2.2⟩
       have hst:Step s s1:=(Step.wrote s m .dead).trans (Step.fresh hf)
       obtain⟨e1,e2⟩:=gT hf
       have NK:m' = s.nx:=e1
       refine Yd.B5 (v:=Jg.v) (w':=w') (fin ?_) ⟨I.with s.nx Jg #[],Agree.with _ _ _ _,h.move hm hf Jg ⟨I9.n,hpos,I9.one,fun v hv=>jF (ab7 _) v (I9.ok v hv)⟩ ?_,?_,by rw[e2,NK];exact acU _,hst,by rw[e2];rfl⟩
       ·rw[show I.g (.row m [])=(I.sv m).v by simp[ig]];exact hr
       ·simp only[res]
        rw[(Agree.with I s.nx _ _).map I9.ok,mE,zW,abo]
        exact hU
       ·simp only[Ip.g,ig,adi,NK,mE]
      ·cases hh
     ·cases hh
    ·cases hh
 ·cases hh
theorem Zq(h:SR I env w0 s w)(hF:FR I s.nx n F a dd){call:ki}(hC:mR P w0 env call){o:Oper}{x:Operand}{xs:Array Operand}{ts:Array TypeId}{v:AV}(ho:o.op = .call { callee:=.value x,args:=xs,argTypes:=ts })(hh:mU (gd P) call s F o.op=some (v,s')):Yd P o a.eval w (Left I env w0 s s' v):=by
 rw[ho]at hh
 simp only[mU,ac1]at hh
 rw[acT]at hh
 obtain⟨g,hg,hh⟩:=hh
 rw[acT]at hh
 obtain⟨us,AO,hh⟩:=hh
 obtain⟨h1,h2⟩:=hF.evals AO
 obtain⟨h3,h4⟩:=hF.eval hg
 have hxs:xs.map a.eval=(us.map I.g).toArray:=by
  rw[←adb,acW,h1]
 have hc:=hC I s s' w g us v hh h h4 h2
 cases g<;>try (exact hc.elim)
 case f q fs cs =>
  obtain⟨c1,c2⟩:=hc
  unfold Yd
  simp only[execOp,ho,resolve,h3,ig,fD,Deferred.ofValue,invoke,Sem.run_bind,Sem.run_pure,Result.andThen_ok,hxs,acg,c1]
  simp only[abo]at c2
  exact c2
 case y l =>
  obtain⟨f,tmps,as,bd,c1,c2⟩:=hc
  unfold Yd
  simp only[execOp,ho,resolve,h3,ig,Deferred.ofValue,invoke,Sem.run_bind,Sem.run_pure,Result.andThen_ok,hxs,ace,c1]
  exact c2
theorem Yt(h:SR I env w0 s w)(hF:FR I s.nx n F a dd){call:ki}(hC:mR P w0 env call){o:Oper}{v:AV}(hh:mU (gd P) call s F o.op=some (v,s')):Yd P o a.eval w (Left I env w0 s s' v):=by
 have h0:=hh
 cases ho:o.op with
 | alloc e=>exact Yr h hF ho hh
 | box e x=>exact ZU h hF ho hh
 | store t x y=>exact Ys h hF ho hh
 | buildSlice t len ps=>exact VH h hF ho hh
 | convert t t' x=>exact WQ h hF ho hh
 | makeMap t r =>
  cases r with
  | none=>exact WR h ho hh
  | some r=>rw[ho]at hh;simp[mU]at hh
 | mapUpdate t m k x=>exact VK h hF ho hh
 | call c =>
  obtain⟨callee,xs,ts⟩:=c
  cases callee with
  | builtin b =>
   cases b<;>first
    | exact W3 h hF ho hh
    | (rw[ho]at hh;simp[mU]at hh)
  | value x=>exact Zq h hF hC ho hh
  | invoke x y=>rw[ho]at hh;simp[mU]at hh
 | _=>rw[ho]at hh;simp[mU]at hh
theorem N8(h:SR I env w0 s w)(hF:FR I s.nx n F a dd){call:ki}(hC:mR P w0 env call){o:Oper}{v:AV}(hh:JU (gd P) call s F o.op=some (v,s')):Yd P o a.eval w (Left I env w0 s s' v):=by
 unfold JU at hh
 have hact:=Yt (P:=P) h hF hC (o:=o) (v:=v) (s':=s')
 split at hh
 ·split at hh
  ·rename_i u hu
   simp only[adq,Prod.mk.injEq]at hh
   obtain⟨rfl,rfl⟩:=hh
   obtain⟨h1,h2⟩:=zX h.gk hF hu
   exact Yd.B5 h1 ⟨I,Agree.refl _ _,h,rfl,h2,Step.refl _,rfl⟩
  ·exact hact hh
 ·exact hact hh
end
end Go.Ev
end
section
namespace Go.Ev
open Go.Fw
theorem Yd.ex{P:Program}{o:Oper}{ρ:Operand→Value}{w:World}{J:Value→World→Prop}(h:Yd P o ρ w J):∃ v w',J v w':=by
 unfold Yd at h
 generalize (execOp ρ o).run P w=r at h
 cases r with
 | halt _ _=>exact h.elim
 | ok x w' =>
  cases x<;>simp only at h
  case value=>exact⟨_,_,h⟩
  case skip=>exact⟨_,_,h⟩
  case enter f args =>
   obtain⟨e,w2,fr,hr,_⟩:=h []
   cases e<;>first|exact⟨_,_,hr⟩|exact hr.elim
  case round l f tmps assign body =>
   obtain⟨e,w2,hr,_⟩:=h.2 default [] (room_wide _)
   cases e<;>first|exact⟨_,_,hr⟩|exact hr.elim
theorem SR.wr{I:Ip}{env:Env}{w0 w:World}{s:St}(h:SR I env w0 s w)(l:List Nat):SR I env w0 { s with wr:=l } w:=⟨h.old,h.io,h.ok,h.holds,h.low,h.apart,h.cj,h.env⟩
section
variable {r:Option Nat}{I:Ip}{env:Env}{n:Nat}{w0 w:World}{s s':St}{F F':Fm}{a:Act}{dd:List Deferred}{P:Program}{ops:Array Oper}{call:ki}{Q:Exit→Act→World→Prop}
def Then(I:Ip)(env:Env)(w0:World)(n:Nat)(dd:List Deferred)(s:St)(F':Fm)(s':St)(K:Act→World→Prop):Prop :=
 ∀ I' a' w',Agree s.nx I I' → SR I' env w0 s' w' → FR I' s'.nx n F' a' dd→Step s s' → s'.cj=s.cj→K a' w'
theorem Yv(hC:mR P w0 env call):∀ (l:List Oper) {F:Fm} {s:St} {I:Ip} {a:Act} {w:World},BN (gd P) call n ops l F s=some (F',s')→SR I env w0 s w→FR I s.nx n F a dd →
  Then I env w0 n dd s F' s' (Q .normal)→w9 r P ops Q l a w:=by
 intro l
 induction l with
 | nil =>
  intro F s I a w hh h hF hQ
  simp only[BN,adq,Prod.mk.injEq]at hh
  obtain⟨rfl,rfl⟩:=hh
  exact hQ I a w (Agree.refl _ _) h hF (Step.refl _) rfl
 | cons o l ih =>
  intro F s I a w hh h hF hQ
  simp only[BN,ac1]at hh
  rw[acT]at hh
  obtain⟨b,hb,hh⟩:=hh
  have hw:=hF.want hb
  refine wpListIn_step fun _ hK=>?_
  rw[hw]
  cases b with
  | true =>
   simp only[if_true]at hh ⊢
   rw[acT]at hh
   obtain⟨⟨v,s1⟩,hq,hh⟩:=hh
   rw[NW,acT]at hh
   obtain⟨F1,uu,hh⟩:=hh
   refine Yd.wp ((N8 h hF hC hq).mono fun u w' hA=>?_)
   obtain⟨I',hA⟩:=hA
   refine hK _ _ (ih hh hA.sr (by rw[hA.val];exact(hF.agree hA.ag hA.step.nx).pq uu hA.QE) ?_)
   intro I2 a2 w2 ag hs hf hst hm
   exact hQ I2 a2 w2 (hA.ag.trans ag hA.step.nx) hs hf (hA.step.trans hst) (hm.trans hA.cj)
  | false =>
   simp only[abQ,if_false]at hh ⊢
   rw[acT]at hh
   obtain⟨F1,uu,hh⟩:=hh
   exact⟨fun _ _=>trivial,hK _ _ (ih hh h (by have:=hF.pq uu (v:=.nY) trivial;simpa only[Ip.g,ig]using this) hQ)⟩
theorem KJ{es es':List (AV×AV×Nat)}(h1:es.map (·.1)=es'.map (·.1))(h2:es.map (·.2.1)=es'.map (·.2.1))(h3:es.map (·.2.2)=es'.map (·.2.2)):es=es':=by
 induction es generalizing es' with
 | nil=>cases es' <;> simp at h1 ⊢
 | cons e es ih =>
  cases es' with
  | nil=>simp at h1
  | cons e' es' =>
   simp only[abp,List.cons.injEq]at h1 h2 h3
   obtain⟨a,b,c⟩:=e
   obtain⟨a',b',c'⟩:=e'
   simp only at h1 h2 h3
   rw[ih h1.2 h2.2 h3.2,h1.1,h2.1,h3.1]
theorem Zu{x y:lu}(h:Om x y=true):x=y:=by
 cases x<;>cases y<;>simp only[Om,aaB,aaQ,aa6,abQ,beq_iff_eq]at h<;>try rfl
 case pt.pt=>obtain⟨⟨rfl,rfl⟩,h⟩:=h;rw[mC _ _ h]
 case fz.fz=>obtain⟨⟨rfl,rfl⟩,h⟩:=h;rw[mC _ _ h]
 case row.row=>obtain⟨⟨⟨rfl,rfl⟩,rfl⟩,h⟩:=h;rw[mC _ _ h]
 case map.map=>obtain⟨⟨⟨rfl,h1⟩,h2⟩,h3⟩:=h;rw[KJ (mC _ _ h1) (mC _ _ h2) h3]
 case loop.loop=>obtain⟨rfl,rfl⟩:=h;rfl
 case defd.defd=>rw[h]
theorem YA(f:Nat→Nat)(l:List AV):r7 f l=l.map (ren f):=by
 induction l with
 | nil=>simp[r7]
 | cons v l ih=>simp[r7,ih]
def Ip.ren(I:Ip)(f:Nat→Nat):Ip:=⟨fun m=>I.sv (f m),fun m=>I.arr (f m),fun m=>I.fn (f m)⟩
theorem Ip.ren_g(I:Ip)(f:Nat→Nat)(v:AV):(I.ren f).g v=I.g (Ev.ren f v):=(SU I.sv f v).symm
theorem Ip.ren_map(I:Ip)(f:Nat→Nat)(l:List AV):(r7 f l).map I.g=l.map (I.ren f).g:=by
 rw[YA,ac5];exact ac8 fun v _=>(I.ren_g f v).symm
theorem YB{f:Nat→Nat}{lo m:Nat}{o:lu}(he:iq env (f m)=iq env m)(hL:∀ L,iq env m=some L→f m=m∧f L.d=L.d):res (I.ren f) env lo m o=res I env lo (f m) (HM f o):=by
 cases o<;>simp only[res,HM,Ip.ren_map]<;>try rfl
 case map es c =>
  simp only[ac5]
  have e:(es.map fun e=>(⟨(I.ren f).g e.1,(I.ren f).g e.2.1,e.2.2⟩ : MapEntry))=es.map ((fun e=>(⟨I.g e.1,I.g e.2.1,e.2.2⟩ : MapEntry))∘fun e=>(Ev.ren f e.1,Ev.ren f e.2.1,e.2.2)) :=
   ac8 fun e _=>by simp only[Function.comp,Ip.ren_g]
  rw[e];rfl
 case loop st pd =>
  rw[he]
  cases hh:iq env m with
  | none=>rfl
  | some L =>
   obtain⟨h1,h2⟩:=hL L hh
   simp only[nc,Ip.ren,h1,h2]
theorem V4{l:List Nat}(h:od l=true):∀ (i j x:Nat),l[i]? = some x→l[j]? = some x→i=j:=by
 induction l with
 | nil=>intro i j x hi;simp at hi
 | cons y l ih =>
  simp only[od,aaB,aaC,aaD,aaE]at h
  intro i j x hi hj
  cases i with
  | zero =>
   cases j with
   | zero=>rfl
   | succ j=>simp at hi hj;subst hi;exact absurd (abb hj) h.1
  | succ i =>
   cases j with
   | zero=>simp at hi hj;subst hj;exact absurd (abb hi) h.1
   | succ j=>simp at hi hj;rw[ih h.2 i j x hi hj]
theorem X8{I0:Ip}{s0 s1 s2:St}{F1 F2:Fm}{f:Nat→Nat}{wa:World}(IY:SR I0 env w0 s0 wa)(hf:∀ m,m<s0.nx→f m=m)(hs:yg n s0.nx f F1 s1 F2 s2=true)
  (st1:Step s0 s1) (st2:Step s0 s2) {I1:Ip} {a1:Act} {w1:World} (h1:SR I1 env w0 s1 w1) (uu:FR I1 s1.nx n F1 a1 dd)
  {I2:Ip} {a2:Act} {w2:World} (ag:Agree s0.nx I0 I2) (h2:SR I2 env w0 s2 w2) (Ox:FR I2 s2.nx n F2 a2 dd) :
  Agree s0.nx I0 (I2.ren f)∧SR (I2.ren f) env w0 s1 w2∧FR (I2.ren f) s1.nx n F1 a2 dd∧s2.nx=s1.nx:=by
 simp only[yg,aaB,aaN,aaO,aaQ,aa6,aaP,aaR,aaT,aaW]at hs
 obtain⟨⟨⟨⟨⟨⟨⟨Hn,hmk⟩,hrg⟩,hnd⟩,hfr⟩,hw1⟩,hw2⟩,hob⟩:=hs
 have PR:=st1.nx
 have TB:Agree s0.nx I0 (I2.ren f):=⟨fun m hm=>by simp only[Ip.ren,hf m hm];exact ag.sv m hm,fun m hm=>by simp only[Ip.ren,hf m hm];exact ag.arr m hm,fun m hm=>by simp only[Ip.ren,hf m hm];exact ag.fn m hm⟩
 have Oc:Agree s0.nx I2 (I2.ren f):=⟨fun m hm=>by simp only[Ip.ren,hf m hm],fun m hm=>by simp only[Ip.ren,hf m hm],fun m hm=>by simp only[Ip.ren,hf m hm]⟩
 have hge:∀ m,s0.nx≤m→m<s1.nx→s0.nx≤f m∧f m<s1.nx:=by
  intro m h3 h4
  have:=hrg (m-s0.nx) adr
  rw[show s0.nx+(m-s0.nx)=m by omega]at this
  exact⟨di this.1,di this.2⟩
 have hinj:∀ m m',m<s1.nx→m' < s1.nx→f m=f m' → m=m':=by
  intro m m' h3 h4 h5
  by_cases c1:m<s0.nx
  ·by_cases c2:m' < s0.nx
   ·rw[hf m c1,hf m' c2]at h5;exact h5
   ·have:=hge m' adr h4;rw[hf m c1]at h5;omega
  ·by_cases c2:m' < s0.nx
   ·have:=hge m adr h3;rw[hf m' c2]at h5;omega
   ·have key:=V4 hnd (m-s0.nx) (m' - s0.nx) (f m)
    have e1:((List.range (s1.nx-s0.nx)).map fun m=>f (s0.nx+m))[m-s0.nx]? = some (f m):=by
     rw[aby,adj adr];simp only[aaU];rw[show s0.nx+(m-s0.nx)=m by omega]
    have e2:((List.range (s1.nx-s0.nx)).map fun m=>f (s0.nx+m))[m' - s0.nx]? = some (f m):=by
     rw[aby,adj adr];simp only[aaU];rw[show s0.nx+(m' - s0.nx)=m' by omega,h5]
    have:=key e1 e2
    omega
 -- each thing of the one way is one of the other
 have kT:∀ m o,find s1.h m=some o → ∃ o',find s2.h (f m)=some o' ∧ res (I2.ren f) env w0.heap.size m o=res I2 env w0.heap.size (f m) o':=by
  intro m o hm
  have hlt:=(h1.ok m o hm).1
  by_cases c:m<s0.nx∧m∉s1.wr
  ·obtain⟨c1,c2⟩:=c
   have e1:find s0.h m=some o:=by rw[←st1.yk m c1 c2];exact hm
   have c3:m∉s2.wr:=by
    intro hx
    rcases hw2 m hx with h3|h3
    ·exact c2 (fH.1 h3)
    ·have:=di h3;omega
   refine⟨o,by rw[hf m c1,st2.yk m c1 c3];exact e1,?_⟩
   rw[hf m c1]
   exact yF Oc (fun L hL=>(IY.env.name m L hL).2) rfl (IY.ok m o e1).2 c1
  ·have hmem:(m∈s1.wr∧Nat.blt m s0.nx=true) ∨ ∃ q,q<s1.nx-s0.nx∧s0.nx+q=m:=by
    by_cases c1:m<s0.nx
    ·exact .inl ⟨Classical.byContradiction fun x=>c ⟨c1,x⟩,by rw[adk];exact c1⟩
    ·exact .inr ⟨m-s0.nx,adr,adr⟩
   have:=hob m hmem
   rw[hm]at this
   cases hx:find s2.h (f m)with
   | none=>simp[hx]at this
   | some o' =>
    simp only[hx]at this
    have e:=Zu this
    refine⟨o',rfl,?_⟩
    rw[←e]
    refine YB ?_ fun L hL=>?_
    ·by_cases c1:m<s0.nx
     ·rw[hf m c1]
     ·have q1:iq env m=none:=by
       cases q:iq env m with
       | none=>rfl
       | some L=>have:=(IY.env.name m L q).1;omega
      have q2:iq env (f m)=none:=by
       cases q:iq env (f m)with
       | none=>rfl
       | some L=>have:=(IY.env.name _ L q).1;have:=(hge m adr hlt).1;omega
      rw[q1,q2]
    ·obtain⟨q1,q2⟩:=IY.env.name m L hL
     exact⟨hf m q1,hf _ q2⟩
 refine⟨TB,⟨h2.old,h2.io,h1.ok,fun m o hm=>?_,fun m o hm b hb=>?_,?_,h1.cj,IY.env.agree TB PR⟩,?_,Hn.symm⟩
 ·obtain⟨o',e1,e2⟩:=kT m o hm;rw[e2];exact h2.holds _ _ e1
 ·obtain⟨o',e1,e2⟩:=kT m o hm;rw[e2]at hb;exact h2.low _ _ e1 b hb
 ·intro m m' o o' hm Uk hne b hb hb'
  obtain⟨p,e1,e2⟩:=kT m o hm
  obtain⟨p',NK,e2'⟩:=kT m' o' Uk
  rw[e2]at hb
  rw[e2']at hb'
  exact h2.apart _ _ p p' e1 NK (fun x=>hne (hinj m m' (h1.ok m o hm).1 (h1.ok m' o' Uk).1 x)) b hb hb'
 ·refine⟨Ox.defers,Ox.size,fun t v hv=>?_⟩
  obtain⟨q1,q2,_⟩:=uu.get t v hv
  refine⟨q1,q2,?_⟩
  have:=hfr t q1
  rw[hv]at this
  cases hx:F2.get t with
  | none=>simp[hx]at this
  | some v' =>
   simp only[hx]at this
   have e:=Tf _ _ this
   rw[Ip.ren_g,e]
   exact(Ox.get t v' hx).2.2
end
end Go.Ev
end
section
namespace Go.Ev
open Go.Fw
theorem WH{acc:List Nat}(l:List Nat)(m0:Nat)(j:Nat):(l.foldl (fun m p=>m ||| 2^p ||| acc.getD p 0) m0).testBit j=true→m0.testBit j=true ∨ ∃ p∈l,p=j∨(acc.getD p 0).testBit j=true:=by
 induction l generalizing m0 with
 | nil=>intro h;exact .inl h
 | cons p l ih =>
  intro h
  simp only[acE]at h
  rcases ih _ h with h|⟨q,hq,h⟩
  ·rw[Nat.testBit_or,Nat.testBit_or]at h
   simp only[aaP]at h
   rcases h with(h|h)|h
   ·exact .inl h
   ·rw[Nat.testBit_two_pow]at h
    exact .inr ⟨p,aa3,.inl (by simpa using h)⟩
   ·exact .inr ⟨p,aa3,.inr h⟩
  ·exact .inr ⟨q,aaZ _ hq,h⟩
theorem Ss(ops:Array Oper)(k:Nat):let acc:=(List.range k).foldl (fun acc i=>acc ++ [(iu ops i).foldl (fun m p=>m ||| 2^p ||| acc.getD p 0) 0]) ([]:List Nat)
  acc.length=k ∧ ∀ e j,e<k→(acc.getD e 0).testBit j=true → ∀ dj:Array Bool,dj.size=ops.size→(∀ i,i<ops.size→dj.getD i true=true → ∀ p∈iu ops i,dj.getD p true=true) →
   (∀ p∈iu ops e,dj.getD p true=true)→dj.getD j true=true:=by
 induction k with
 | zero=>simp
 | succ k ih =>
  simp only[abn,adl,acE,adi]at ih ⊢
  generalize (List.range k).foldl (fun acc i=>acc ++ [(iu ops i).foldl (fun m p=>m ||| 2^p ||| acc.getD p 0) 0]) ([]:List Nat)=acc at ih ⊢
  obtain⟨h1,h2⟩:=ih
  refine⟨by simp[h1],fun e j he hb dj hs hcl ha=>?_⟩
  by_cases hek:e<k
  ·refine h2 e j hek ?_ dj hs hcl ha
   rw[adn,abk adr]at hb
   rw[adn];exact hb
  ·have:e=k:=adr
   subst this
   rw[adn,abl adr,h1,Nat.sub_self]at hb
   simp only[ac7,aaV]at hb
   rcases WH _ _ _ hb with hb|⟨p,hp,hb⟩
   ·simp at hb
   ·have hl:=ha p hp
    rcases hb with rfl|hb
    ·exact hl
    ·by_cases Up:p<e
     ·by_cases hps:p<ops.size
      ·exact h2 p j Up hb dj hs hcl (hcl p hps hl)
      ·refine h2 p j Up hb dj hs hcl ?_
       intro q hq
       simp[iu,aa2 (by omega:ops.size≤p)]at hq
     ·rw[adn,aaf adr]at hb
      simp at hb
theorem YF{ops:Array Oper}{T:List Nat}{e:Nat}(h:Gf ops T e=true):Bd ops T e:=by
 intro dj hs hcl ha j hj
 have hb:=aaN.1 h j hj
 by_cases he:e<ops.size
 ·exact .inr ((Ss ops ops.size).2 e j he hb dj hs hcl ha)
 ·have:=(Ss ops ops.size).1
  unfold F3 at hb
  rw[adn,aaf adr]at hb
  simp at hb
theorem JA{l acc:List Nat}{m:Nat}(h:m∈acc):m∈l.foldl (fun acc n=>bif jw n acc then acc else n::acc) acc:=by
 induction l generalizing acc with
 | nil=>exact h
 | cons x l ih =>
  simp only[acE]
  refine ih ?_
  cases jw x acc<;>simp[h]
theorem jE{F:Fm}{x:Operand}{acc:List Nat}{m:Nat}(h:m∈acc):m∈lF F x acc:=by
 unfold lF
 split
 ·exact JA h
 ·exact h
theorem VD{F:Fm}{l:List Operand}{acc:List Nat}{m:Nat}(h:m∈acc):m∈l.foldl (fun acc x=>lF F x acc) acc:=by
 induction l generalizing acc with
 | nil=>exact h
 | cons x l ih=>exact ih (jE h)
theorem VR{F:Fm}{o:Op}{acc:List Nat}{m:Nat}(h:m∈acc):m∈ny F o acc:=by
 unfold ny
 split
 ·exact jE h
 ·split<;>first|exact jE h|exact h
 ·exact jE h
 ·exact jE h
 ·split<;>first|exact jE h|exact h
 ·split<;>first|exact jE h|exact h
 ·exact VD h
 ·exact h
theorem XC{p:Nat→Bool}{l:List Nat}{i:Nat}(h:zy p l=some i):p i=true:=by
 induction l with
 | nil=>simp[zy]at h
 | cons x l ih =>
  simp only[zy]at h
  cases hb:p x with
  | true=>simp only[hb,abA,adq]at h;subst h;exact hb
  | false=>simp only[hb,abC]at h;exact ih h
theorem Xd{zu:Nat}{l l':Log}{m:Nat}(h:m<zu):AU zu l l' m=m:=by
 unfold AU
 have:Nat.blt m zu=true:=by rw[adk];exact h
 rw[this];rfl
section
variable {r:Option Nat}{env:Env}{n:Nat}{w0:World}{dd:List Deferred}{P:Program}{ops:Array Oper}{call:ki}{Q:Exit→Act→World→Prop}
def Lk(I:Ip)(env:Env)(w0:World)(rd:List Nat)(s:St)(w:World):Prop:=∀ m∈rd,∀ o,find s.h m=some o→(res I env w0.heap.size m o).holds w
theorem Lk.gk{I:Ip}{rd:List Nat}{s:St}{w wa:World}(h:Lk I env w0 rd s w)(ha:SR I env w0 s wa):GK I env w0.heap.size s.nx w (wz rd s.h):=by
 have key:∀ m o,wz rd s.h m=some o→m∈rd∧find s.h m=some o:=by
  intro m o e
  unfold wz at e
  cases hb:jw m rd with
  | true=>rw[hb]at e;exact⟨fH.1 hb,e⟩
  | false=>rw[hb]at e;simp at e
 exact⟨fun m o e=>h m (key m o e).1 o (key m o e).2,fun m o e=>⟨(ha.ok m o (key m o e).2).2,(ha.ok m o (key m o e).2).1⟩⟩
theorem rX{next:vr}{R D:List Nat}{F:Fm}{rd:List Nat}{s:St}{lg:Log}{e:Nat}{x:Fm×St×Log}(h:xp (gd P) call n ops next R D F rd s lg e=some x) :
  ∃ o v s1 EC F1,ops[e]? = some o∧mf o=true∧su ops F o=some true∧JU (gd P) call { s with wr:=[] } F o.op=some (v,s1)∧AL ops D e s.nx rd s1.wr=some EC∧pq n F o.dst v=some F1 ∧
   next (wj e R) (e::D) F1 EC { s1 with wr:=s1.wr++s.wr } ((e,s.nx,s1.nx)::lg)=some x:=by
 simp only[xp,ac1]at h
 rw[acT]at h
 obtain⟨o,ho,h⟩:=h
 split at h
 ·rename_i hc
  simp only[aaB,beq_iff_eq]at hc
  rw[acT]at h
  obtain⟨⟨v,s1⟩,hq,h⟩:=h
  rw[acT]at h
  obtain⟨EC,hrd,h⟩:=h
  rw[NW,acT]at h
  obtain⟨F1,uu,h⟩:=h
  exact⟨o,v,s1,EC,F1,ho,hc.1,hc.2,hq,hrd,uu,h⟩
 ·cases h
theorem yX{next:vr}{R D:List Nat}{F:Fm}{rd:List Nat}{s:St}{lg:Log}{i:Nat}{x:Fm×St×Log}(h:CY (gd P) n ops next R D F rd s lg i=some x) :
  ∃ o,ops[i]? = some o∧((∃ v F1,su ops F o=some true∧jo (gd P) (wz (ny F o.op rd) s.h) F o.op=some v∧pq n F o.dst v=some F1∧next (wj i R) (i::D) F1 (ny F o.op rd) s lg=some x) ∨
   (∃ F1,su ops F o=some false∧pq n F o.dst .nY=some F1∧next (wj i R) (i::D) F1 rd s lg=some x)):=by
 simp only[CY,ac1]at h
 rw[acT]at h
 obtain⟨o,ho,h⟩:=h
 refine⟨o,ho,?_⟩
 rw[acT]at h
 obtain⟨b,hb,h⟩:=h
 cases b with
 | true =>
  simp only[if_true]at h
  rw[acT]at h
  obtain⟨v,hv,h⟩:=h
  rw[NW,acT]at h
  obtain⟨F1,uu,h⟩:=h
  exact .inl ⟨v,F1,hb,hv,uu,h⟩
 | false =>
  simp only[abQ,if_false]at h
  rw[acT]at h
  obtain⟨F1,uu,h⟩:=h
  exact .inr ⟨F1,hb,uu,h⟩
theorem Step.app{s s1:St}(h:Step { s with wr:=[] } s1):Step s { s1 with wr:=s1.wr++s.wr } :=
 ⟨h.nx,fun m _ hm=>aaR.2 (.inr hm),fun m hm hn=>h.yk m hm fun x=>hn (aaR.2 (.inl x))⟩
def Ends(I:Ip)(env:Env)(w0:World)(n:Nat)(dd:List Deferred)(s:St)(F':Fm)(s':St):Prop :=
 ∃ I' a' w',Agree s.nx I I' ∧ SR I' env w0 s' w' ∧ FR I' s'.nx n F' a' dd∧Step s s' ∧ s'.cj=s.cj
theorem FD(hC:mR P w0 env call){next:vr}(ih:∀ R D F rd s lg x,next R D F rd s lg=some x → ∀ I a w,SR I env w0 s w→FR I s.nx n F a dd→Ends I env w0 n dd s x.1 x.2.1)
  {R D:List Nat} {F:Fm} {rd:List Nat} {s:St} {lg:Log} {e:Nat} {x:Fm×St×Log} (hh:xp (gd P) call n ops next R D F rd s lg e=some x)
  {I:Ip} {a:Act} {w:World} (h:SR I env w0 s w) (hF:FR I s.nx n F a dd):Ends I env w0 n dd s x.1 x.2.1:=by
 obtain⟨o,v,s1,EC,F1,ho,_,_,hq,_,uu,hn⟩:=rX hh
 obtain⟨u,w',I',hA⟩:=Yd.ex (N8 (h.wr []) hF hC hq)
 obtain⟨I2,a2,w2,q1,q2,q3,q4,q5⟩:=ih _ _ _ _ _ _ _ hn I' (a.put o.dst (I'.g v)) w' (hA.sr.wr _) ((hF.agree hA.ag hA.step.nx).pq uu hA.QE)
 exact⟨I2,a2,w2,hA.ag.trans q1 hA.step.nx,q2,q3,hA.step.app.trans q4,q5.trans hA.cj⟩
theorem W5(hC:mR P w0 env call):∀ (k:Nat) (R D:List Nat) (F:Fm) (rd:List Nat) (s:St) (lg:Log) (x:Fm×St×Log),pR (gd P) call n ops k R D F rd s lg=some x →
  ∀ I a w,SR I env w0 s w→FR I s.nx n F a dd→Ends I env w0 n dd s x.1 x.2.1:=by
 intro k
 induction k with
 | zero=>intro R D F rd s lg x hh;simp[pR]at hh
 | succ k ih =>
  intro R D F rd s lg x hh I a w h hF
  cases R with
  | nil =>
   simp only[pR]at hh
   split at hh
   ·simp only[adq]at hh;subst hh
    exact⟨I,a,w,Agree.refl _ _,h,hF,Step.refl _,rfl⟩
   ·cases hh
  | cons r0 R0 =>
   simp only[pR]at hh
   split at hh
   ·rename_i i hi
    obtain⟨o,ho,hx⟩:=yX hh
    rcases hx with⟨v,F1,hw,hv,uu,hn⟩|⟨F1,hw,uu,hn⟩
    ·have hlk:Lk I env w0 (ny F o.op rd) s w:=fun m _ o e=>h.holds m o e
     obtain⟨g1,g2⟩:=zX (hlk.gk h) hF hv
     exact ih _ _ _ _ _ _ _ hn I (a.put o.dst (I.g v)) w h (hF.pq uu g2)
    ·exact ih _ _ _ _ _ _ _ hn I (a.put o.dst undef) w h (by have:=hF.pq uu (v:=.nY) trivial;simpa only[Ip.g,ig]using this)
   ·split at hh
    ·cases hh
    ·rename_i e es he
     rw[ac1,acT]at hh
     obtain⟨x',hx,hh⟩:=hh
     split at hh
     ·simp only[adq]at hh;subst hh
      exact FD hC ih hx h hF
     ·cases hh
theorem Ix(hC:mR P w0 env call){next:vr}
  (ih:∀ R D F rd s lg x,next R D F rd s lg=some x → ∀ I a,(∃ w,SR I env w0 s w)→FR I s.nx n F a dd→Then I env w0 n dd s x.1 x.2.1 (Q .normal)→DW r P ops Q D (Lk I env w0 rd s) (SR I env w0 s) a)
  {R D:List Nat} {F:Fm} {rd:List Nat} {s:St} {lg:Log} {e:Nat} {x:Fm×St×Log} (hh:xp (gd P) call n ops next R D F rd s lg e=some x)
  {I:Ip} {a:Act} (hF:FR I s.nx n F a dd) (hQ:Then I env w0 n dd s x.1 x.2.1 (Q .normal)):Ex r P ops Q D (Lk I env w0 rd s) (SR I env w0 s) a e:=by
 obtain⟨o,v,s1,EC,F1,ho,hns,Lq,hq,hrd,uu,hn⟩:=rX hh
 refine⟨o,ho,hF.want Lq,hns,fun w Bi OA=>?_⟩
 refine(N8 (OA.wr []) hF hC hq).mono fun u w' hA=>?_
 obtain⟨I',hA⟩:=hA
 have hs1:SR I' env w0 { s1 with wr:=s1.wr++s.wr } w':=hA.sr.wr _
 refine⟨Lk I' env w0 EC { s1 with wr:=s1.wr++s.wr },SR I' env w0 { s1 with wr:=s1.wr++s.wr },fun m _ o e=>hs1.holds m o e,hs1,?_,?_⟩
 ·unfold AL at hrd
  split at hrd
  ·rename_i hsy
   exact .inr (YF hsy)
  ·split at hrd
   ·rename_i hall
    simp only[adq]at hrd
    subst hrd
    refine .inl fun y hy m hm ob hob=>?_
    obtain⟨hlt,hok⟩:=OA.ok m ob hob
    have hnw:m∉s1.wr:=by
     intro hx
     have:=aaN.1 hall m hx
     simp only[aaP,aaC]at this
     rcases this with h1|h1
     ·have:=di h1;omega
     ·rw[fH.2 hm]at h1;cases h1
    have e1:find s1.h m=some ob:=by rw[hA.step.yk m hlt hnw];exact hob
    have:=hy m hm ob e1
    rwa [yF hA.ag (fun L hL=>(OA.env.name m L hL).2) rfl hok hlt]at this
   ·cases hrd
 ·rw[hA.val]
  refine ih _ _ _ _ _ _ _ hn I' (a.put o.dst (I'.g v)) ⟨w',hs1⟩ ((hF.agree hA.ag hA.step.nx).pq uu hA.QE) ?_
  intro I2 a2 w2 q1 q2 q3 q4 q5
  exact hQ I2 a2 w2 (hA.ag.trans q1 hA.step.nx) q2 q3 (hA.step.app.trans q4) (q5.trans hA.cj)
theorem W6(hC:mR P w0 env call)(lz:chk ops=true):∀ (k:Nat) (R D:List Nat) (F:Fm) (rd:List Nat) (s:St) (lg:Log) (x:Fm×St×Log),pR (gd P) call n ops k R D F rd s lg=some x →
  ∀ I a,(∃ w,SR I env w0 s w)→FR I s.nx n F a dd→Then I env w0 n dd s x.1 x.2.1 (Q .normal)→DW r P ops Q D (Lk I env w0 rd s) (SR I env w0 s) a:=by
 intro k
 induction k with
 | zero=>intro R D F rd s lg x hh;simp[pR]at hh
 | succ k ih =>
  intro R D F rd s lg x hh I a hw hF hQ
  cases R with
  | nil =>
   simp only[pR]at hh
   split at hh
   ·rename_i hall
    simp only[adq]at hh;subst hh
    exact Td lz hall fun w h=>hQ I a w (Agree.refl _ _) h hF (Step.refl _) rfl
   ·cases hh
  | cons r0 R0 =>
   simp only[pR]at hh
   split at hh
   ·rename_i i hi
    have hp:=XC hi
    simp only[aaB]at hp
    obtain⟨o,ho,hx⟩:=yX hh
    obtain⟨wa,ha⟩:=hw
    rcases hx with⟨v,F1,Lq,hv,uu,hn⟩|⟨F1,Lq,uu,hn⟩
    ·refine Yj (Nv:=Lk I env w0 (ny F o.op rd) s) (fun w _ h m _ o e=>h.holds m o e) (fun w h m hm=>h m (VR hm)) ?_
     have hla:Lk I env w0 (ny F o.op rd) s wa:=fun m _ o e=>ha.holds m o e
     have g2:=(zX (P:=P) (a:=a) (o:=o) (hla.gk ha) hF hv).2
     refine IK lz ho hp.2 (v:=I.g v) (fun w hlk=>.inl ⟨hF.want Lq,(zX (hlk.gk ha) hF hv).1⟩) ?_
     exact ih _ _ _ _ _ _ _ hn I _ ⟨wa,ha⟩ (hF.pq uu g2) hQ
    ·refine IK lz ho hp.2 (v:=undef) (fun w hlk=>.inr ⟨hF.want Lq,rfl⟩) ?_
     exact ih _ _ _ _ _ _ _ hn I _ ⟨wa,ha⟩ (by have:=hF.pq uu (v:=.nY) trivial;simpa only[Ip.g,ig]using this) hQ
   ·split at hh
    ·cases hh
    ·rename_i e es he
     rw[ac1,acT]at hh
     obtain⟨x',hx,hh⟩:=hh
     split at hh
     ·rename_i hall
      simp only[adq]at hh;subst hh
      simp only[aaB,aaN]at hall
      obtain⟨hb,hall⟩:=hall
      obtain⟨wa,ha⟩:=hw
      have Jb:=W5 (dd:=dd) (n:=n) (ops:=ops) hC k
      obtain⟨I1,a1,w1,p1,p2,p3,p4,p5⟩:=FD hC Jb hx ha hF
      have K3:∀ e' ∈ es,Ex r P ops Q D (Lk I env w0 rd s) (SR I env w0 s) a e':=by
       intro e' Pz
       have:=hall e' Pz
       split at this
       ·rename_i x2 E3
        obtain⟨I2,a2,w2,q1,q2,q3,q4,q5⟩:=FD hC Jb E3 ha hF
        refine Ix hC ih E3 hF ?_
        intro I3 a3 w3 t1 t2 t3 t4 t5
        obtain⟨u1,u2,u3,u4⟩:=X8 ha (fun m hm=>Xd hm) this p4 q4 p2 p3 t1 t2 t3
        exact hQ _ a3 w3 u1 u2 u3 p4 p5
       ·cases this
      have C9:∀ (A:List Nat),(∀ e' ∈ A,Ex r P ops Q D (Lk I env w0 rd s) (SR I env w0 s) a e')→Bh r P ops Q D (Lk I env w0 rd s) (SR I env w0 s) a A:=by
       intro A
       induction A with
       | nil=>intro _;trivial
       | cons y A ihA=>intro hA;exact⟨hA y aa3,ihA fun z hz=>hA z (aaZ _ hz)⟩
      obtain⟨o,v,s1,EC,F1,ho,_⟩:=rX hx
      have hmem:e∈(r0::R0).filter (isReady ops D):=by rw[he];exact aa3
      have hrd:=(aaT.1 hmem).2
      simp only[isReady,aaB,aaC]at hrd
      refine NB lz (e::es) hb ⟨e,aa3,(aak.1 ho).1,hrd.1⟩ (C9 _ ?_)
      intro y hy
      rcases aaY.1 hy with rfl|hy
      ·exact Ix hC ih hx hF hQ
      ·exact K3 y hy
     ·cases hh
theorem WS(hm:P.follows .mixedOrders=true)(hC:mR P w0 env call){F F':Fm}{s s':St}{id:Nat}{I:Ip}{a:Act}{w:World}(hh:Aw (gd P) call n ops F s=some (F',s'))(h:SR I env w0 s w)(hF:FR I s.nx n F a dd)
  (hQ:Then I env w0 n dd s F' s' (Q .normal)):Wp r P (.region id ops true) Q a w:=by
 unfold Aw at hh
 split at hh
 ·rename_i lz
  rw[ac1,acT]at hh
  obtain⟨x,hx,hh⟩:=hh
  simp only[adq,Prod.mk.injEq]at hh
  obtain⟨rfl,rfl⟩:=hh
  have h':=h.keep gw.drew
  have hd:=W6 (r:=r) hC lz _ _ _ _ _ _ _ _ hx I a ⟨w,h⟩ hF hQ
  have e:ops=ops.toList.toArray:=by simp
  rw[e]at hd ⊢
  exact RZ hm (fun m hm=>by cases hm) h' hd
 ·cases hh
end
end Go.Ev
end
section
namespace Go.Ev
open Go.Fw
def wo:AX→Exit
 | .n=>.normal
 | .x id=>.exit id
 | .r=>.ret
def wh(I:Ip)(ms:List Nat):List Deferred:=ms.map fun m=>{ target:=.collected (I.sv m).blk,args:=#[] }
theorem Gx{k:Nat}{I I':Ip}{ms:List Nat}(h:Agree k I I')(hm:∀ m,m∈ms→m<k):wh I' ms=wh I ms :=
 ac8 fun m hx=>by rw[h.sv m (hm m hx)]
theorem SR.setMarks{I:Ip}{env:Env}{w0 w:World}{s:St}(h:SR I env w0 s w)(ms l:List Nat)(hm:∀ m,m∈ms→m<s.nx):SR I env w0 { s with cj:=ms,wr:=l } w:=⟨h.old,h.io,h.ok,h.holds,h.low,h.apart,hm,h.env⟩
theorem Step.setMarks{s s':St}(h:Step s s')(ms:List Nat):Step s { s' with cj:=ms }:=⟨h.nx,h.mono,h.yk⟩
theorem Step.ofMarks{s s':St}{ms:List Nat}(h:Step { s with cj:=ms } s'):Step s s':=⟨h.nx,h.mono,h.yk⟩
section
variable {r:Option Nat}{env:Env}{n:Nat}{w0:World}{P:Program}{call:Env→ki}
def Be(I:Ip)(env:Env)(w0:World)(n:Nat)(s:St)(ax:AX)(F':Fm)(s':St)(Q:Exit→Act→World→Prop):Prop :=
 ∀ I' a' w',Agree s.nx I I' → SR I' env w0 s' w' → FR I' s'.nx n F' a' (wh I' s'.cj)→Step s s' → Q (wo ax) a' w'
def Ip.withL(I:Ip)(k:Nat)(s:SV)(ar:Array Value)(f:Nat):Ip:=⟨fun n=>if n=k then s else I.sv n,fun n=>if n=k then ar else I.arr n,fun n=>if n=k then f else I.fn n⟩
theorem Agree.withL(I:Ip)(k:Nat)(s:SV)(ar:Array Value)(f:Nat):Agree k I (I.withL k s ar f) :=
 ⟨fun n hn=>by simp[Ip.withL,ac9 hn],fun n hn=>by simp[Ip.withL,ac9 hn],fun n hn=>by simp[Ip.withL,ac9 hn]⟩
theorem mH(l:Nat)(L:vu)(env:Env):iq ((l,L)::env) l=some L:=by simp[iq]
theorem oD{l m:Nat}(L:vu)(env:Env)(h:m≠l):iq ((l,L)::env) m=iq env m:=by
 have:Nat.beq l m=false:=by
  cases hb:Nat.beq l m with
  | false=>rfl
  | true=>exact absurd (aac hb).symm h
 simp[iq,this]
theorem X5(hC:∀ env,mR P w0 env (call env)){g:Operand}{ps:Array Tmp}{as bd:Code}{fn:Nat}{F:Fm}{s s1 s2 s3:St}{I:Ip}{a:Act}{w:World}{gv v:AV}{d l:Nat}{ax:AX}{sq:St}{Q:Exit→Act→World→Prop}
  (hg:jh F g=some gv) (Hl:isFn gv=true) (hd:fresh s (.defd false)=some (d,s1)) (hl:fresh s1 (.loop .ready none)=some (l,s2))
  (hq:call ((l,⟨fn,n,F,ps.toList,as,bd,d⟩)::env) gv [.y l] { s2 with cj:=d::s2.cj }=some (v,sq)) (he:wm sq l=some (ax,s3))
  (h:SR I env w0 s w) (hF:FR I s.nx n F a (wh I s.cj)) (hQ:Be I env w0 n s ax F s3 Q):Wp none P (.rangeFunc g ps as bd) Q a w:=by
 obtain⟨e1,e2⟩:=gT hd
 obtain⟨e3,e4⟩:=gT hl
 obtain⟨hev,hok⟩:=hF.eval hg
 cases gv<;>simp only[isFn,abQ]at Hl
 rename_i f fs cs
 refine wpIn_rangeFunc fun Oo _=>?_
 have st1:=Step.fresh hd
 have st2:=Step.fresh hl
 have hn1:s1.nx=s.nx+1:=by rw[e2]
 have Um:s2.nx=s.nx+2:=by rw[e4];simp only[hn1]
 have yK:s2.cj=s.cj:=by rw[e4,e2]
 have hl':l=s.nx+1:=by rw[e3,hn1]
 -- the block for the deferred calls
 let I1:=I.with s.nx ⟨some ⟨w.heap.size,0,none⟩,0,0⟩ #[]
 have ag1:Agree s.nx I I1:=Agree.with _ _ _ _
 have hb1:(I1.sv d).blk=w.heap.size:=by rw[e1];simp only[I1,mE];rfl
 have QS:SR I1 env w0 s1 (w.alloc (.deferred (some []))):=h.add hd _ trivial (by
  show iy (.obj ((Ip.with I s.nx ⟨some ⟨w.heap.size,0,none⟩,0,0⟩ #[]).sv s.nx).blk (.deferred (some []))) w _
  rw[mE];exact iy.alloc w _)
 -- the record
 let w1:=w.alloc (.deferred (some []))
 let ob:Obj:=.loop { state:=.ready,pending:=none,fn:=Oo,tmps:=a.tmps,params:=ps,assign:=as,body:=bd,defers:=w.heap.size }
 let I2:=I1.withL l ⟨some ⟨w1.heap.size,0,none⟩,0,0⟩ a.tmps Oo
 have Ht:s1.nx=l:=e3.symm
 have Ep:Agree s1.nx I1 I2:=by rw[Ht];exact Agree.withL _ _ _ _ _
 let L:vu:=⟨fn,n,F,ps.toList,as,bd,d⟩
 have C_:(I2.sv l).blk=w1.heap.size:=by simp only[I2,Ip.withL,if_true];rfl
 have KU:(I2.sv d).blk=w.heap.size:=by rw[←Ep.sv d adr];exact hb1
 have hres2:res I2 ((l,L)::env) w0.heap.size l (.loop .ready none) = .obj w1.heap.size ob:=by
  simp only[res,mH,nc,C_,KU,oe,L,ob]
  simp only[I2,Ip.withL,if_true,acK]
 have BM:Agree s.nx I I2:=ag1.trans Ep adr
 have G7:xn I2 ((l,L)::env) s2.nx:=by
  have h0:=h.env.agree BM (show s.nx≤s2.nx by omega)
  refine⟨fun m L' hm=>?_,fun m L' hm=>?_⟩
  ·by_cases hml:m=l
   ·subst hml
    rw[mH]at hm;cases hm
    exact⟨adr,by show d<s2.nx;omega⟩
   ·rw[oD L env hml]at hm;exact h0.name m L' hm
  ·by_cases hml:m=l
   ·subst hml
    rw[mH]at hm;cases hm
    have KO:=hF.agree BM (show s.nx≤s2.nx by omega)
    refine⟨rfl,?_,fun t u hu=>?_⟩
    ·simp only[I2,Ip.withL,if_true];exact KO.size
    ·obtain⟨q1,q2,q3⟩:=KO.get t u hu
     refine⟨q1,q2,?_⟩
     simp only[I2,Ip.withL,if_true]
     exact q3
   ·rw[oD L env hml]at hm;exact h0.fr m L' hm
 have yW:SR I2 ((l,L)::env) w0 s2 (w1.alloc ob):=by
  have hA:=iy.alloc w1 ob
  refine QS.turn (t:=fun _=>False) (b:=l) Ep adr (fun m hm hml=>oD L env hml) hA.keeps.io hA.keeps.size (fun j hj _=>hA.keeps.block j hj (by simp)) (fun _ hj=>hj.elim) (fun m o' hn e=>?_) (fun o' e=>?_) (fun m hm=>?_) G7
  ·rw[e4]at e
   rcases jD e with⟨h1,_⟩|⟨_,h2⟩
   ·rw[Ht]at h1;exact absurd h1 hn
   ·exact .inr ⟨h2,fun _ _ hj=>hj⟩
  ·rw[e4]at e
   rcases jD e with⟨_,rfl⟩|⟨h1,_⟩
   ·rw[hres2];exact⟨adr,trivial,hA.holds,fun j hj=>.inr (hA.fp j hj)⟩
   ·rw[Ht]at h1;exact absurd rfl h1
  ·rw[yK]at hm;have:=h.cj m hm;omega
 have QT:SR I2 ((l,L)::env) w0 { s2 with cj:=d::s2.cj } (w1.alloc ob):=⟨yW.old,yW.io,yW.ok,yW.holds,yW.low,yW.apart,fun m hm=>by
  rcases aaY.1 hm with rfl|hm
  ·show m<s2.nx;omega
  ·exact yW.cj m hm,yW.env⟩
 have hyv:I2.g (.y l) = .func (.yield w1.heap.size) #[] #[]:=by simp only[Ip.g,ig,C_]
 have hfs:(fs.map I2.g)=mZ I.sv fs:=by
  rw[fD];exact BM.map (mO.1 hok.1)
 have hcs:(cs.map I2.g)=mZ I.sv cs:=by
  rw[fD];exact BM.map (mO.1 hok.2)
 have PS:jz s2.nx (.f f fs cs):=jF adr _ hok
 obtain⟨c1,c2⟩:=hC ((l,L)::env) I2 { s2 with cj:=d::s2.cj } sq (w1.alloc ob) (.f f fs cs) [.y l] v hq QT PS (by
  intro u hu
  simp only[ac2]at hu
  subst hu
  show l<s2.nx;omega)
 have PD:a.eval g = .func (.func f) (mZ I.sv fs).toArray (mZ I.sv cs).toArray:=by rw[hev];simp only[Ip.g,ig]
 have P0:w1.heap.size=w.heap.size+1:=by simp[w1]
 refine⟨w1.heap.size,[{ target:=.collected w.heap.size,args:=#[] }],w1.alloc ob,{ target:=.fn (.func f) (mZ I.sv cs).toArray,args:=(mZ I.sv fs).toArray ++ #[.func (.yield w1.heap.size) #[] #[]] },w1.alloc ob,f,
  ((fs ++ [AV.y l]++cs).map I2.g).toArray,w1.alloc ob,?_,?_,fun _ _=>trivial,?_,fun hx=>wM hx,?_⟩
 ·rw[show(Wd none).round=none from rfl,run_enterLoop_outer Oo a.tmps ps as bd,P0]
 ·simp only[resolve,PD,Deferred.ofValue,Sem.run_pure]
  simp[Act.eval]
 ·simp only[invoke,c1]
  rw[abo,abo,hfs,hcs,abp,abq,hyv]
  simp
 ·refine vC.2 (Calls.mono c2 fun e w3 hr=>?_)
  cases e<;>simp only[gf]at hr
  obtain⟨I3,hA⟩:=hr
  have hm3:=hA.cj
  -- the loop's end
  simp only[wm]at he
  split at he
  ·rename_i st pd hfl
   have Hu:Step s sq:=(st1.trans st2).trans hA.step.ofMarks
   have hlt:l<s2.nx:=adr
   have kT:=hA.sr.holds l _ hfl
   have hblk:(I3.sv l).blk=w1.heap.size:=by rw[←hA.ag.sv l hlt];exact C_
   have xq:w3.heap[w1.heap.size]? = some (nc I3 l L st pd):=by
    have:(res I3 ((l,L)::env) w0.heap.size l (.loop st pd)).holds w3:=kT
    simp only[res,mH,hblk]at this
    exact this
   have Un:st ≠ .busy:=by intro e;subst e;simp at he
   have hres:ax=J0 pd∧s3=wrote sq l .dead:=by
    cases st<;>simp only[adq,Prod.mk.injEq]at he
    all_goals first|exact⟨he.1.symm,he.2.symm⟩|exact(Un rfl).elim|(cases he;done)
   obtain⟨hax,EZ⟩:=hres
   have hend:=run_endLoop (P:=P) xq Un
   refine⟨oe pd,_,hend,?_⟩
   have qb:=oc.putObj (o':=.loop { state:=.exhausted,pending:=oe pd,fn:=I3.fn l,tmps:=I3.arr l,params:=L.ps.toArray,assign:=L.IL,body:=L.body,defers:=(I3.sv L.d).blk }) xq
   have sr4:SR I3 env w0 s3 (w3.putObj w1.heap.size (.loop { state:=.exhausted,pending:=oe pd,fn:=I3.fn l,tmps:=I3.arr l,params:=L.ps.toArray,assign:=L.IL,body:=L.body,defers:=(I3.sv L.d).blk })):=by
    have hlk:=hA.sr.low l _ hfl
    have hap:=hA.sr.apart l
    have Uu:res I3 ((l,L)::env) w0.heap.size l (.loop st pd) = .obj w1.heap.size (nc I3 l L st pd):=by simp only[res,mH,hblk]
    refine hA.sr.turn (t:=fun j=>j=w1.heap.size) (b:=l) (Agree.refl _ _) (by rw[EZ];exact aah _) (fun m hm hml=>(oD L env hml).symm) qb.io qb.size (fun j hj hne=>qb.block j hj hne) (fun j hj=>?_) (fun m o' hn e=>?_) (fun o' e=>?_) (fun m hm=>?_) ?_
    ·exact hlk j (by rw[Uu];exact hj)
    ·rw[EZ]at e
     rcases jD e with⟨h1,_⟩|⟨_,h2⟩
     ·exact absurd h1 hn
     ·exact .inr ⟨h2,fun j hj hj'=>hap m _ _ hfl h2 (fun x=>hn x.symm) j (by rw[Uu];exact hj') hj⟩
    ·rw[EZ]at e
     rcases jD e with⟨_,rfl⟩|⟨h1,_⟩
     ·refine⟨?_,trivial,⟨fun _ hk=>hk.elim,fun _ _ _ _=>trivial⟩,fun j hj=>hj.elim⟩
      rw[EZ];exact(hA.sr.ok l _ hfl).1
     ·exact absurd rfl h1
    ·rw[EZ]at hm ⊢; exact hA.sr.cj m hm
    ·refine h.env.agree (BM.trans hA.ag (by show s.nx≤s2.nx;omega)) ?_
     rw[EZ];exact Hu.nx
   have hag:Agree s.nx I I3:=BM.trans hA.ag (by show s.nx≤s2.nx;omega)
   have hmk:s3.cj=d::s.cj:=by rw[EZ,V5,hm3];simp only[yK]
   have hF4:FR I3 s3.nx n F { a with defers:=[{ target:=.collected w.heap.size,args:=#[] }]++a.defers } (wh I3 s3.cj):=by
    have KO:=hF.agree hag (show s.nx≤s3.nx by rw[EZ];exact Hu.nx)
    refine⟨?_,KO.size,KO.get⟩
    rw[hmk]
    simp only[wh,abp,aad,abX]
    rw[←hA.ag.sv d (by show d<s2.nx;omega),KU,hF.defers]
    congr 1
    exact(Gx hag h.cj).symm
   have hfin:=hQ I3 _ _ hag sr4 hF4 (by rw[EZ];exact Hu.trans (Step.wrote _ _ _))
   subst hax
   cases pd with
   | none=>exact hfin
   | some q =>
    cases q with
    | none=>exact p_ hfin
    | some id=>exact dC hfin
  ·cases he
end
end Go.Ev
end
section
namespace Go.Ev
open Go.Fw
section
variable {r:Option Nat}{env:Env}{n:Nat}{w0:World}{P:Program}{call:Env→ki}{fn:Nat}{ir:Bool}{fuel:Nat}
theorem FR.eqd{I:Ip}{k n:Nat}{F:Fm}{a:Act}{dd TW:List Deferred}(h:FR I k n F a dd)(e:dd=TW):FR I k n F a TW:=e ▸ h
theorem S9{I:Ip}{s s':St}{F':Fm}{Q:Exit→Act→World→Prop}{w:World}(h:SR I env w0 s w)(hQ:Be I env w0 n s .n F' s' Q):Then I env w0 n (wh I s.cj) s F' s' (Q .normal):=by
 intro I' a' w' ag sr fr st hm
 refine hQ I' a' w' ag sr (fr.eqd ?_) st
 rw[hm];exact(Gx ag h.cj).symm
theorem NZ(hm:P.follows .mixedOrders=true)(hC:∀ env,mR P w0 env (call env))(hr:ir=false→r=none):∀ (c:Code) {F F':Fm} {s s':St} {ax:AX} {I:Ip} {a:Act} {w:World} {Q:Exit→Act→World→Prop},
  ky (gd P) call env fn n ir fuel c F s=some (ax,F',s')→SR I env w0 s w→FR I s.nx n F a (wh I s.cj)→Be I env w0 n s ax F' s' Q→Wp r P c Q a w:=by
 intro c
 induction c with
 | skip =>
  intro F F' s s' ax I a w Q hh h hF hQ
  simp only[ky,adq,Prod.mk.injEq]at hh
  obtain⟨rfl,rfl,rfl⟩:=hh
  exact bM (hQ I a w (Agree.refl _ _) h hF (Step.refl _))
 | region id ops draw =>
  intro F F' s s' ax I a w Q hh h hF hQ
  simp only[ky]at hh
  cases draw with
  | true =>
   simp only[if_true,aaI]at hh
   obtain⟨⟨F1,s1⟩,hq,hh⟩:=hh
   simp only[Prod.mk.injEq]at hh
   obtain⟨rfl,rfl,rfl⟩:=hh
   exact WS hm (hC env) hq h hF (S9 h hQ)
  | false =>
   simp only[abQ,if_false,aaI]at hh
   obtain⟨⟨F1,s1⟩,hq,hh⟩:=hh
   simp only[Prod.mk.injEq]at hh
   obtain⟨rfl,rfl,rfl⟩:=hh
   exact wpIn_region_list (Yv (hC env) _ hq h hF (S9 h hQ))
 | seq x y Jb Qo =>
  intro F F' s s' ax I a w Q hh h hF hQ
  simp only[ky,ac1]at hh
  rw[acT]at hh
  obtain⟨⟨JZ,F1,s1⟩,hq,hh⟩:=hh
  refine aH (Jb hq h hF ?_)
  intro I1 a1 w1 ag sr fr st
  cases JZ with
  | n =>
   simp only at hh
   exact Qo hh sr fr fun I2 a2 w2 Ep yW NL st2=>hQ I2 a2 w2 (ag.trans Ep st.nx) yW NL (st.trans st2)
  | x id =>
   simp only[adq,Prod.mk.injEq]at hh
   obtain⟨rfl,rfl,rfl⟩:=hh
   exact hQ I1 a1 w1 ag sr fr st
  | r =>
   simp only[adq,Prod.mk.injEq]at hh
   obtain⟨rfl,rfl,rfl⟩:=hh
   exact hQ I1 a1 w1 ag sr fr st
 | cond c x y Jb Qo =>
  intro F F' s s' ax I a w Q hh h hF hQ
  simp only[ky,ac1]at hh
  rw[acT]at hh
  obtain⟨v,hv,hh⟩:=hh
  obtain⟨h1,h2⟩:=hF.eval hv
  split at hh
  ·exact wpIn_cond_true (by rw[h1];simp[ig]) (Jb hh h hF hQ)
  ·exact wpIn_cond_false (by rw[h1];simp[ig]) (Qo hh h hF hQ)
  ·cases hh
 | block id c ih =>
  intro F F' s s' ax I a w Q hh h hF hQ
  simp only[ky,ac1]at hh
  rw[acT]at hh
  obtain⟨⟨JZ,F1,s1⟩,hq,hh⟩:=hh
  simp only[adq,Prod.mk.injEq]at hh
  obtain⟨rfl,rfl,rfl⟩:=hh
  refine bO (ih hq h hF ?_)
  intro I1 a1 w1 ag sr fr st
  have:=hQ I1 a1 w1 ag sr fr st
  cases JZ with
  | n=>exact cG (by simpa[wo]using this)
  | r=>exact S7 (by simpa[wo]using this)
  | x j =>
   by_cases hj:j=id
   ·subst hj;exact eC (by simpa[wo]using this)
   ·refine Tv (i:=id) (j:=j) ?_ (by simpa[wo,hj]using this)
    cases hb:Nat.beq j id with
    | false=>rfl
    | true=>exact absurd (aac hb) hj
 | loop c ih =>
  intro F F' s s' ax I a w Q hh h hF hQ
  simp only[ky]at hh
  refine SI (X:=Nat) (fun k a w=>∃ F s I,zg (ky (gd P) call env fn n ir fuel c) k F s=some (ax,F',s')∧SR I env w0 s w∧FR I s.nx n F a (wh I s.cj)∧Be I env w0 n s ax F' s' Q) id fuel ⟨F,s,I,hh,h,hF,hQ⟩ ?_
  rintro k a w ⟨F,s,I,hh,h,hF,hQ⟩
  cases k with
  | zero=>simp[zg]at hh
  | succ k =>
   simp only[zg,ac1]at hh
   rw[acT]at hh
   obtain⟨⟨JZ,F1,s1⟩,hq,hh⟩:=hh
   refine ih hq h hF ?_
   intro I1 a1 w1 ag sr fr st
   cases JZ with
   | n =>
    simp only at hh
    exact⟨k,⟨F1,s1,I1,hh,sr,fr,fun I2 a2 w2 Ep yW NL st2=>hQ I2 a2 w2 (ag.trans Ep st.nx) yW NL (st.trans st2)⟩,acU k⟩
   | x id =>
    simp only[adq,Prod.mk.injEq]at hh
    obtain⟨rfl,rfl,rfl⟩:=hh
    exact hQ I1 a1 w1 ag sr fr st
   | r =>
    simp only[adq,Prod.mk.injEq]at hh
    obtain⟨rfl,rfl,rfl⟩:=hh
    exact hQ I1 a1 w1 ag sr fr st
 | exit id =>
  intro F F' s s' ax I a w Q hh h hF hQ
  simp only[ky,adq,Prod.mk.injEq]at hh
  obtain⟨rfl,rfl,rfl⟩:=hh
  exact dC (hQ I a w (Agree.refl _ _) h hF (Step.refl _))
 | ret =>
  intro F F' s s' ax I a w Q hh h hF hQ
  simp only[ky,adq,Prod.mk.injEq]at hh
  obtain⟨rfl,rfl,rfl⟩:=hh
  exact p_ (hQ I a w (Agree.refl _ _) h hF (Step.refl _))
 | rangeFunc g ps as bd iha ihb =>
  intro F F' s s' ax I a w Q hh h hF hQ
  simp only[ky,ac1]at hh
  split at hh
  ·cases hh
  ·rename_i hir
   have PG:ir=false:=by simpa using hir
   have:=hr PG
   subst this
   rw[acT]at hh
   obtain⟨gv,hg,hh⟩:=hh
   split at hh
   ·cases hh
   ·rename_i Hl
    rw[acT]at hh
    obtain⟨⟨d,s1⟩,hd,hh⟩:=hh
    rw[acT]at hh
    obtain⟨⟨l,s2⟩,hl,hh⟩:=hh
    rw[acT]at hh
    obtain⟨⟨v,sq⟩,hq,hh⟩:=hh
    rw[acT]at hh
    obtain⟨⟨e,s3⟩,he,hh⟩:=hh
    simp only[adq,Prod.mk.injEq]at hh
    obtain⟨rfl,rfl,rfl⟩:=hh
    exact X5 hC hg (by simpa using Hl) hd hl hq he h hF hQ
 | _=>intro F F' s s' ax I a w Q hh;simp[ky]at hh
theorem V8{vs:List AV}:∀ (n i t:Nat) (v:AV),(qh n i vs).get t=some v→i≤t∧t<i+n∧v=(vs[t-i]?).getD .nY:=by
 intro n
 induction n generalizing vs with
 | zero=>intro i t v h;simp[qh,Tr.get_e]at h
 | succ n ih =>
  intro i t v h
  cases vs with
  | nil =>
   simp only[qh]at h
   rcases Tr.set_some h with⟨rfl,rfl⟩|⟨hne,h⟩
   ·exact⟨aah _,adr,by simp⟩
   ·obtain⟨h1,h2,h3⟩:=ih (i+1) t v h
    exact⟨adr,adr,by simpa using h3⟩
  | cons u vs =>
   simp only[qh]at h
   rcases Tr.set_some h with⟨rfl,rfl⟩|⟨hne,h⟩
   ·exact⟨aah _,adr,by simp⟩
   ·obtain⟨h1,h2,h3⟩:=ih (i+1) t v h
    refine⟨adr,adr,?_⟩
    rw[h3,show t-i=(t-(i+1))+1 by omega]
    simp
theorem Xz{I:Ip}{k:Nat}{vs:List AV}(hv:∀ v∈vs,jz k v)(hn:vs.length≤n):FR I k n (qh n 0 vs) { tmps:=(vs.map I.g).toArray++Array.replicate (n-(vs.map I.g).toArray.size) undef,defers:=[] } []:=by
 refine⟨rfl,by simp;omega,fun t v h=>?_⟩
 obtain⟨_,h2,h3⟩:=V8 _ _ _ _ h
 simp only[Nat.sub_zero,acr]at h2 h3
 refine⟨h2,?_,?_⟩
 ·subst h3
  cases hx:vs[t]? with
  | none=>trivial
  | some u=>exact hv u (abb hx)
 ·subst h3
  by_cases ht:t<vs.length
  ·have:vs[t]? = some vs[t]:=aa9 ht
   rw[this]
   simp[aag,ht]
  ·rw[aaf adr]
   simp only[adg,Ip.g,ig]
   have h4:t-vs.length<n-vs.length:=adr
   simp[aag,ht,h4]
theorem X9{I:Ip}{k:Nat}:∀ (ps:List Nat) (vs:List AV) {F F':Fm} {tm:Array Value},wU n ps vs F=some F' → FR I k n F { tmps:=tm,defers:=[] } []→(∀ v∈vs,jz k v) →
  ps.length=vs.length∧FR I k n F' { tmps:=(ps.zip (vs.map I.g)).foldl (fun tmps p=>tmps.setIfInBounds p.1 p.2) tm,defers:=[] } []:=by
 intro ps
 induction ps with
 | nil =>
  intro vs F F' tm h hF hv
  cases vs with
  | nil=>simp only[wU,adq]at h;subst h;exact⟨rfl,hF⟩
  | cons v vs=>simp[wU]at h
 | cons p ps ih =>
  intro vs F F' tm h hF hv
  cases vs with
  | nil=>simp[wU]at h
  | cons v vs =>
   simp only[wU]at h
   split at h
   ·rename_i hp
    have hp':p<n:=by rw[adk]at hp;exact hp
    have uu:=hF.set hp' (hv v aa3)
    simp only[Act.put]at uu
    obtain⟨h1,h2⟩:=ih vs h uu (fun u hu=>hv u (aaZ _ hu))
    exact⟨by simp[h1],h2⟩
   ·cases h
theorem Yw{I:Ip}{w:World}{s:St}(h:SR I env w0 s w):∀ (rs:List ResultVar) {F:Fm} {a:Act} {dd:List Deferred} {vs:List AV},zh (gd P) s F rs=some vs→FR I s.nx n F a dd→lj P w a.tmps rs (vs.map I.g) ∧ ∀ v∈vs,jz s.nx v:=by
 intro rs
 induction rs with
 | nil=>intro F a dd vs hh hF;simp only[zh,adq]at hh;subst hh;exact⟨trivial,by simp⟩
 | cons x rs ih =>
  intro F a dd vs hh hF
  cases x with
  | tmp t =>
   simp only[zh,ac1]at hh
   rw[acT]at hh
   obtain⟨v,hv,hh⟩:=hh
   rw[acT]at hh
   obtain⟨us,AO,hh⟩:=hh
   simp only[adq]at hh;subst hh
   obtain⟨h1,h2⟩:=ih AO hF
   obtain⟨_,q2,q3⟩:=hF.get t v hv
   refine⟨⟨q3,h1⟩,fun u hu=>?_⟩
   rcases aaY.1 hu with rfl|hu
   ·exact q2
   ·exact h2 u hu
  | cell t ty =>
   simp only[zh,ac1]at hh
   rw[acT]at hh
   obtain⟨v,hv,hh⟩:=hh
   cases v<;>simp only at hh<;>try (cases hh;done)
   rename_i m off
   split at hh
   ·rename_i N l T hm
    rw[acT]at hh
    obtain⟨u,hu,hh⟩:=hh
    rw[acT]at hh
    obtain⟨us,AO,hh⟩:=hh
    simp only[adq]at hh;subst hh
    obtain⟨h1,h2⟩:=ih AO hF
    obtain⟨_,q2,q3⟩:=hF.get t _ hv
    obtain⟨hk,hok⟩:=h.ok m _ hm
    have hl:=R1 (P:=P) hu hok.1 (h.gk.cellsP hm)
    rw[acr]at hl
    refine⟨⟨⟨⟨(I.sv m).blk,off,none⟩,by rw[q3];simp only[Ip.g,ig],hl⟩,h1⟩,fun x hx=>?_⟩
    rcases aaY.1 hx with rfl|hx
    ·exact(nE hu hok.1 hok.2.1 hok.2.2).1
    ·exact h2 x hx
   ·cases hh
def E9(I:Ip)(n:Nat)(L:vu)(st:LoopState)(pd:Option (Option Nat)):Loop:={ state:=st,pending:=oe pd,fn:=I.fn n,tmps:=I.arr n,params:=L.ps.toArray,assign:=L.IL,body:=L.body,defers:=(I.sv L.d).blk }
theorem WN{ES:Func}{tmps:Array Value}{R:Value→World→Prop}{I:Ip}:∀ (ms:List Nat) {s s':St} {w:World},nX ms s=some s' → SR I env w0 s w →
  (∀ w',SR I env w0 s' w' → Step s s' → s'.nx=s.nx→s'.cj=s.cj → ∃ v,(results ES tmps).run P w' = .ok v w' ∧ R v w')→LeavesInM (Wd none) 0 P ES tmps (gf R) (wh I ms) .returning w:=by
 intro ms
 induction ms with
 | nil =>
  intro s s' w hh h hR
  simp only[nX,adq]at hh
  subst hh
  exact hR w h (Step.refl _) rfl rfl
 | cons d ms ih =>
  intro s s' w hh h hR
  simp only[nX]at hh
  split at hh
  ·rename_i hd
   have kT:w.heap[(I.sv d).blk]? = some (.deferred (some [])):=h.holds d _ hd
   refine⟨by simp,.inl ⟨(I.sv d).blk,_,rfl,run_takeDeferred kT,?_⟩⟩
   have hU:=oc.putObj (o':=.deferred none) kT
   have sr:=h.chg hd (o':=.defd true) trivial hU
   refine ih hh sr fun w' sr' st Hn hmk=>hR w' sr' ((Step.wrote _ _ _).trans st) Hn hmk
  ·cases hh
theorem W4(hm:P.follows .mixedOrders=true):∀ (k:Nat) (env:Env),mR P w0 env (qg (gd P) fuel k env):=by
 intro k
 induction k with
 | zero=>intro env I s s' w g vs v hh;simp[qg]at hh
 | succ k ih =>
  intro env I s s' w g vs v hh h hg hvs
  cases g<;>try (simp[qg]at hh;done)
  case f f fs cs =>
   simp only[qg,ac1]at hh
   rw[acT]at hh
   obtain⟨⟨n,rs,body⟩,hfn,hh⟩:=hh
   simp only at hh
   split at hh
   ·cases hh
   ·rename_i hlen
    rw[acT]at hh
    obtain⟨⟨ax,F1,s1⟩,hq,hh⟩:=hh
    simp only[gd]at hfn
    rw[acT]at hfn
    obtain⟨ES,hf,hfn⟩:=hfn
    split at hfn
    ·cases hfn
    ·rename_i hname
     obtain⟨b,hb,hfn⟩:=aaI.1 hfn
     simp only[Prod.mk.injEq]at hfn
     obtain⟨rfl,rfl,rfl⟩:=hfn
     have hcall:∀ args w,(callFunc f args).run P w = .ok (.enter f args) w:=by
      intro args w
      have hn':¬ ES.name = "runtime.NumGoroutine" := by simpa using hname
      simp[callFunc,program,Sem.run,hf,hn',hb]
     refine⟨hcall,?_⟩
     have K8:(fs++vs++cs).length≤ES.ntmps:=by simpa using hlen
     have Ho:∀ u∈fs++vs++cs,jz s.nx u:=by
      intro u hu
      rcases aaR.1 hu with hu|hu
      ·rcases aaR.1 hu with hu|hu
       ·exact mO.1 hg.1 u hu
       ·exact hvs u hu
      ·exact mO.1 hg.2 u hu
     refine callsIn_wide.1 (callsIn_of_wp_marks (F:=Wd none) (n:=0) hf hb trivial ?_ rfl)
     have h':=h.setMarks [] s.wr (by simp)
     refine NZ hm ih (fun _=>rfl) b hq h' (Xz Ho K8) ?_
     intro I1 a1 w1 ag sr fr st
     have fin:ax = .n∨ax = .r→bodyPostM (Wd none) 0 P ES (gf (Left I env w0 s s' v)) .ret a1 w1:=by
      intro hax
      have hh':(nX s1.cj s1).bind (fun s'=>(zh (gd P) s' F1 ES.results.toList).bind fun r=>some (resV r,({ s' with cj:=s.cj,wr:=s'.wr.filter (Nat.blt · s.nx) }:St)))=some (v,s'):=by
       rcases hax with rfl|rfl<;>exact hh
      obtain⟨s2,ht,hh2⟩:=acT.1 hh'
      obtain⟨rv,hrv,Ui⟩:=acT.1 hh2
      simp only[adq,Prod.mk.injEq]at Ui
      obtain⟨rfl,rfl⟩:=Ui
      show LeavesInM (Wd none) 0 P ES a1.tmps (gf _) a1.defers .returning w1
      rw[fr.defers]
      refine WN s1.cj ht sr fun w2 yW st2 Hn hmk=>?_
      have EE:Step s s2:=st.ofMarks.trans st2
      obtain⟨q1,q2⟩:=Yw (P:=P) yW ES.results.toList hrv (fr.agree (Agree.refl _ _) (by rw[Hn];exact aah _))
      refine⟨_,sR (by simp) q1,I1,ag,yW.setMarks _ _ (fun m hm=>?_),?_,?_,⟨EE.nx,fun m hm hx=>?_,fun m hm hx=>?_⟩,rfl⟩
      ·have:=h.cj m hm;have:=EE.nx;omega
      ·match rv with
       | []=>simp[resV,ig,mZ]
       | [v]=>simp[resV]
       | x::y::l=>simp[resV,ig,mZ,fD]
      ·match rv,q2 with
       | [],_=>trivial
       | [v],q2=>exact q2 v (by simp)
       | x::y::l,q2=>exact mO.2 q2
      ·exact aaT.2 ⟨EE.mono m hm hx,by rw[adk];exact hm⟩
      ·exact EE.yk m hm fun hy=>hx (aaT.2 ⟨hy,by rw[adk];exact hm⟩)
     cases ax with
     | n=>exact fin (.inl rfl)
     | r=>exact fin (.inr rfl)
     | x id=>simp at hh
  case y l =>
   simp only[qg,ac1]at hh
   rw[acT]at hh
   obtain⟨L,hL,hh⟩:=hh
   split at hh
   ·rename_i pd0 hfl
    rw[acT]at hh
    obtain⟨F0,hF0,hh⟩:=hh
    rw[acT]at hh
    obtain⟨⟨ax,F1,s1⟩,hq,hh⟩:=hh
    have wu:∀ (I:Ip) st pd,res I env w0.heap.size l (.loop st pd) = .obj (I.sv l).blk (nc I l L st pd):=fun I st pd=>by simp only[res,hL]
    have kT:w.heap[(I.sv l).blk]? = some (nc I l L .ready pd0):=by have:=h.holds l _ hfl;rw[wu]at this;exact this
    obtain⟨hlk,hdk⟩:=h.env.name l L hL
    obtain⟨hps,Oy⟩:=X9 L.ps vs hF0 (h.env.fr l L hL) hvs
    have hy:=run_yield (P:=P) (args:=(vs.map I.g).toArray) kT (by simp[hps])
    refine⟨_,_,_,_,hy,?_⟩
    refine roundIn_of_wpIn (F:=Wd none) trivial ?_
    have h':=h.setMarks [] s.wr (by simp)
    refine NZ (r:=some (I.sv l).blk) hm ih (fun h=>by cases h) L.IL hq h' (by have:=Oy;simpa[wh]using this) ?_
    intro I1 a1 w1 ag sr fr st
    simp only at hh
    split at hh
    ·rename_i pd K4
     rw[acT]at hh
     obtain⟨⟨Ai,F2,s2⟩,hq2,hh⟩:=hh
     simp only at hh
     have Da:(I1.sv l).blk=(I.sv l).blk:=by rw[ag.sv l hlk]
     have FU:w1.heap[(I.sv l).blk]? = some (nc I1 l L .ready pd):=by have:=sr.holds l _ K4;rw[wu,Da]at this;exact this
     have hU1:oc (res I1 env w0.heap.size l (.loop .ready pd)) (res I1 env w0.heap.size l (.loop .busy pd)) w1 (w1.putObj (I.sv l).blk (nc I1 l L .busy pd)):=by
      rw[wu,wu,Da];exact oc.putObj FU
     have QS:=sr.chg K4 (o':=.loop .busy pd) trivial hU1
     refine⟨_,run_beginRound FU rfl,?_⟩
     refine NZ (r:=some (I.sv l).blk) hm ih (fun h=>by cases h) L.body hq2 QS fr ?_
     intro I2 a2 w2 Ep yW NL st2
     split at hh
     ·rename_i QU QF K5
      simp only[adq,Prod.mk.injEq]at hh
      obtain⟨rfl,rfl⟩:=hh
      have aap:s.nx≤s1.nx:=st.nx
      have PI:l<s1.nx:=adr
      have FP:(I2.sv l).blk=(I.sv l).blk:=by rw[←Ep.sv l PI,Da]
      have FV:w2.heap[(I.sv l).blk]? = some (nc I2 l L QU QF):=by have:=yW.holds l _ K5;rw[wu,FP]at this;exact this
      have K6:∀ x:Option (Option Nat),(oe x).isNone=x.isNone:=by
       intro x
       cases x with
       | none=>rfl
       | some y=>cases y<;>rfl
      have C6:∀ QV,oc (res I2 env w0.heap.size l (.loop QU QF)) (res I2 env w0.heap.size l (.loop QV (qc Ai))) w2 (w2.putObj (I.sv l).blk (nc I2 l L QV (qc Ai))):=by
       intro QV
       rw[wu,wu,FP];exact oc.putObj FV
      have sr3:=yW.chg K5 (o':=.loop (if(qc Ai).isNone then .ready else .done) (qc Ai)) trivial (C6 _)
      have hend:=run_endRound (P:=P) (oe (qc Ai)) FV
      have hst:Step s (wrote s2 l (.loop (if(qc Ai).isNone then .ready else .done) (qc Ai))):=((st.ofMarks.trans (Step.wrote _ _ _)).trans st2).trans (Step.wrote _ _ _)
      have hfin:Left I env w0 s { wrote s2 l (.loop (if(qc Ai).isNone then .ready else .done) (qc Ai))with cj:=s.cj } (.b (qc Ai).isNone) (.bool (oe (qc Ai)).isNone)
        (w2.putObj (I.sv l).blk (.loop { E9 I2 l L QU QF with state:=if(oe (qc Ai)).isNone then .ready else .done,pending:=oe (qc Ai) })):=by
       refine⟨I2,ag.trans Ep st.nx,?_,by simp only[Ip.g,ig,K6],trivial,hst.setMarks _,rfl⟩
       have:=sr3.setMarks s.cj (wrote s2 l (.loop (if(qc Ai).isNone then .ready else .done) (qc Ai))).wr (fun m hm=>by have:=h.cj m hm;have:=hst.nx;omega)
       rw[K6]
       exact this
      cases Ai<;>exact⟨_,_,hend,hfin⟩
     ·cases hh
    ·cases hh
   ·cases hh
end
end Go.Ev
end
section
namespace Go.Ev
open Go.Fw
theorem SR.start(w0:World):SR ⟨fun _=>SV.nil,fun _=>#[],fun _=>0⟩ [] w0 { h:=.e,nx:=0 } w0:=by
 have no:∀ n o,find (.e:Heap) n=some o→False:=fun n o e=>by simp[find,Tr.get_e]at e
 exact⟨⟨aah _,fun _ _ _ _=>rfl⟩,Io.refl w0,fun n o e=>(no n o e).elim,fun n o e=>(no n o e).elim,fun n o e=>(no n o e).elim,fun n m o o' e=>(no n o e).elim,fun n h=>absurd h (by simp),⟨fun l L e=>absurd e (by simp[iq]),fun l L e=>absurd e (by simp[iq])⟩⟩
def QD:Option (AV×St)→Bool
 | some (.b true,_)=>true
 | _=>false
theorem zj{P:Program}{f fuel k:Nat}(hm:P.follows .mixedOrders=true)(h:QD (qg (gd P) fuel k [] (.f f [] []) [] { h:=.e,nx:=0 })=true)(w0:World):Calls P f #[] w0 (gf fun v w'=>v = .bool true∧gw [] w0 w'):=by
 cases hq:qg (gd P) fuel k [] (.f f [] []) [] { h:=.e,nx:=0 }with
 | none=>rw[hq]at h;cases h
 | some p =>
  obtain⟨v,s'⟩:=p
  rw[hq]at h
  have hv:v = .b true:=by
   cases v<;>simp only[QD,abQ]at h
   rename_i b
   cases b
   ·simp at h
   ·rfl
  subst hv
  have:=(W4 (w0:=w0) (fuel:=fuel) hm k [] _ _ _ w0 _ _ _ hq (SR.start w0) ⟨trivial,trivial⟩ (by simp)).2
  simp only[ada,abq]at this
  refine Calls.mono this fun e w' he=>?_
  cases e<;>simp only[gf]at he ⊢
  obtain⟨I',hA⟩:=he
  exact⟨by rw[hA.val];simp[ig],⟨hA.sr.io,hA.sr.old.size,fun j hj _=>hA.sr.old.block j (aaF _) hj (by simp)⟩⟩
end Go.Ev
end
section
namespace Go.Fx
open Go Go.Fw Go.Proofs
section
variable {X:Type}[d_ X]
def yj(s:SV):SV:=⟨s.a,s.len+2,s.cap⟩
structure Gp(w:World)(s:SV)(l sp:List X):Prop where
 full:cH 0 w (yj s) (l++sp)
 two:sp.length=2
theorem Gp.sl{w:World}{s:SV}{l sp:List X}(h:Gp w s l sp):cH 0 w s l:=by
 obtain⟨h,h2⟩:=h
 have h1:=h.len
 have h3:=h.room
 have h4:=h.cells
 simp only[yj,ach]at h1 h3 h4
 refine⟨adr,adr,?_⟩
 obtain⟨sa,sl,sc⟩:=s
 cases sa with
 | none=>have:=congrArg List.length h4.1;simp at this;omega
 | some ad =>
  obtain⟨k1,k2,k3⟩:=h4
  refine⟨.inr (k1.resolve_left fun k=>by rw[List.append_eq_nil_iff]at k;rw[k.2]at h2;cases h2),k2,fun j v hj=>k3 j v ?_⟩
  rw[dW,abk (aaz.1 hj).1]
  exact hj
def BJ(L:World→Prop)(s:SV)(l sp:List X):Prop:=∀ w,L w→Gp w s l sp
theorem BJ.mono{L L':World→Prop}{s:SV}{l sp:List X}(h:BJ L s l sp)(k:∀ w,L' w→L w):BJ L' s l sp:=fun w hM=>h w (k w hM)
theorem BJ.full{L:World→Prop}{s:SV}{l sp:List X}(h:BJ L s l sp):cn L (yj s) (l++sp):=fun w hM=>(h w hM).full
end
def HQ:List UInt8:=[161,162]
def MI:List Int:=[-7,-8]
def HO:List dU:=[⟨-7,ak.zero,ak.zero⟩,⟨-8,ak.zero,ak.zero⟩]
def HN:List eo:=[⟨-7,bn.zero,bn.zero⟩,⟨-8,bn.zero,bn.zero⟩]
def Dl:List bq:=[⟨0,-7,SV.nil,SV.nil⟩,⟨0,-8,SV.nil,SV.nil⟩]
def x6(L:World→Prop)(s:SV)(l:List UInt8):Prop:=BJ L s l HQ
theorem x6.mono{L L':World→Prop}{s:SV}{l:List UInt8}(h:x6 L s l)(k:∀ w,L' w→L w):x6 L' s l:=BJ.mono h k
def rq(L:World→Prop)(x:bq)(p:cu):Prop:=∃ (mr:SV) (mg:SV),x=(bq.mk p.table p.from_ mr mg)∧BJ L mr p.old HQ∧BJ L mg p.new HQ
theorem rq.mono{L L':World→Prop}{x:bq}{p:cu}(h:rq L x p)(k:∀ w,L' w→L w):rq L' x p:=by
 obtain⟨mr,mg,e,h0,h1⟩:=h
 exact⟨mr,mg,e,h0.mono k,h1.mono k⟩
def x9(L:World→Prop)(x:bS)(p:dD):Prop:=∃ (oq:SV) (lq:SV) (kr:SV) (kR:List bq) (gC:SV),x=(bS.mk p.at_ p.next p.done oq lq kr gC)∧BJ L oq p.bk HO∧BJ L lq p.slots HN∧BJ L kr kR Dl∧bw (rq L) kR p.dE∧BJ L gC p.bf MI
theorem x9.mono{L L':World→Prop}{x:bS}{p:dD}(h:x9 L x p)(k:∀ w,L' w→L w):x9 L' x p:=by
 obtain⟨oq,lq,kr,kR,gC,e,h0,h1,h2,h3,h4⟩:=h
 exact⟨oq,lq,kr,kR,gC,e,h0.mono k,h1.mono k,h2.mono k,h3.mono fun _ _ q=>q.mono k,h4.mono k⟩
end Go.Fx
end
section
namespace Go.Fx
open Go Go.Fw Go.Proofs
def Gq(f:Nat→Prop)(w:World):Prop:=∀ k,f k → ∃ cs T,w.heap[k]? = some (.cells cs T (0,0))
structure BL where
 f:Nat→Prop
 Q:World→Prop
def BL.r(x:BL):dw:=.gen x.f (fun w=>x.Q w∧Gq x.f w)
class zc(r:dw):Prop where
 soft:∀ w,r.holds w→Gq r.fp w
instance {lo e sz n:Nat}{v:Value}{xs:List Value}:zc (.row lo v e sz n xs) where
 soft:=fun w h k hk=>by
  rcases h.2 with⟨h1,h2⟩|⟨g,cap,cur,h1,h3,h4,h5⟩
  ·rw[h1]at hk;simp[dw.fp,Value.ownBlock]at hk
  ·rw[h1]at hk
   simp only[dw.fp,Value.ownBlock,adq]at hk
   subst hk
   exact⟨cur,e,h4⟩
instance {b T:Nat}{cs:Array Value}:zc (.obj b (.cells cs T (0,0))) where
 soft:=fun w h k hk=>by
  simp only[dw.fp]at hk
  subst hk
  exact⟨cs,T,h⟩
theorem BL.now{x:BL}{w:World}(h:x.r.holds w):x.Q w∧Gq x.f w:=h.2 w (Io.refl w) (aah _) fun _ _=>rfl
instance (x:BL):zc x.r where
 soft:=fun w h=>(BL.now h).2
instance {hs:List SV}{ls:List (List UInt8)}:zc (a_ hs ls) where
 soft:=fun w h k hk=>by
  obtain⟨r,hr,hf⟩:=hk
  have hM:=(iJ.1 (nS h).2).1 r hr
  obtain⟨i,hi⟩:=aa_.1 hr
  unfold ov at hi
  rw[adh]at hi
  split at hi
  ·cases hi
   exact zc.soft (r:=dw.row _ _ _ _ _ _) w hM k hf
  ·cases hi
def qw(u v:Value):Prop:=u=v∨(∃ i j,u = .int .i64 i∧v = .int .i64 j) ∨ ∃ a b:UInt8,u = .int .u8 (a.toNat:Int)∧v = .int .u8 (b.toNat:Int)
theorem qw.refl(u:Value):qw u u:=.inl rfl
theorem qw.trans{u v x:Value}(h:qw u v)(k:qw v x):qw u x:=by
 rcases h with rfl|⟨i,j,rfl,rfl⟩|⟨a,b,rfl,rfl⟩
 ·exact k
 ·rcases k with rfl|⟨i',j',_,rfl⟩|⟨a,b,h,_⟩
  ·exact .inr (.inl ⟨_,_,rfl,rfl⟩)
  ·exact .inr (.inl ⟨_,_,rfl,rfl⟩)
  ·cases h
 ·rcases k with rfl|⟨i',j',h,_⟩|⟨a',b',_,rfl⟩
  ·exact .inr (.inr ⟨_,_,rfl,rfl⟩)
  ·cases h
  ·exact .inr (.inr ⟨_,_,rfl,rfl⟩)
theorem qw.i64{i:Int}{u:Value}(h:qw (.int .i64 i) u):∃ j,u = .int .i64 j:=by
 rcases h with rfl|⟨_,j,_,rfl⟩|⟨a,b,h,_⟩
 ·exact⟨_,rfl⟩
 ·exact⟨_,rfl⟩
 ·cases h
theorem qw.u8{a:UInt8}{u:Value}(h:qw (.int .u8 (a.toNat:Int)) u):∃ b:UInt8,u = .int .u8 (b.toNat:Int):=by
 rcases h with rfl|⟨_,j,h,_⟩|⟨_,b,_,rfl⟩
 ·exact⟨_,rfl⟩
 ·cases h
 ·exact⟨_,rfl⟩
theorem qw.slice{a:Option Addr}{n c:Nat}{u:Value}(h:qw (.slice a n c) u):u = .slice a n c:=by
 rcases h with rfl|⟨_,j,h,_⟩|⟨_,b,h,_⟩
 ·rfl
 ·cases h
 ·cases h
theorem qw.bool{b:Bool}{u:Value}(h:qw (.bool b) u):u = .bool b:=by
 rcases h with rfl|⟨_,j,h,_⟩|⟨_,b,h,_⟩
 ·rfl
 ·cases h
 ·cases h
theorem qw.bytes(a b:UInt8):qw (.int .u8 (a.toNat:Int)) (.int .u8 (b.toNat:Int)):=.inr (.inr ⟨_,_,rfl,rfl⟩)
end Go.Fx
end
noncomputable section
namespace Go.Proofs
open Go Go.Fw Go.Fx
set_option maxRecDepth 10000
def Sh.mF(c2:List (List UInt8))(c1:Nat)(c0:Int):Option (((Nat×Int)⊕(Nat⊕bj))) :=
 (bif (decide (c0<(c2.length:Int)))then((Fx.get c2 c0).bind fun c3=>(Fx.must (decide (c1≤(c0:Int).toNat)) ((Sh.cU c3).bind fun c5=>((Fx.get c2 c0).bind fun c4=>(Fx.must (decide (c1≤(c0:Int).toNat)) (Fx.must (decide ((c0:Int).toNat=c1)) (Fx.must (decide (c5=c4)) (some (inl ((c1+1),(IntKind.i64.wrap (c0+1))))))))))))else(some (inr (inl c1))))
def Sh.vQ(x0:bj)(c2:List UInt8)(c0:List (List UInt8))(c1:Nat):Option bj :=
 ((Sh.bH x0.bf).bind fun c3=>(Fx.must (decide (c0.length≤c1)) (some (bj.mk x0.bk x0.bp c2 c0 c3 x0.at_ x0.steps x0.done))))
def Sh.fW(x0:bj):Option bj :=
 ((Sh.cU x0.b_).bind fun c4=>((Sh.fH x0.ah).bind fun c0=>(Fx.seq (Fx.loop (fun(c2,c3)=>Sh.mF c0 c2 c3) (0,0)) fun c1=>Sh.vQ x0 c4 c0 c1)))
def Sh.mC(x1:dD)(c0:Vec ak 11)(c3:List Int)(c1:Int):Option (((Vec ak 11×List Int×Int)⊕((Vec ak 11×List Int)⊕bj))) :=
 (bif (decide (c1<(x1.bk.length:Int)))then((Fx.get x1.bk c1).bind fun c2=>((Fx.get c0.l c2.reg).bind fun c4=>(some (inl ((c0.set (c2.reg:Int).toNat c2.new),c3,(IntKind.i64.wrap (c1+1)))))))else(some (inr (inl (c0,c3)))))
def Sh.mD(x1:dD)(c0:Vec bn 32)(c3:List Int)(c1:Int):Option (((Vec bn 32×List Int×Int)⊕((Vec bn 32×List Int)⊕bj))) :=
 (bif (decide (c1<(x1.slots.length:Int)))then((Fx.get x1.slots c1).bind fun c2=>((Fx.get c0.l c2.slot).bind fun c4=>(some (inl ((c0.set (c2.slot:Int).toNat c2.new),c3,(IntKind.i64.wrap (c1+1)))))))else(some (inr (inl (c0,c3)))))
def Sh.vM(c1:List (List UInt8))(c3:Int)(c2:cu)(c0:Nat)(c5:Bool):Option (((List (List UInt8)×Int)⊕(List (List UInt8)⊕bj))) :=
 ((Fx.nj (Fx.pk c1 c0) c2.from_ ((Fx.pk c1 c0).length:Int)).bind fun c6=>((Fx.IX (Fx.pk c1 c0) c2.from_ c2.new).bind fun c4=>(some (inl ((c1.set c0 c4),(IntKind.i64.wrap (c3+1)))))))
def Sh.mE(x1:dD)(c1:List (List UInt8))(c2:Int):Option (((List (List UInt8)×Int)⊕(List (List UInt8)⊕bj))) :=
 (bif (decide (c2<(x1.dE.length:Int)))then((Fx.get x1.dE c2).bind fun c0=>(Fx.seq (bif (decide (c0.table<0))then(some (inl (0,true)))else(bif (decide (c0.table<((List.tail c1).length:Int)))then((Fx.get (List.tail c1) c0.table).bind fun c5=>(some (inl (((c0.table:Int).toNat+1),true))))else Fx.must false none)) fun(c3,c4)=>Sh.vM c1 c2 c0 c3 c4))else(some (inr (inl c1))))
def Sh.aBu(x1:dD)(c1:bj)(c4:Vec ak 11)(c2:Vec bn 32)(c3:List Int)(c0:List (List UInt8)):Option bj :=
 (some (bj.mk c4 c2 (Fx.pk c0 0) (List.tail c0) c3 x1.next c1.steps c1.done))
def Sh.vO(x1:dD)(c0:bj)(c6:Vec ak 11)(c3:Vec bn 32)(c4:List Int):Option bj :=
 (Fx.seq (Fx.loop (fun(c2,c5)=>Sh.mE x1 c2 c5) ((c0.b_::c0.ah),0)) fun c1=>Sh.aBu x1 c0 c6 c3 c4 c1)
def Sh.vN(x1:dD)(c0:bj)(c6:Vec ak 11)(c7:List Int):Option bj :=
 (Fx.seq (Fx.loop (fun(c3,c4,c5)=>Sh.mD x1 c3 c4 c5) (c0.bp,c7,0)) fun(c1,c2)=>Sh.vO x1 c0 c6 c1 c2)
def Sh.rS(x0:bj)(x1:dD):Option bj :=
 ((Sh.fW x0).bind fun c0=>(Fx.seq (Fx.loop (fun(c3,c4,c5)=>Sh.mC x1 c3 c4 c5) (c0.bk,c0.bf,0)) fun(c1,c2)=>Sh.vN x1 c0 c1 c2))
end Go.Proofs
end
section
namespace Go.Fx
open Go Go.Fw Go.Proofs
def fZ(sep:Bool)(L:World→Prop)(hs:List bq)(l:List cu)(so sn:SV)(lo ln:List UInt8):Prop :=
 (sep=false∧bw (eO L) hs l)∨(sep=true ∧ ∃ hs0 l0 t f,hs=hs0 ++ [⟨t,f,so,sn⟩]∧l=l0 ++ [⟨t,f,lo,ln⟩]∧bw (eO L) hs0 l0)
section
variable {sep:Bool}{L L':World→Prop}{hs:List bq}{l:List cu}{so sn:SV}{lo ln:List UInt8}
theorem fZ.none(h:bw (eO L) hs l):fZ false L hs l so sn lo ln:=.inl ⟨rfl,h⟩
theorem fZ.mono(h:fZ sep L hs l so sn lo ln)(k:∀ w,L' w→L w):fZ sep L' hs l so sn lo ln:=by
 rcases h with⟨h1,h2⟩|⟨h1,hs0,l0,t,f,h2,h3,h4⟩
 ·exact .inl ⟨h1,h2.mono fun _ _ q=>q.mono k⟩
 ·exact .inr ⟨h1,hs0,l0,t,f,h2,h3,h4.mono fun _ _ q=>q.mono k⟩
theorem fZ.each(h:fZ sep L hs l so sn lo ln)(k:∀ w,L' w→L w)(ho:∀ w,L' w→cH 0 w so lo)(hn:∀ w,L' w→cH 0 w sn ln):bw (eO L') hs l:=by
 rcases h with⟨h1,h2⟩|⟨h1,hs0,l0,t,f,rfl,rfl,h4⟩
 ·exact h2.mono fun _ _ q=>q.mono k
 ·exact(h4.mono fun _ _ q=>q.mono k).snoc ⟨so,sn,rfl,ho,hn⟩
theorem fZ.len(h:fZ sep L hs l so sn lo ln):hs.length=l.length:=by
 rcases h with⟨h1,h2⟩|⟨h1,hs0,l0,t,f,rfl,rfl,h4⟩
 ·exact h2.len
 ·simp[h4.len]
theorem fZ.push{t f:Int}{so' D_:SV}{lo' Dw:List UInt8}(h:bw (eO L) hs l):fZ true L (hs ++ [⟨t,f,so',D_⟩]) (l ++ [⟨t,f,lo',Dw⟩]) so' D_ lo' Dw:=.inr ⟨rfl,hs,l,t,f,rfl,rfl,h⟩
theorem fZ.last{i:Int}{p:cu}{y:bq}(h:fZ true L hs l so sn lo ln)(hi:i=(l.length:Int)-1)(hp:Fx.get l i=some p)(hy:hs[i.toNat]? = some y):y.old=so∧y.new=sn∧p.old=lo∧p.new=ln∧y.table=p.table∧y.from_=p.from_:=by
 rcases h with⟨h1,_⟩|⟨_,hs0,l0,t,f,rfl,rfl,h4⟩
 ·cases h1
 ·have e:i.toNat=l0.length:=by subst hi;simp
  obtain⟨_,hp⟩:=aL hp
  rw[e]at hp hy
  rw[←h4.len]at hy
  simp at hp hy
  subst hp hy
  exact⟨rfl,rfl,rfl,rfl,rfl,rfl⟩
theorem fZ.setOld{i:Int}{p:cu}{y:bq}{so':SV}{lo':List UInt8}(h:fZ true L hs l so sn lo ln)(hi:i=(l.length:Int)-1)(hp:Fx.get l i=some p)(hy:hs[i.toNat]? = some y) :
  fZ true L (hs.set i.toNat { y with old:=so' }) (l.set i.toNat { p with old:=lo' }) so' sn lo' ln:=by
 have h0:=h
 rcases h with⟨h1,_⟩|⟨_,hs0,l0,t,f,rfl,rfl,h4⟩
 ·cases h1
 ·obtain⟨e1,e2,e3,e4,e5,e6⟩:=fZ.last h0 hi hp hy
  have e:i.toNat=l0.length:=by subst hi;simp
  obtain⟨_,hp⟩:=aL hp
  rw[e]at hp hy ⊢
  simp at hp
  subst hp
  rw[←h4.len]at hy
  simp at hy
  subst hy
  refine .inr ⟨rfl,hs0,l0,t,f,?_,?_,h4⟩
  ·rw[←h4.len];simp
  ·simp
theorem fZ.setNew{i:Int}{p:cu}{y:bq}{D_:SV}{Dw:List UInt8}(h:fZ true L hs l so sn lo ln)(hi:i=(l.length:Int)-1)(hp:Fx.get l i=some p)(hy:hs[i.toNat]? = some y) :
  fZ true L (hs.set i.toNat { y with new:=D_ }) (l.set i.toNat { p with new:=Dw }) so D_ lo Dw:=by
 have h0:=h
 rcases h with⟨h1,_⟩|⟨_,hs0,l0,t,f,rfl,rfl,h4⟩
 ·cases h1
 ·obtain⟨e1,e2,e3,e4,e5,e6⟩:=fZ.last h0 hi hp hy
  have e:i.toNat=l0.length:=by subst hi;simp
  obtain⟨_,hp⟩:=aL hp
  rw[e]at hp hy ⊢
  simp at hp
  subst hp
  rw[←h4.len]at hy
  simp at hy
  subst hy
  refine .inr ⟨rfl,hs0,l0,t,f,?_,?_,h4⟩
  ·rw[←h4.len];simp
  ·simp
theorem fZ.qq{i:Int}{p:cu}{y:bq}{so' D_:SV}{lo' Dw:List UInt8}(h:fZ true L hs l so sn lo ln)(hi:i=(l.length:Int)-1)(hp:Fx.get l i=some p)(hy:hs[i.toNat]? = some y) :
  fZ true L (hs.set i.toNat ⟨p.table,p.from_,so',D_⟩) (l.set i.toNat ⟨p.table,p.from_,lo',Dw⟩) so' D_ lo' Dw:=by
 have h0:=h
 rcases h with⟨h1,_⟩|⟨_,hs0,l0,t,f,rfl,rfl,h4⟩
 ·cases h1
 ·have e:i.toNat=l0.length:=by subst hi;simp
  obtain⟨_,hp⟩:=aL hp
  rw[e]at hp hy ⊢
  simp at hp
  subst hp
  refine .inr ⟨rfl,hs0,l0,t,f,?_,?_,h4⟩
  ·rw[←h4.len];simp
  ·simp
theorem fZ.getr{i:Int}{p:cu}(h:fZ sep L hs l so sn lo ln)(hp:Fx.get l i=some p):∃ y,hs[i.toNat]? = some y:=by
 obtain⟨_,hp⟩:=aL hp
 have:=(aaz.1 hp).1
 exact⟨_,aa9 (by rw[h.len];exact this)⟩
end
end Go.Fx
end
noncomputable section
namespace Go.Proofs
open Go Go.Fw Go.Fx
set_option maxRecDepth 10000
def Sh.vR(c1:List cu)(c0:Bool):Option (((List cu×Bool)⊕((Int×List cu×Bool)⊕((List cu×Bool)⊕List cu)))) :=
 (some (inl (c1,c0)))
def Sh.mH(x0:Int)(x1:List UInt8)(x2:List UInt8)(c0:List cu)(c4:Bool)(c1:Int)(c6:Bool):Option (((List cu×Bool)⊕((Int×List cu×Bool)⊕((List cu×Bool)⊕List cu)))) :=
 (bif c6 then(Fx.seq ((Fx.get c0 (IntKind.i64.wrap ((c0.length:Int)-1))).bind fun c8=>((Fx.get x1 c1).bind fun c9=>((Fx.get c0 (IntKind.i64.wrap ((c0.length:Int)-1))).bind fun d0=>((Fx.get x2 c1).bind fun d1=>(Fx.must (c4) (Fx.must (decide ((IntKind.i64.wrap ((c0.length:Int)-1))=(c0.length:Int)-1)) ((Fx.app 1 c8.old [c9]).bind fun c2=>(Fx.must (c4) (Fx.must (decide ((IntKind.i64.wrap ((c0.length:Int)-1))=(c0.length:Int)-1)) ((Fx.app 1 d0.new [d1]).bind fun d2=>((Fx.get c0 (IntKind.i64.wrap ((c0.length:Int)-1))).bind fun d7=>((Fx.get c0 (IntKind.i64.wrap ((c0.length:Int)-1))).bind fun c3=>(Fx.must (c4) (Fx.must (decide ((IntKind.i64.wrap ((c0.length:Int)-1))=(c0.length:Int)-1)) ((Fx.get (c0.set ((IntKind.i64.wrap ((c0.length:Int)-1)):Int).toNat { c3 with old:=c2 }) (IntKind.i64.wrap ((c0.length:Int)-1))).bind fun d8=>((Fx.get (c0.set ((IntKind.i64.wrap ((c0.length:Int)-1)):Int).toNat { c3 with old:=c2 }) (IntKind.i64.wrap ((c0.length:Int)-1))).bind fun d3=>(Fx.must (true) (Fx.must (decide ((IntKind.i64.wrap ((c0.length:Int)-1))=((c0.set ((IntKind.i64.wrap ((c0.length:Int)-1)):Int).toNat { c3 with old:=c2 }).length:Int)-1)) (some (inl (((c0.set ((IntKind.i64.wrap ((c0.length:Int)-1)):Int).toNat { c3 with old:=c2 }).set ((IntKind.i64.wrap ((c0.length:Int)-1)):Int).toNat { d3 with new:=d2 }),true))))))))))))))))))))) fun(c7,c5)=>Sh.vR c7 c5)else((Fx.get x1 c1).bind fun d4=>((Fx.get x2 c1).bind fun d5=>((Fx.app 64 c0 [(cu.mk x0 c1 [d4] [d5])]).bind fun d6=>(some (inl (d6,true)))))))
def Sh.mG(c1:Int)(c2:List cu)(c0:Bool):Option (((Int×List cu×Bool)⊕((List cu×Bool)⊕List cu))) :=
 (some (inl ((IntKind.i64.wrap (c1+1)),c2,c0)))
def Sh.mI(x0:Int)(x1:List UInt8)(x2:List UInt8)(c4:List Int)(c1:Int)(c0:List cu)(c2:Bool):Option (((Int×List cu×Bool)⊕((List cu×Bool)⊕List cu))) :=
 (bif (decide (c1<(c4.length:Int)))then(Fx.seq ((Fx.get c4 c1).bind fun c3=>(Fx.seq (bif (decide (0≤(IntKind.i64.wrap ((c0.length:Int)-1))))then((Fx.get c0 (IntKind.i64.wrap ((c0.length:Int)-1))).bind fun c8=>((Fx.get c0 (IntKind.i64.wrap ((c0.length:Int)-1))).bind fun c9=>(some (inl (decide ((IntKind.i64.wrap (c8.from_+(c9.old.length:Int)))=c3))))))else(some (inl false))) fun c7=>Sh.mH x0 x1 x2 c0 c2 c3 c7)) fun(c6,c5)=>Sh.mG c1 c6 c5)else(some (inr (inl (c0,c2)))))
def Sh.GG(c0:List cu)(c1:Bool):Option (List cu) :=
 (some c0)
def Sh.rU(x0:Int)(x1:List UInt8)(x2:List UInt8):Option (List cu) :=
 (Fx.seq ((Sh.cN x1 x2).bind fun c5=>(Fx.loop (fun(c3,c4,c1)=>Sh.mI x0 x1 x2 c5 c3 c4 c1) (0,[],false))) fun(c2,c0)=>Sh.GG c2 c0)
end Go.Proofs
end
noncomputable section
namespace Go.Proofs
open Go Go.Fw Go.Fx
set_option maxRecDepth 10000
def Sh.kB(x0:bj)(x1:bj)(c3:List Int)(c2:List dU)(c0:Int):Option (((List dU×Int)⊕(List dU⊕(dD×Int)))) :=
 (bif (decide (c0<(c3.length:Int)))then((Fx.get c3 c0).bind fun c1=>((Fx.get x0.bk.l c1).bind fun c4=>((Fx.get x1.bk.l c1).bind fun c5=>((Fx.app 72 c2 [(dU.mk c1 c4 c5)]).bind fun c6=>(some (inl (c6,(IntKind.i64.wrap (c0+1)))))))))else(some (inr (inl c2))))
def Sh.kC(x0:bj)(x1:bj)(c4:List Int)(c2:List dU)(c3:List eo)(c0:Int):Option (((List dU×List eo×Int)⊕((List dU×List eo)⊕(dD×Int)))) :=
 (bif (decide (c0<(c4.length:Int)))then((Fx.get c4 c0).bind fun c1=>((Fx.get x0.bp.l c1).bind fun c5=>((Fx.get x1.bp.l c1).bind fun c6=>((Fx.app 104 c3 [(eo.mk c1 c5 c6)]).bind fun c7=>(some (inl (c2,c7,(IntKind.i64.wrap (c0+1)))))))))else(some (inr (inl (c2,c3)))))
def Sh.kD(x0:bj)(x1:bj)(c1:List dU)(c2:List eo)(c3:List cu)(c0:Int):Option (((List dU×List eo×List cu×Int)⊕((List dU×List eo×List cu)⊕(dD×Int)))) :=
 (bif (decide (c0<(x0.ah.length:Int)))then((Fx.get x0.ah c0).bind fun c4=>((Fx.get x1.ah c0).bind fun c5=>((Sh.rU c0 c4 c5).bind fun c7=>((Fx.app 64 c3 c7).bind fun c6=>(some (inl (c1,c2,c6,(IntKind.i64.wrap (c0+1)))))))))else(some (inr (inl (c1,c2,c3)))))
def Sh.yR(x0:bj)(x1:bj)(c0:List dU)(c1:List eo)(c2:List cu):Option ((dD×Int)) :=
 ((Fx.nj x1.bf (x0.bf.length:Int) (x1.bf.length:Int)).bind fun c3=>((Fx.app 8 [] c3).bind fun c4=>(some ((dD.mk x0.at_ x1.at_ x1.done c0 c1 c2 c4),0))))
def Sh.yQ(x0:bj)(x1:bj)(c0:List dU)(c1:List eo):Option ((dD×Int)) :=
 ((Sh.rU (-1) x0.b_ x1.b_).bind fun c9=>(Fx.seq (Fx.loop (fun(c5,c6,c7,c8)=>Sh.kD x0 x1 c5 c6 c7 c8) (c0,c1,c9,0)) fun(c2,c3,c4)=>Sh.yR x0 x1 c2 c3 c4))
def Sh.Jz(x0:bj)(x1:bj)(c0:List dU):Option ((dD×Int)) :=
 (Fx.seq ((Sh.hH x0.bp.l x1.bp.l).bind fun c6=>(Fx.loop (fun(c3,c4,c5)=>Sh.kC x0 x1 c6 c3 c4 c5) (c0,[],0))) fun(c1,c2)=>Sh.yQ x0 x1 c1 c2)
def Sh.mW(x0:bj)(x1:bj)(c4:Bool):Option ((dD×Int)) :=
 (bif c4 then(some ((dD.mk 0 0 false [] [] [] []),1))else((Sh.wB x0 x1).bind fun c5=>(bif (!c5)then(some ((dD.mk 0 0 false [] [] [] []),231))else(Fx.seq ((Sh.gQ x0.bk.l x1.bk.l).bind fun c3=>(Fx.loop (fun(c1,c2)=>Sh.kB x0 x1 c3 c1 c2) ([],0))) fun c0=>Sh.Jz x0 x1 c0))))
def Sh.eM(x0:bj)(x1:bj):Option ((dD×Int)) :=
 (Fx.seq ((Sh.hN x0).bind fun c1=>(bif (!c1)then(some (inl true))else((Sh.hN x1).bind fun c2=>(some (inl (!c2)))))) fun c0=>Sh.mW x0 x1 c0)
end Go.Proofs
end
noncomputable section
namespace Go.Proofs
open Go Go.Fw Go.Fx
set_option maxRecDepth 10000
def Sh.nO(x0:bj)(x1:dD):Option Int :=
 ((Sh.hN x0).bind fun Vg=>(bif (!Vg)then(some 1)else((Sh.cP x1).bind fun Vh=>(bif (!Vh)then(some 230)else(some 0)))))
def Sh.wY(x0:bj)(x1:dD)(c1:Bool):Option ((bj×Int)) :=
 (bif c1 then(some ((bj.mk (⟨List.replicate 11 ak.zero,rfl⟩ : Vec ak 11) (⟨List.replicate 32 bn.zero,rfl⟩ : Vec bn 32) [] [] [] 0 0 false),231))else((Sh.rS x0 x1).bind fun c0=>((Fx.app 8 c0.bf x1.bf).bind fun c2=>(some ((bj.mk c0.bk c0.bp c0.b_ c0.ah c2 c0.at_ (IntKind.i64.wrap (c0.steps+1)) x1.done),0)))))
def Sh.bP(x0:bj)(x1:dD):Option ((bj×Int)) :=
 ((Sh.nO x0 x1).bind fun Ro=>(bif (!decide (Ro=0))then(some ((bj.mk (⟨List.replicate 11 ak.zero,rfl⟩ : Vec ak 11) (⟨List.replicate 32 bn.zero,rfl⟩ : Vec bn 32) [] [] [] 0 0 false),Ro))else(Fx.seq (bif x0.done then(some (inl true))else(bif (decide (x0.steps=4294967296))then(some (inl true))else((Sh.xB x0 x1).bind fun c1=>(some (inl (!c1)))))) fun c0=>Sh.wY x0 x1 c0)))
end Go.Proofs
end
section
namespace Go.Fx
open Go Go.Fw
structure ya where
 l:Nat
 d:Nat
 fn:Nat
 ts:Array Value
 ps:Array Tmp
 ag:Code
 bd:Code
def ya.o(rc:ya)(st:LoopState)(pd:Option Code):Obj:=.loop { state:=st,pending:=pd,fn:=rc.fn,tmps:=rc.ts,params:=rc.ps,assign:=rc.ag,body:=rc.bd,defers:=rc.d }
abbrev kx(rc:ya)(st:LoopState)(pd:Option Code):dw:=.obj rc.l (rc.o st pd)
abbrev qd:Obj:=.deferred (some [])
abbrev mark(d:Nat):Deferred:={ target:=.collected d,args:=#[] }
structure va(n:Nat)(F:List (Nat×Value))(ts:Array Value):Prop where
 size:ts.size=n
 get:∀ i v,Go.Fw.look F i=some v→ts[i]? = some v
theorem Fr.toT{n:Nat}{F:List (Nat×Value)}{a:Act}{dd:List Deferred}(h:Fr n F a dd):va n F a.tmps:=⟨h.size,h.get⟩
theorem va.fr{n:Nat}{F:List (Nat×Value)}{ts:Array Value}(h:va n F ts)(dd:List Deferred):Fr n F { tmps:=ts,defers:=dd } dd:=⟨rfl,h.size,h.get⟩
theorem va.put{n d:Nat}{F:List (Nat×Value)}{ts:Array Value}{v:Value}(h:va n F ts)(hd:Nat.blt d n=true):va n ((d,v)::F) (ts.setIfInBounds d v):=by
 have:=Fr.put (h.fr []) (v:=v) hd
 exact⟨this.size,this.get⟩
theorem lY{w:World}{b:Nat}{o o':Obj}(hb:w.heap[b]? = some o):oc (.obj b o) (.obj b o') w (w.putObj b o'):=by
 have hlt:b<w.heap.size:=(aak.1 hb).1
 refine⟨⟨rfl,rfl,rfl⟩,by simp[World.putObj],fun k _ hf=>?_,?_,fun _ hk=>.inl hk⟩
 ·exact World.putObj_heap_other (fun e=>hf e)
 ·exact World.putObj_heap_same hlt
section
variable {P:Program}{n:Nat}{F:List (Nat×Value)}{a:Act}{dd:List Deferred}{w:World}{L:List dw}{Q:Exit→Act→World→Prop}
def vz(P:Program)(n:Nat)(F:List (Nat×Value))(dd:List Deferred)(rc:ya)(Q:Exit→Act→World→Prop)(w:World):Prop :=
 ∀ a,Fr n F a (mark rc.d::dd) → ∃ jump w',(Instr.endLoop rc.l).run P w = .ok jump w' ∧ (match jump with
  | none=>Q .normal a w'
  | some c=>Wp none P c Q a w')
variable {rc:ya}
theorem Sj{st:LoopState}{pd:Option Code}(hst:st ≠ .busy)(hM:au w (kx rc st pd::L)):∃ w',(Instr.endLoop rc.l).run P w = .ok pd w' ∧ au w' L:=by
 have ho:w.heap[rc.l]? = some (rc.o st pd):=hM.hold 0 _ rfl
 exact⟨_,run_endLoop (P:=P) ho hst,(hM.chg (lY (o':=rc.o .exhausted pd) ho) (i:=0) rfl).tail⟩
theorem RP(hM:au w (kx rc .ready none::L))(next:∀ a w',Fr n F a (mark rc.d::dd)→au w' L→Q .normal a w'):vz P n F dd rc Q w:=by
 intro a hF
 obtain⟨w',h1,h2⟩:=Sj (P:=P) (by intro h;cases h) hM
 exact⟨none,w',h1,next a _ hF h2⟩
theorem Ih(hM:au w (kx rc .done (some .ret)::L))(next:∀ a w',Fr n F a (mark rc.d::dd)→au w' L→Q .ret a w'):vz P n F dd rc Q w:=by
 intro a hF
 obtain⟨w',h1,h2⟩:=Sj (P:=P) (by intro h;cases h) hM
 exact⟨some .ret,w',h1,p_ (next a _ hF h2)⟩
theorem SN{g:Operand}{ps:Array Tmp}{ag bd:Code}{f:Nat}{fs cs:List Value}{R:ya→Value→World→Prop}(hcf:∀ args w,(callFunc f args).run P w = .ok (.enter f args) w)(hF:Fr n F a dd)(hM:au w L)(hg:ev F g=some (.func (.func f) fs.toArray cs.toArray))
  (hcall:∀ (rc:ya) w',rc.ps=ps→rc.ag=ag→rc.bd=bd→va n F rc.ts→au w' (kx rc .ready none :: .obj rc.d qd::L)→Calls P f (fs ++ .func (.yield rc.l) #[] #[]::cs).toArray w' (gf (R rc)))
  (hgo:∀ (rc:ya) v w',R rc v w' → vz P n F dd rc Q w'):Wp none P (.rangeFunc g ps ag bd) Q a w:=by
 refine wpIn_rangeFunc fun fn _=>?_
 have hA1:au (w.alloc qd) (.obj w.heap.size qd::L):=hM.plus (iy.alloc w qd)
 have hs:(w.alloc qd).heap.size=w.heap.size+1:=by simp
 let rc:ya:=⟨w.heap.size+1,w.heap.size,fn,a.tmps,ps,ag,bd⟩
 have hA2:=hA1.plus (iy.alloc (w.alloc qd) (rc.o .ready none))
 rw[hs]at hA2
 refine⟨w.heap.size+1,[mark w.heap.size],(w.alloc qd).alloc (rc.o .ready none),{ target:=.fn (.func f) cs.toArray,args:=fs.toArray ++ #[.func (.yield (w.heap.size+1)) #[] #[]] },(w.alloc qd).alloc (rc.o .ready none),f,
  (fs ++ .func (.yield (w.heap.size+1)) #[] #[]::cs).toArray,(w.alloc qd).alloc (rc.o .ready none),?_,?_,fun _ _=>trivial,?_,fun hx=>wM hx,?_⟩
 ·rw[show(Wd none).round=none from rfl,run_enterLoop_outer fn a.tmps ps ag bd]
  rfl
 ·have hev:a.eval g = .func (.func f) fs.toArray cs.toArray:=hF.eval hg
  simp only[resolve,hev,Deferred.ofValue,Sem.run_pure]
  simp[Act.eval]
 ·simp only[invoke]
  simp[hcf]
 ·refine vC.2 (Calls.mono (hcall rc _ rfl rfl rfl (Fr.toT hF) hA2) fun e w3 hr=>?_)
  cases e<;>simp only[gf]at hr
  have zm:Fr n F { a with defers:=[mark w.heap.size]++a.defers } (mark rc.d::dd):=⟨by simp[hF.defers,rc],hF.size,hF.get⟩
  obtain⟨jump,w4,h1,h2⟩:=hgo _ _ _ hr _ zm
  refine⟨jump,w4,h1,?_⟩
  cases jump<;>exact h2
theorem uG{o:Oper}{f:Operand}{xs:List Operand}{vs:List Value}{tys:Array TypeId}{i:Nat}{pd:Option Code}{MP:Array Value}{ps:List Tmp}{ag bd:Code}{J:Value→World→Prop}(hF:Fr n F a dd)(ho:o.op = .call { callee:=.value f,args:=xs.toArray,argTypes:=tys })(hf:ev F f=some (.func (.yield rc.l) #[] #[]))(hx:evs F xs=some vs)
  (hM:au w L) (hi:L[i]? = some (kx rc .ready pd)) (hps:rc.ps=ps.toArray) (hag:rc.ag=ag) (hbd:rc.bd=bd) (hl:vs.length=ps.length) (I8:(ps.zip vs).foldl (fun tm (p:Tmp×Value)=>tm.setIfInBounds p.1 p.2) rc.ts=MP)
  (h:Wp (some rc.l) P ag (Exit.then (fun a1 w1=>∃ w2,(Instr.beginRound rc.l).run P w1 = .ok () w2∧Wp (some rc.l) P bd (roundPost P rc.l (gf J)) a1 w2) (fun _ _ _=>False)) { tmps:=MP,defers:=[] } w):Yd P o a.eval w J:=by
 have hob:w.heap[rc.l]? = some (rc.o .ready pd):=hM.hold i _ hi
 have hy:=run_yield (P:=P) (args:=vs.toArray) hob (by simp[hl,hps])
 have hrd:RoundIn (Wd none) 0 P rc.l rc.fn MP ag bd w (gf J):=roundIn_of_wpIn (F:=Wd none) trivial h
 have e1:(ps.toArray.zip vs.toArray).foldl (fun(tmps:Array Value) (p:Tmp×Value)=>tmps.setIfInBounds p.1 p.2) rc.ts=MP:=by
  rw[←I8,List.zip_toArray,List.foldl_toArray]
 have hev:=hF.eval hf
 have PE:=hF.evals hx
 unfold Yd
 have hrun:(execOp a.eval o).run P w = .ok (.round rc.l rc.fn MP ag bd) w:=by
  simp only[execOp,ho,resolve,hev,Deferred.ofValue,Sem.run_bind,Sem.run_pure,Result.andThen_ok,invoke,acd,PE,ace,acf]
  rw[←e1,←hag,←hbd]
  simp only[hps]at hy
  exact hy
 rw[hrun]
 exact hrd
theorem pP{i:Nat}{pd:Option Code}{K:World→Prop}(hM:au w L)(hi:L[i]? = some (kx rc .ready pd))
  (next:∀ w',au w' (L.set i (kx rc .busy pd))→K w'):∃ w2,(Instr.beginRound rc.l).run P w = .ok () w2∧K w2 :=
 ⟨_,run_beginRound (P:=P) (hM.hold i _ hi) rfl,next _ (hM.chg (lY (hM.hold i _ hi)) hi)⟩
theorem tU{i:Nat}{pd:Option Code}{st:LoopState}{J:Value→World→Prop}(hM:au w L)(hi:L[i]? = some (kx rc st pd))
  (next:∀ w',au w' (L.set i (kx rc .ready none))→J (.bool true) w'):roundPost P rc.l (gf J) .normal a w :=
 ⟨_,_,run_endRound (P:=P) none (hM.hold i _ hi),next _ (hM.chg (lY (hM.hold i _ hi)) hi)⟩
theorem sO{i:Nat}{pd:Option Code}{st:LoopState}{J:Value→World→Prop}(hM:au w L)(hi:L[i]? = some (kx rc st pd))
  (next:∀ w',au w' (L.set i (kx rc .done (some .ret)))→J (.bool false) w'):roundPost P rc.l (gf J) .ret a w :=
 ⟨_,_,run_endRound (P:=P) (some .ret) (hM.hold i _ hi),next _ (hM.chg (lY (hM.hold i _ hi)) hi)⟩
def Leave(P:Program)(fn:Func)(ts:Array Value)(R:Value→World→Prop)(w:World):Prop:=∃ v,(results fn ts).run P w = .ok v w∧R v w
theorem mN{fn:Func}{R:Value→World→Prop}{d:Nat}{ds:List Deferred}{ts:Array Value}{i:Nat}(hM:au w L)(hi:L[i]? = some (.obj d qd))(next:∀ w',au w' (L.set i (.obj d (.deferred none)))→LeavesInM (Wd none) 0 P fn ts (gf R) ds .returning w'):LeavesInM (Wd none) 0 P fn ts (gf R) (mark d::ds) .returning w:=by
 refine⟨fun h=>(by cases h),.inl ⟨d,_,rfl,run_takeDeferred (P:=P) (hM.hold i _ hi),?_⟩⟩
 exact next _ (hM.chg (lY (hM.hold i _ hi)) hi)
theorem nT{fn:Func}{R:Value→World→Prop}{ts:Array Value}(h:Leave P fn ts R w):LeavesInM (Wd none) 0 P fn ts (gf R) [] .returning w:=h
theorem wF{fn:Func}{R:Value→World→Prop}{ds:List Deferred}(hF:Fr n F a ds)(h:LeavesInM (Wd none) 0 P fn a.tmps (gf R) ds .returning w):bP P fn (gf R) .ret a w:=by
 show LeavesInM (Wd none) 0 P fn a.tmps (gf R) a.defers .returning w
 rw[hF.defers];exact h
theorem Jq{fn:Func}{rs:List ResultVar}{vs:List Value}{v:Value}{R:Value→World→Prop}{ts:Array Value}(hr:fn.results=rs.toArray)(hv:lj P w ts rs vs)(he:(if vs.length=1 then vs.headD undef else .tuple vs.toArray)=v)(h:R v w):Leave P fn ts R w :=
 ⟨v,by rw[sR hr hv,he],h⟩
end
end Go.Fx
end
section
namespace Go.Fx
open Go Go.Fw Go.Proofs
structure n_(B R:World→Prop)(n:Nat)(h:Bool)(hs:List bq)(ls:List cu):Prop where
 len:hs.length=ls.length
 own:∀ i x y,i<n→hs[i]? = some x→ls[i]? = some y→eO R x y
 E8:∀ i x y,n≤i→(h=false∨i≠n)→hs[i]? = some x→ls[i]? = some y→eO B x y
 half:h=true → ∀ x y,hs[n]? = some x→ls[n]? = some y→x.table=y.table∧x.from_=y.from_∧cn R x.old y.old∧cn B x.new y.new
section
variable {B R R':World→Prop}{n:Nat}{hs:List bq}{ls:List cu}{i:Int}{x:cu}{y:bq}{s:SV}
theorem n_.of(q:bw (eO B) hs ls):n_ B R 0 false hs ls:=⟨q.len,fun i x y h=>absurd h (acp _),fun i x y _ _ hx hy=>q.at_ i x y hx hy,fun h=>by cases h⟩
theorem n_.getr{h:Bool}(q:n_ B R n h hs ls)(hx:Fx.get ls i=some x):(0≤i∧i<(hs.length:Int)) ∧ ∃ y,hs[i.toNat]? = some y∧(n≤i.toNat→h=false→eO B y x):=by
 obtain⟨h0,h1⟩:=aL hx
 have h2:=(aaz.1 h1).1
 have h3:i.toNat<hs.length:=by rw[q.len];exact h2
 exact⟨adr,hs[i.toNat],aa9 h3,fun hn hf=>q.E8 _ _ _ hn (.inl hf) (aa9 h3) h1⟩
theorem FH{X:Type}{l:List X}{k j:Nat}{a b:X}(h:(l.set k a)[j]? = some b):(k=j∧b=a)∨(k≠j∧l[j]? = some b):=by
 rw[ab1]at h
 split at h
 ·rename_i e
  split at h
  ·exact .inl ⟨e,(adp h).symm⟩
  ·cases h
 ·exact .inr ⟨by assumption,h⟩
theorem n_.old(q:n_ B R n false hs ls)(hx:Fx.get ls i=some x)(hy:hs[i.toNat]? = some y)(hi:i.toNat=n)(k:∀ w,R' w→R w)(hs':∀ w,R' w→cH 0 w s x.old):n_ B R' n true (hs.set i.toNat { y with old:=s }) ls:=by
 obtain⟨h0,h1⟩:=aL hx
 have hb:=q.E8 _ _ _ (ac0 hi.symm) (.inl rfl) hy h1
 refine⟨by rw[abT];exact q.len,fun j a b hj ha hb'=>?_,fun j a b hj hne ha hb'=>?_,fun _ a b ha hb'=>?_⟩
 ·rcases FH ha with⟨e,_⟩|⟨e,ha⟩
  ·omega
  ·exact(q.own j a b hj ha hb').mono k
 ·rcases FH ha with⟨e,_⟩|⟨e,ha⟩
  ·rcases hne with hne|hne
   ·cases hne
   ·omega
  ·exact q.E8 j a b hj (.inl rfl) ha hb'
 ·rcases FH ha with⟨e,rfl⟩|⟨e,ha⟩
  ·rw[←hi]at hb'
   cases h1.symm.trans hb'
   obtain⟨so,sn,rfl,f0,f1⟩:=hb
   exact⟨rfl,rfl,hs',f1⟩
  ·exact absurd hi e
theorem n_.new(q:n_ B R n true hs ls)(hx:Fx.get ls i=some x)(hy:hs[i.toNat]? = some y)(hi:i.toNat=n)(k:∀ w,R' w→R w)(hs':∀ w,R' w→cH 0 w s x.new):n_ B R' (n+1) false (hs.set i.toNat { y with new:=s }) ls:=by
 obtain⟨h0,h1⟩:=aL hx
 have hh:=q.half rfl y x (by rw[←hi];exact hy) (by rw[←hi];exact h1)
 refine⟨by rw[abT];exact q.len,fun j a b hj ha hb'=>?_,fun j a b hj _ ha hb'=>?_,fun h=>by cases h⟩
 ·rcases FH ha with⟨e,rfl⟩|⟨e,ha⟩
  ·rw[←e]at hb'
   cases h1.symm.trans hb'
   obtain⟨g1,g2,g3,g4⟩:=hh
   obtain⟨t,f,so,sn⟩:=y
   simp only at g1 g2 g3
   subst g1 g2
   exact⟨so,s,rfl,cn.mono g3 k,hs'⟩
  ·exact(q.own j a b adr ha hb').mono k
 ·rcases FH ha with⟨e,_⟩|⟨e,ha⟩
  ·omega
  ·exact q.E8 j a b adr (.inr adr) ha hb'
theorem n_.done(q:n_ B R n false hs ls)(hn:ls.length≤n):bw (eO R) hs ls :=
 ⟨q.len,fun i x y hx hy=>q.own i x y (by have:=(aaz.1 hy).1;omega) hx hy⟩
end
end Go.Fx
end
noncomputable section
namespace Go.Proofs
open Go Go.Fw Go.Fx
set_option maxRecDepth 10000
def Sh.qI(x0:fj):Option bj :=
 ((Fx.get (⟨List.replicate 11 ak.zero,rfl⟩ : Vec ak 11).l 1).bind fun EF=>((Fx.get ((⟨List.replicate 11 ak.zero,rfl⟩ : Vec ak 11).set (1:Int).toNat (ak.mk 3 EF.table EF.row EF.x)).l 2).bind fun x38=>((Fx.get (((⟨List.replicate 11 ak.zero,rfl⟩ : Vec ak 11).set (1:Int).toNat (ak.mk 3 EF.table EF.row EF.x)).set (2:Int).toNat (ak.mk 1 0 0 (x0.b_.length:Int))).l 10).bind fun x40=>((Sh.fW (bj.mk ((((⟨List.replicate 11 ak.zero,rfl⟩ : Vec ak 11).set (1:Int).toNat (ak.mk 3 EF.table EF.row EF.x)).set (2:Int).toNat (ak.mk 1 0 0 (x0.b_.length:Int))).set (10:Int).toNat (ak.mk 2 0 0 256)) (⟨List.replicate 32 bn.zero,rfl⟩ : Vec bn 32) x0.b_ x0.ah [] 0 0 false)).bind fun Ji=>(some Ji)))))
def Sh.yT(c0:bj)(c1:Int)(c2:Int):Option (((bj×Int×Int)⊕((bj×Int)⊕(((bj×Int×Int×Int)⊕Int)⊕(bj×Int×Int))))) :=
 (some (inr (inr (inl (inl (c0,c1,0,c2))))))
def Sh.wZ(c0:Int)(c1:Int)(c2:Int):Option (((bj×Int×Int)⊕((bj×Int)⊕(((bj×Int×Int×Int)⊕Int)⊕(bj×Int×Int))))) :=
 (some (inr (inr (inl (inl ((bj.mk (⟨List.replicate 11 ak.zero,rfl⟩ : Vec ak 11) (⟨List.replicate 32 bn.zero,rfl⟩ : Vec bn 32) [] [] [] 0 0 false),c0,c1,c2))))))
def Sh.tT(c2:bj)(c3:Int)(c7:dD)(c0:Int):Option (((bj×Int×Int)⊕((bj×Int)⊕(((bj×Int×Int×Int)⊕Int)⊕(bj×Int×Int))))) :=
 ((Sh.bP c2 c7).bind fun c1=>(bif (!decide (c1.2=0))then(Fx.seq (some (inl ((IntKind.i64.wrap ((IntKind.i64.wrap (c0+1))-1)),c1.2,(IntKind.i64.wrap (c0+1))))) (fun(c4,c5,c6)=>Sh.wZ c4 c5 c6))else(some (inl (c1.1,c0,(IntKind.i64.wrap (c3+1)))))))
def Sh.kE(x1:Int)(c3:du)(c1:bj)(c0:Int)(c2:Int):Option (((bj×Int×Int)⊕((bj×Int)⊕(((bj×Int×Int×Int)⊕Int)⊕(bj×Int×Int))))) :=
 (bif (decide (c2<(c3.cj.length:Int)))then((Fx.get c3.cj c2).bind fun c8=>(Fx.seq (bif (!decide (0=0))then(some (inl (inl ((bj.mk (⟨List.replicate 11 ak.zero,rfl⟩ : Vec ak 11) (⟨List.replicate 32 bn.zero,rfl⟩ : Vec bn 32) [] [] [] 0 0 false),(IntKind.i64.wrap ((IntKind.i64.wrap (c0+1))-1)),(IntKind.i64.wrap (c0+1))))))else(bif (decide ((IntKind.i64.wrap (c0+1))=x1))then(some (inl (inl (c1,0,(IntKind.i64.wrap (c0+1))))))else(some (inl (inr (IntKind.i64.wrap (c0+1))))))) (Sum.elim (fun(c4,c5,c6)=>Sh.yT c4 c5 c6) (fun c7=>Sh.tT c1 c2 c8 c7))))else(some (inr (inl (c1,c0)))))
def Sh.xA(c0:bj)(c1:Int)(c2:Int):Option ((((bj×Int×Int×Int)⊕Int)⊕(bj×Int×Int))) :=
 (some (inl (inl (c0,c1,0,c2))))
def Sh.Ic(c0:Int):Option ((((bj×Int×Int×Int)⊕Int)⊕(bj×Int×Int))) :=
 (some (inl (inr c0)))
def Sh.tU(x1:Int)(c1:bj)(c0:Int):Option ((((bj×Int×Int×Int)⊕Int)⊕(bj×Int×Int))) :=
 (Fx.seq (bif (!decide (0=0))then(some (inl (inl ((bj.mk (⟨List.replicate 11 ak.zero,rfl⟩ : Vec ak 11) (⟨List.replicate 32 bn.zero,rfl⟩ : Vec bn 32) [] [] [] 0 0 false),(IntKind.i64.wrap ((IntKind.i64.wrap (c0+1))-1)),(IntKind.i64.wrap (c0+1))))))else(bif (decide ((IntKind.i64.wrap (c0+1))=x1))then(some (inl (inl (c1,0,(IntKind.i64.wrap (c0+1))))))else(some (inl (inr (IntKind.i64.wrap (c0+1))))))) (Sum.elim (fun(c2,c3,c4)=>Sh.xA c2 c3 c4) (fun c5=>Sh.Ic c5)))
def Sh.aDa(c0:bj)(c1:Int)(c2:Int)(c3:Int):Option ((bj×Int×Int)) :=
 (some (c0,c1,c2))
def Sh.Ig(c0:Int):Option ((bj×Int×Int)) :=
 (some ((bj.mk (⟨List.replicate 11 ak.zero,rfl⟩ : Vec ak 11) (⟨List.replicate 32 bn.zero,rfl⟩ : Vec bn 32) [] [] [] 0 0 false),0,1))
def Sh.tS(x1:Int)(c0:du):Option ((bj×Int×Int)) :=
 (Fx.seq ((Sh.qI c0.iz).bind fun d1=>(Fx.seq (Fx.loop (fun(c8,c9,d0)=>Sh.kE x1 c0 c8 c9 d0) (d1,(-1),0)) fun(c6,c7)=>Sh.tU x1 c6 c7)) (Sum.elim (fun(c1,c2,c3,c4)=>Sh.aDa c1 c2 c3 c4) (fun c5=>Sh.Ig c5)))
def Sh.jF(x0:du)(x1:Int):Option ((bj×Int×Int)) :=
 ((Sh.bK x1 0 (x0.cj.length:Int)).bind fun c1=>(bif (!c1)then(some ((bj.mk (⟨List.replicate 11 ak.zero,rfl⟩ : Vec ak 11) (⟨List.replicate 32 bn.zero,rfl⟩ : Vec bn 32) [] [] [] 0 0 false),0,1))else((Sh.gW x0.iz).bind fun c2=>(bif (!c2)then(some ((bj.mk (⟨List.replicate 11 ak.zero,rfl⟩ : Vec ak 11) (⟨List.replicate 32 bn.zero,rfl⟩ : Vec bn 32) [] [] [] 0 0 false),0,3))else(Fx.seq (some (inl x0)) (fun c0=>Sh.tS x1 c0))))))
def Sh.pC(c2:List cu)(c1:Nat)(c0:Int):Option (((Nat×Int)⊕(Nat⊕dD))) :=
 (bif (decide (c0<(c2.length:Int)))then((Fx.get c2 c0).bind fun c3=>(Fx.must (decide (c1≤(c0:Int).toNat)) ((Sh.cU c3.old).bind fun c6=>((Sh.cU c3.new).bind fun c7=>((Fx.get c2 c0).bind fun c4=>(Fx.must (decide (c1≤(c0:Int).toNat)) (Fx.must (decide ((c0:Int).toNat=c1)) (Fx.must (decide (c6=c4.old)) ((Fx.get c2 c0).bind fun c5=>(Fx.must (decide ((c0:Int).toNat=c1)) (Fx.must (decide (c7=c5.new)) (some (inl ((c1+1),(IntKind.i64.wrap (c0+1))))))))))))))))else(some (inr (inl c1))))
def Sh.zB(x0:dD)(c2:List dU)(c3:List eo)(c4:List Int)(c0:List cu)(c1:Nat):Option dD :=
 (Fx.must (decide (c0.length≤c1)) (some (dD.mk x0.at_ x0.next x0.done c2 c3 c0 c4)))
def Sh.aBv(x0:dD):Option dD :=
 ((Sh.cW x0.bk).bind fun c4=>((Sh.cV x0.slots).bind fun c5=>((Sh.bH x0.bf).bind fun c6=>((Sh.cM x0.dE).bind fun c0=>(Fx.seq (Fx.loop (fun(c2,c3)=>Sh.pC c0 c2 c3) (0,0)) fun c1=>Sh.zB x0 c4 c5 c6 c0 c1)))))
def Sh.hI(c2:List dD)(c0:du)(c1:Int):Option (((du×Int)⊕(du⊕(du×Int)))) :=
 (bif (decide (c1<(c2.length:Int)))then((Fx.get c2 c1).bind fun c3=>((Sh.aBv c3).bind fun c5=>((Fx.app 120 c0.cj [c5]).bind fun c4=>(some (inl ((du.mk c0.iz c4 c0.end_),(IntKind.i64.wrap (c1+1))))))))else(some (inr (inl c0))))
def Sh.aH9(c0:du):Option ((du×Int)) :=
 (some (c0,0))
def Sh.yS(x0:du)(x1:Int)(c1:Int):Option ((du×Int)) :=
 ((Sh.fW (bj.mk (⟨List.replicate 11 ak.zero,rfl⟩ : Vec ak 11) (⟨List.replicate 32 bn.zero,rfl⟩ : Vec bn 32) x0.iz.b_ x0.iz.ah [] 0 0 false)).bind fun c0=>(Fx.seq ((Fx.nj x0.cj 0 x1).bind fun c5=>(Fx.loop (fun(c3,c4)=>Sh.hI c5 c3 c4) ((du.mk (fj.mk c0.b_ c0.ah) [] c1),0))) fun c2=>Sh.aH9 c2))
def Sh.kV(x0:du)(x1:Int):Option ((du×Int)) :=
 ((Sh.bK x1 0 (x0.cj.length:Int)).bind fun c1=>(bif (!c1)then(some ((du.mk (fj.mk [] []) [] 0),1))else(Fx.seq (bif (decide (x1<(x0.cj.length:Int)))then(some (inl 88))else(some (inl x0.end_))) fun c0=>Sh.yS x0 x1 c0)))
end Go.Proofs
end
noncomputable section
namespace Go.Proofs
open Go Go.Fw Go.Fx
set_option maxRecDepth 10000
def Sh.Iq(v7:Bool):Option Bool :=
 (some v7)
def Sh.FI(x0:Int):Option Bool :=
 (Fx.seq (bif (decide (x0=20))then(some (inl true))else(some (inl (decide (x0=21))))) fun v7=>Sh.Iq v7)
def Sh.xD(v7:Bool):Option Bool :=
 (some v7)
def Sh.qP(x0:Int):Option Bool :=
 (Fx.seq (bif (decide (1≤x0))then(some (inl (decide (x0≤23))))else(some (inl false))) fun v7=>Sh.xD v7)
def Sh.xE(v55:Bool):Option Bool :=
 (bif v55 then(some true)else(some false))
def Sh.nP(x0:Int)(x1:Int):Option Bool :=
 (bif (!decide (x0=25))then(some false)else(Fx.seq (bif (decide (x1=225))then(some (inl (decide (x1=225))))else(bif (decide (x1=1))then(some (inl (decide (x1=1))))else(bif (decide (x1=65))then(some (inl (decide (x1=65))))else(bif (decide (x1=81))then(some (inl (decide (x1=81))))else(some (inl (decide (x1=161)))))))) fun v55=>Sh.xE v55))
def Sh.aB8(x0:Int)(v54:Bool):Option Bool :=
 (bif v54 then(some true)else((Sh.nP 25 x0).bind fun Vj=>(some Vj)))
def Sh.GL(x0:Int):Option Bool :=
 (Fx.seq (bif (decide (x0=0))then(some (inl (decide (x0=0))))else(bif (decide (x0=64))then(some (inl (decide (x0=64))))else(bif (decide (x0=80))then(some (inl (decide (x0=80))))else(bif (decide (x0=160))then(some (inl (decide (x0=160))))else(some (inl (decide (x0=241)))))))) fun v54=>Sh.aB8 x0 v54)
def Sh.aCb(v47:Bool):Option Bool :=
 (some v47)
def Sh.nM(x0:Int):Option Bool :=
 (Fx.seq (bif (decide (1≤x0))then(bif (decide (x0≤15))then(bif (!decide (x0=14))then(some (inl true))else(bif (decide (x0=24))then(some (inl true))else(bif (decide (27≤x0))then(some (inl (decide (x0≤37))))else(some (inl false)))))else(bif (decide (x0=24))then(some (inl true))else(bif (decide (27≤x0))then(some (inl (decide (x0≤37))))else(some (inl false)))))else(bif (decide (x0=24))then(some (inl true))else(bif (decide (27≤x0))then(some (inl (decide (x0≤37))))else(some (inl false))))) fun v47=>Sh.aCb v47)
def Sh.aF8(c0:Bool)(c1:Bool)(c2:Bool)(c3:Bool):Option ((Bool×Bool×Bool×Bool)) :=
 (some (c0,c1,c2,c3))
def Sh.aAg(x0:b9)(c0:Bool)(c1:Bool)(c2:Bool):Option ((Bool×Bool×Bool×Bool)) :=
 (Fx.seq ((Sh.nM x0.op).bind fun c4=>(bif c4 then(bif (!x0.reg)then(some (inl true))else(bif (decide (x0.op=20))then(some (inl true))else(bif (decide (x0.op=21))then(some (inl true))else(bif (decide (x0.op=25))then(some (inl true))else(bif (decide (x0.op=38))then(some (inl true))else(bif (decide (x0.op=26))then(some (inl x0.narrow))else(some (inl false))))))))else(bif (decide (x0.op=20))then(some (inl true))else(bif (decide (x0.op=21))then(some (inl true))else(bif (decide (x0.op=25))then(some (inl true))else(bif (decide (x0.op=38))then(some (inl true))else(bif (decide (x0.op=26))then(some (inl x0.narrow))else(some (inl false))))))))) fun c3=>Sh.aF8 c0 c1 c2 c3)
def Sh.Il(x0:b9)(c0:Bool)(c1:Bool)(c2:Bool)(c3:Bool):Option ((Bool×Bool×Bool×Bool)) :=
 (Fx.seq (bif c0 then(some (inl true))else(bif c1 then(some (inl true))else(bif (decide (x0.op=26))then(some (inl (!x0.narrow)))else(some (inl false))))) fun c4=>Sh.aAg x0 c2 c3 c4)
def Sh.Gu(x0:b9)(c1:Bool)(c0:Bool)(c2:Bool):Option ((Bool×Bool×Bool×Bool)) :=
 (Fx.seq ((Sh.nM x0.op).bind fun c4=>(bif c4 then(bif x0.reg then(some (inl true))else(bif (decide (x0.op=16))then(some (inl true))else(bif c0 then(some (inl (!decide (x0.op=24))))else(some (inl false)))))else(bif (decide (x0.op=16))then(some (inl true))else(bif c0 then(some (inl (!decide (x0.op=24))))else(some (inl false)))))) fun c3=>Sh.Il x0 c1 c0 c2 c3)
def Sh.JB(x0:b9)(c0:Bool)(c1:Bool):Option ((Bool×Bool×Bool×Bool)) :=
 (Fx.seq (bif (!decide (x0.op=26))then(bif (!decide (x0.op=38))then(some (inl (!decide (x0.op=39))))else(some (inl false)))else(some (inl false))) fun c2=>Sh.Gu x0 c0 c1 c2)
def Sh.Ik(x0:b9)(c0:Bool):Option ((Bool×Bool×Bool×Bool)) :=
 (Fx.seq (bif (decide (22≤x0.op))then(some (inl (decide (x0.op≤25))))else(some (inl false))) fun c1=>Sh.JB x0 c0 c1)
def Sh.GR(x0:b9):Option ((Bool×Bool×Bool×Bool)) :=
 (Fx.seq (bif (decide (27≤x0.op))then(some (inl (decide (x0.op≤37))))else(some (inl false))) fun c0=>Sh.Ik x0 c0)
def Sh.aB9(c0:Bool):Option (((Bool×Bool)⊕Bool)) :=
 (some (inr c0))
def Sh.wI(x0:b9)(c0:Bool):Option (((Bool×Bool)⊕Bool)) :=
 (bif c0 then(some (inl (true,(decide (x0.size=0)))))else(some (inl (false,(decide (x0.size=0))))))
def Sh.wH(x0:b9)(c0:Bool):Option (((Bool×Bool)⊕Bool)) :=
 (bif c0 then(bif (decide (x0.size=1))then(some (inl (false,true)))else(bif (decide (x0.size=2))then(some (inl (false,true)))else(bif (decide (x0.size=4))then(some (inl (false,true)))else(some (inl (false,(decide (x0.size=8))))))))else(bif (decide (x0.op=23))then(bif (decide (x0.size=1))then(some (inl (false,true)))else(bif (decide (x0.size=2))then(some (inl (false,true)))else(some (inl (false,(decide (x0.size=4)))))))else(bif (decide (x0.op=25))then(bif (decide (x0.size=4))then(some (inl (false,true)))else(some (inl (false,(decide (x0.size=8))))))else(Fx.seq (bif (decide (x0.op≤15))then(some (inl true))else(bif (decide (26≤x0.op))then(some (inl (decide (x0.op≤37))))else(some (inl false)))) fun c1=>Sh.wI x0 c1))))
def Sh.wG(x0:b9)(c0:Bool):Option (((Bool×Bool)⊕Bool)) :=
 (bif c0 then(bif (decide (x0.size=16))then(some (inl (false,true)))else(bif (decide (x0.size=32))then(some (inl (false,true)))else(some (inl (false,(decide (x0.size=64)))))))else(Fx.seq (bif (decide (x0.op=22))then(some (inl true))else(some (inl (decide (x0.op=24))))) fun c1=>Sh.wH x0 c1))
def Sh.wF(x0:b9)(c0:Bool):Option (((Bool×Bool)⊕Bool)) :=
 (bif c0 then(some (inr false))else(bif (decide (x0.op=16))then(Fx.seq (bif x0.reg then(bif (decide (x0.size=8))then(some (inl true))else(bif (decide (x0.size=16))then(some (inl true))else(bif (decide (x0.size=32))then(some (inl (!x0.narrow)))else(some (inl false)))))else(some (inl false))) fun c1=>Sh.aB9 c1)else(Fx.seq (bif (decide (17≤x0.op))then(some (inl (decide (x0.op≤19))))else(some (inl false))) fun c2=>Sh.wG x0 c2)))
def Sh.Ie(c0:Bool):Option Bool :=
 (some c0)
def Sh.wE(x0:b9)(c0:Bool)(c1:Bool)(c2:Bool):Option Bool :=
 (Fx.seq (bif c2 then(bif c1 then(bif c0 then(some (inl true))else(some (inl (!x0.reg))))else(bif (!x0.narrow)then(bif c0 then(some (inl true))else(some (inl (!x0.reg))))else(some (inl false))))else(some (inl false))) fun c3=>Sh.Ie c3)
def Sh.xP(x0:b9):Option Bool :=
 ((Sh.nM x0.op).bind fun c3=>(Fx.seq (Fx.seq (bif (decide (x0.op<1))then(some (inl true))else(some (inl (decide (39<x0.op))))) fun c2=>Sh.wF x0 c2) fun(c0,c1)=>Sh.wE x0 c3 c0 c1))
def Sh.Jw(v17:Bool):Option Bool :=
 (some v17)
def Sh.wJ(x0:Int)(x1:Bool):Option Bool :=
 (Fx.seq (bif (decide (0≤x0))then(bif (decide (x0≤10))then(bif x1 then(some (inl (!(decide (x0=10)))))else(some (inl (!false))))else(some (inl false)))else(some (inl false))) fun v17=>Sh.Jw v17)
def Sh.Gt(c0:Bool):Option Bool :=
 (some c0)
def Sh.vB(x0:b9)(c0:Bool):Option Bool :=
 (bif c0 then(Fx.seq (bif (decide (0≤x0.k_))then(bif (decide (x0.k_<64))then(bif x0.narrow then(some (inl (!(decide (32≤x0.k_)))))else(some (inl (!false))))else(some (inl false)))else(some (inl false))) fun c1=>Sh.Gt c1)else(bif (decide (x0.op=25))then((Sh.GL x0.k_).bind fun c2=>(some c2))else(bif (decide (x0.op=21))then(some (decide (0≤x0.k_)))else(some true))))
def Sh.vA(x0:b9)(c0:Bool):Option Bool :=
 (bif c0 then(some (!decide (x0.k_=0)))else(Fx.seq (bif (decide (x0.op=11))then(some (inl (decide (x0.op=11))))else(bif (decide (x0.op=12))then(some (inl (decide (x0.op=12))))else(some (inl (decide (x0.op=13)))))) fun c1=>Sh.vB x0 c1))
def Sh.uZ(x0:b9)(HV:Bool):Option Bool :=
 (bif HV then(some false)else(Fx.seq (bif (decide (x0.op=4))then(some (inl (decide (x0.op=4))))else(bif (decide (x0.op=5))then(some (inl (decide (x0.op=5))))else(bif (decide (x0.op=6))then(some (inl (decide (x0.op=6))))else(some (inl (decide (x0.op=7))))))) fun c0=>Sh.vA x0 c0))
def Sh.vV(x0:b9):Option Bool :=
 (bif (decide (x0.op=20))then(some true)else(Fx.seq (bif (decide (x0.k_<(-2147483648)))then(some (inl true))else(some (inl (decide (2147483647<x0.k_))))) fun HV=>Sh.uZ x0 HV))
def Sh.aD8(x0:b9)(c1:(Bool×Bool×Bool×Bool))(c0:Bool):Option ((Bool⊕Int)) :=
 (bif c0 then(some (inl c0))else(bif c1.2.1 then((Sh.nP x0.op x0.k_).bind fun c2=>((Sh.wJ x0.src c2).bind fun c3=>(some (inl (!c3)))))else(some (inl false))))
def Sh.GU(x0:b9)(c0:Bool):Option ((Bool⊕Int)) :=
 (bif c0 then(some (inl c0))else(bif (decide (x0.off<(-32768)))then(some (inl (decide (x0.off<(-32768)))))else(some (inl (decide (32768≤x0.off))))))
def Sh.aEa(x0:b9)(c2:(Bool×Bool×Bool×Bool))(c0:Bool):Option ((Bool⊕Int)) :=
 (bif c0 then(some (inl c0))else(Fx.seq (bif (!c2.2.2.1)then(some (inl (!decide (x0.off=0))))else(some (inl false))) fun c1=>Sh.GU x0 c1))
def Sh.aD9(x0:b9)(c1:(Bool×Bool×Bool×Bool))(c0:Bool):Option ((Bool⊕Int)) :=
 (bif c0 then(some (inl c0))else(Fx.seq (bif (!c1.2.1)then(some (inl (!decide (x0.src=0))))else(some (inl false))) fun c2=>Sh.aEa x0 c1 c2))
def Sh.aEd(x0:b9)(c1:(Bool×Bool×Bool×Bool))(c0:Bool):Option ((Bool⊕Int)) :=
 (bif c0 then(some (inl c0))else(bif c1.2.2.2 then((Sh.vV x0).bind fun c2=>(some (inl (!c2))))else(some (inl false))))
def Sh.aEc(c0:Bool):Option Int :=
 (bif c0 then(some 24)else(some 0))
def Sh.yC(x0:b9)(c0:(Bool×Bool×Bool×Bool))(c1:Bool):Option Int :=
 (bif c1 then(some 23)else(Fx.seq (Fx.seq (bif (!c0.2.2.2)then(some (inl (!decide (x0.k_=0))))else(some (inl false))) fun c3=>Sh.aEd x0 c0 c3) fun c2=>Sh.aEc c2))
def Sh.yB(x0:b9)(c0:(Bool×Bool×Bool×Bool))(c1:Bool):Option Int :=
 (bif c1 then(some 22)else(Fx.seq (Fx.seq (bif (!c0.1)then(some (inl (!decide (x0.dst=0))))else(some (inl false))) fun c3=>Sh.aD9 x0 c0 c3) fun c2=>Sh.yC x0 c0 c2))
def Sh.aAe(x0:b9):Option Int :=
 ((Sh.xP x0).bind fun c3=>(bif (!c3)then(some 21)else((Sh.GR x0).bind fun c0=>(Fx.seq (Fx.seq (bif c0.1 then((Sh.qP x0.op).bind fun c4=>((Sh.wJ x0.dst c4).bind fun c5=>(some (inl (!c5)))))else(some (inl false))) fun c2=>Sh.aD8 x0 c0 c2) fun c1=>Sh.yB x0 c0 c1))))
def Sh.xZ(x0:List b9)(c0:Int):Option ((Int⊕(Unit⊕(Int×Int)))) :=
 (bif (decide (c0<(x0.length:Int)))then((Fx.get x0 c0).bind fun c2=>(bif (decide (c0=4096))then(some (inr (inr (c0,25))))else((Sh.aAe c2).bind fun c1=>(bif (!decide (c1=0))then(some (inr (inr (c0,c1))))else(some (inl (IntKind.i64.wrap (c0+1))))))))else(some (inr (inl ()))))
def Sh.aD6:Option ((Int×Int)) :=
 (some (0,0))
def Sh.aAb(x0:List b9):Option ((Int×Int)) :=
 (Fx.seq (Fx.loop (fun c0=>Sh.xZ x0 c0) 0) fun _=>Sh.aD6)
def Sh.yA(c1:Int)(c2:List Int)(c0:Int):Option (((Int×List Int×Int)⊕(List Int⊕List Int))) :=
 ((Fx.app 8 c2 [c0]).bind fun c3=>(some (inl ((IntKind.i64.wrap (c1+1)),c3,c0))))
def Sh.tL(x0:List b9)(c0:Int)(c1:List Int)(c2:Int):Option (((Int×List Int×Int)⊕(List Int⊕List Int))) :=
 (bif (decide (c0<(x0.length:Int)))then((Fx.get x0 c0).bind fun c4=>(Fx.seq ((Sh.FI c4.op).bind fun c5=>(bif c5 then(some (inl (IntKind.i64.wrap ((IntKind.i64.wrap (c2+1))+1))))else(some (inl (IntKind.i64.wrap (c2+1)))))) fun c3=>Sh.yA c0 c1 c3))else(some (inr (inl c1))))
def Sh.aHq(c0:List Int):Option (List Int) :=
 (some c0)
def Sh.aAc(x0:List b9):Option (List Int) :=
 (Fx.seq (Fx.loop (fun(c1,c2,c3)=>Sh.tL x0 c1 c2 c3) (0,[0],0)) fun c0=>Sh.aHq c0)
end Go.Proofs
end
noncomputable section
namespace Go.Proofs
open Go Go.Fw Go.Fx
set_option maxRecDepth 10000
def Sh.FD(c0:Int)(c1:Bool):Option ((Int⊕(Unit⊕Bool))) :=
 (bif c1 then(some (inr (inr false)))else(some (inl (IntKind.i64.wrap (c0+1)))))
def Sh.FG(x0:fh)(c1:Int):Option ((Int⊕(Unit⊕Bool))) :=
 (bif (decide (c1<(x0.ah.length:Int)))then((Fx.get x0.ah c1).bind fun c0=>(Fx.seq (bif (decide (c0.rows<1))then(some (inl true))else(bif (decide (64<c0.rows))then(some (inl true))else(bif (decide (c0.wide<1))then(some (inl true))else(some (inl (decide (64<c0.wide))))))) fun c2=>Sh.FD c1 c2))else(some (inr (inl ()))))
def Sh.aAw(c0:Int)(c1:Bool):Option ((Int⊕(Unit⊕Bool))) :=
 (bif c1 then(some (inr (inr false)))else(some (inl (IntKind.i64.wrap (c0+1)))))
def Sh.aAy(x0:fh)(c0:Int):Option ((Int⊕(Unit⊕Bool))) :=
 (bif (decide (c0<(x0.code.length:Int)))then((Fx.get x0.code c0).bind fun c1=>(Fx.seq (bif (decide (c1.op=21))then(some (inl (decide ((x0.data.length:Int)<c1.k_))))else(some (inl false))) fun c2=>Sh.aAw c0 c2))else(some (inr (inl ()))))
def Sh.IG:Option Bool :=
 (some true)
def Sh.Gy(x0:fh):Option Bool :=
 ((Sh.aAb x0.code).bind fun c1=>(bif (!decide (c1.2=0))then(some false)else(Fx.seq (Fx.loop (fun c0=>Sh.aAy x0 c0) 0) fun _=>Sh.IG)))
def Sh.Gx(x0:fh)(c0:Bool):Option Bool :=
 (bif c0 then(some false)else(Fx.seq (Fx.loop (fun c1=>Sh.FG x0 c1) 0) fun _=>Sh.Gy x0))
def Sh.GH(x0:fh):Option Bool :=
 (Fx.seq (bif (decide (x0.lo<0))then(some (inl true))else(bif (decide (x0.hi<x0.lo))then(some (inl true))else(bif (decide (65535<x0.hi))then(some (inl true))else(bif (decide (4096<(x0.data.length:Int)))then(some (inl true))else(bif (decide (8<(x0.ah.length:Int)))then(some (inl true))else(some (inl (decide ((x0.code.length:Int)=0))))))))) fun c0=>Sh.Gx x0 c0)
def Sh.FC(x0:fh)(x1:fj)(c0:Int):Option ((Int⊕(Unit⊕Bool))) :=
 (bif (decide (c0<(x0.ah.length:Int)))then((Fx.get x0.ah c0).bind fun c1=>((Fx.get x1.ah c0).bind fun c2=>(bif (!decide ((c2.length:Int)=(IntKind.i64.wrap (c1.rows*c1.wide))))then(some (inr (inr false)))else(some (inl (IntKind.i64.wrap (c0+1)))))))else(some (inr (inl ()))))
def Sh.aGd:Option Bool :=
 (some true)
def Sh.Gw(x0:fh)(x1:fj)(c0:Bool):Option Bool :=
 (bif c0 then(some false)else(Fx.seq (Fx.loop (fun c1=>Sh.FC x0 x1 c1) 0) fun _=>Sh.aGd))
def Sh.aD1(x0:fh)(x1:fj):Option Bool :=
 (Fx.seq (bif (decide ((x1.b_.length:Int)<x0.lo))then(some (inl true))else(bif (decide (x0.hi<(x1.b_.length:Int)))then(some (inl true))else(some (inl (!decide ((x1.ah.length:Int)=(x0.ah.length:Int))))))) fun c0=>Sh.Gw x0 x1 c0)
def Sh.qF{γ:Type}(c2:List b9)(c3:List Int)(c1:List (Int×Int))(c0:Int):Option (((List (Int×Int)×Int)⊕(List (Int×Int)⊕((Unit⊕(Unit⊕aj))⊕γ)))) :=
 (bif (decide (c0<(c2.length:Int)))then((Fx.get c3 c0).bind fun c4=>(some (inl ((Fx.kz c1 c4 c0),(IntKind.i64.wrap (c0+1))))))else(some (inr (inl c1))))
def Sh.NA{γ:Type}(x1:fj)(c2:Vec bn 32)(c3:List b9)(c4:List Int)(c0:Vec ak 11)(c5:Int)(c6:Int)(c7:Bool)(c9:List UInt8)(d0:List (List UInt8))(d1:List UInt8)(d2:List gG)(c8:List (Int×Int)):Option (((Unit⊕(Unit⊕aj))⊕γ)) :=
 ((Fx.get c0.l 1).bind fun d3=>((Sh.dJ (x1.b_.length:Int)).bind fun c1=>((Fx.get (c0.set (1:Int).toNat (ak.mk 3 0 0 0)).l 2).bind fun d4=>((Fx.get ((c0.set (1:Int).toNat (ak.mk 3 0 0 0)).set (2:Int).toNat c1).l 10).bind fun d5=>(some (inl (inr (inr (aj.mk (fq.mk c2 c9 d0 d1 d2) c3 c4 c8 (((c0.set (1:Int).toNat (ak.mk 3 0 0 0)).set (2:Int).toNat c1).set (10:Int).toNat (ak.mk 2 0 0 256)) [] c5 c6 c7)))))))))
def Sh.Ii{γ:Type}(x0:fh)(x1:fj)(c2:Vec bn 32)(c0:List b9)(c1:List Int)(c3:List (Int×Int))(c4:Vec ak 11)(c5:Int)(c6:Int)(c7:Bool):Option (((Unit⊕(Unit⊕aj))⊕γ)) :=
 ((Sh.aM x1.b_).bind fun d1=>((Sh.iH x1.ah).bind fun d2=>((Sh.aM x0.data).bind fun d3=>((Sh.eE x0.ah).bind fun d4=>(Fx.seq (Fx.loop (fun(c9,d0)=>Sh.qF c0 c1 c9 d0) (c3,0)) fun c8=>Sh.NA x1 c2 c0 c1 c4 c5 c6 c7 d1 d2 d3 d4 c8)))))
def Sh.mQ{γ:Type}(x0:fh)(x1:fj):Option ((Unit⊕(Unit⊕aj))⊕γ) :=
 ((Sh.GH x0).bind fun c8=>(bif (!c8)then(some (inl (inl ())))else((Sh.aD1 x0 x1).bind fun c9=>(bif (!c9)then(some (inl (inr (inl ()))))else(Fx.seq ((Sh.fR x0.code).bind fun d0=>((Sh.aAc x0.code).bind fun d1=>(some (inl ((⟨List.replicate 32 bn.zero,rfl⟩ : Vec bn 32),d0,d1,[],(⟨List.replicate 11 ak.zero,rfl⟩ : Vec ak 11),0,0,false))))) fun(c0,c1,c2,c3,c4,c5,c6,c7)=>Sh.Ii x0 x1 c0 c1 c2 c3 c4 c5 c6 c7)))))
def Sh.zC(c0:Int)(c1:Bool):Option ((Int⊕(Unit⊕(Bool⊕(Bool⊕Bool))))) :=
 (bif (!c1)then(some (inr (inr (inl false))))else(some (inl (IntKind.i64.wrap (c0+1)))))
def Sh.zE(x0:bj)(x1:bj)(c0:Int):Option ((Int⊕(Unit⊕(Bool⊕(Bool⊕Bool))))) :=
 (bif (decide (c0<(x0.ah.length:Int)))then((Fx.get x0.ah c0).bind fun c2=>((Fx.get x1.ah c0).bind fun c3=>(Fx.seq (some (inl (decide (c2=c3)))) fun c1=>Sh.zC c0 c1)))else(some (inr (inl ()))))
def Sh.aFf:Option ((Bool⊕(Bool⊕Bool))) :=
 (some (inl true))
def Sh.zF(x0:bj)(x1:bj)(c0:Int):Option ((Int⊕(Unit⊕(Bool⊕(Bool⊕Bool))))) :=
 (bif (decide (c0<(x0.bf.length:Int)))then((Fx.get x0.bf c0).bind fun c1=>((Fx.get x1.bf c0).bind fun c2=>(bif (!decide (c1=c2))then(some (inr (inr (inl false))))else(some (inl (IntKind.i64.wrap (c0+1)))))))else(some (inr (inl ()))))
def Sh.aFg:Option ((Bool⊕(Bool⊕Bool))) :=
 (some (inl true))
def Sh.Ir(c0:Bool):Option ((Bool⊕Bool)) :=
 (some (inl c0))
def Sh.uG(x0:bj)(x1:bj)(c0:Bool):Option ((Bool⊕Bool)) :=
 (bif c0 then(Fx.seq (bif (!decide ((x0.bf.length:Int)=(x1.bf.length:Int)))then(some (inl false))else(Fx.seq (Fx.loop (fun c2=>Sh.zF x0 x1 c2) 0) fun _=>Sh.aFg)) fun c1=>Sh.Ir c1)else(some (inl false)))
def Sh.uF(x0:bj)(x1:bj)(c0:Bool):Option ((Bool⊕Bool)) :=
 (bif c0 then(Fx.seq (bif (!decide ((x0.ah.length:Int)=(x1.ah.length:Int)))then(some (inl false))else(Fx.seq (Fx.loop (fun c2=>Sh.zE x0 x1 c2) 0) fun _=>Sh.aFf)) fun c1=>Sh.uG x0 x1 c1)else(some (inl false)))
def Sh.zD(c0:Bool):Option Bool :=
 (some c0)
def Sh.tH(x0:bj)(x1:bj):Option Bool :=
 (Fx.seq (bif (decide (x0.bk=x1.bk))then(bif (decide (x0.bp=x1.bp))then(bif (decide (x0.at_=x1.at_))then(bif (decide (x0.steps=x1.steps))then(bif (decide (x0.done=x1.done))then(Fx.seq (some (inl (decide (x0.b_=x1.b_)))) fun c1=>Sh.uF x0 x1 c1)else(some (inl false)))else(some (inl false)))else(some (inl false)))else(some (inl false)))else(some (inl false))) fun c0=>Sh.zD c0)
def Sh.aD4(x0:aj):Option ((Int×aj)) :=
 ((Sh.bG x0).bind fun Vm=>(bif Vm.done then(some (0,x0))else((Sh.bA x0).bind fun c0=>(bif (!decide (c0.1=0))then(some (c0.1,(aj.mk (fq.mk c0.2.ae.bp c0.2.ae.b_ c0.2.ae.ah x0.ae.data x0.ae.sizes) x0.code x0.dq x0.cg c0.2.bk c0.2.bf c0.2.at_ c0.2.steps c0.2.done)))else(some (88,(aj.mk (fq.mk c0.2.ae.bp c0.2.ae.b_ c0.2.ae.ah x0.ae.data x0.ae.sizes) x0.code x0.dq x0.cg c0.2.bk c0.2.bf c0.2.at_ c0.2.steps c0.2.done)))))))
def Sh.aE5:Option ((du×Int)) :=
 (some ((du.mk (fj.mk [] []) [] 0),1))
def Sh.Ij:Option ((du×Int)) :=
 (some ((du.mk (fj.mk [] []) [] 0),3))
def Sh.yU(c1:aj)(d3:fj)(c3:bj)(c2:List dD)(d4:Int)(c4:Vec bn 32)(c5:List UInt8)(c6:List (List UInt8))(c7:Vec ak 11)(c8:List Int)(c9:Int)(d0:Int)(d1:Bool)(d5:Int)(d6:Bool):Option (((bj×List dD×Int×Vec bn 32×List UInt8×List (List UInt8)×Vec ak 11×List Int×Int×Int×Bool×Int)⊕((bj×List dD×Int×Vec bn 32×List UInt8×List (List UInt8)×Vec ak 11×List Int×Int×Int×Bool)⊕(du×Int)))) :=
 (bif d6 then((Sh.bA (aj.mk (fq.mk c4 c5 c6 c1.ae.data c1.ae.sizes) c1.code c1.dq c1.cg c7 c8 c9 d0 d1)).bind fun c0=>(bif (!decide (c0.1=0))then(some (inr (inr ((du.mk d3 c2 c0.1),0))))else((Sh.bG (aj.mk (fq.mk c0.2.ae.bp c0.2.ae.b_ c0.2.ae.ah c1.ae.data c1.ae.sizes) c1.code c1.dq c1.cg c0.2.bk c0.2.bf c0.2.at_ c0.2.steps c0.2.done)).bind fun d2=>((Sh.eM c3 d2).bind fun d8=>((Fx.app 120 c2 [d8.1]).bind fun d7=>(some (inl (d2,d7,c0.1,c0.2.ae.bp,c0.2.ae.b_,c0.2.ae.ah,c0.2.bk,c0.2.bf,c0.2.at_,c0.2.steps,c0.2.done,(IntKind.i64.wrap (d5+1))))))))))else(some (inr (inl (c3,c2,d4,c4,c5,c6,c7,c8,c9,d0,d1)))))
def Sh.tY(x2:Int)(c2:aj)(c3:fj)(c0:bj)(c4:List dD)(c5:Int)(c6:Vec bn 32)(c7:List UInt8)(c8:List (List UInt8))(c9:Vec ak 11)(d0:List Int)(d1:Int)(d2:Int)(d3:Bool)(c1:Int):Option (((bj×List dD×Int×Vec bn 32×List UInt8×List (List UInt8)×Vec ak 11×List Int×Int×Int×Bool×Int)⊕((bj×List dD×Int×Vec bn 32×List UInt8×List (List UInt8)×Vec ak 11×List Int×Int×Int×Bool)⊕(du×Int)))) :=
 (Fx.seq (bif (decide (c1<(if 65536<x2 then 65536 else x2)))then(some (inl (!c0.done)))else(some (inl false))) fun d4=>Sh.yU c2 c3 c0 c4 c5 c6 c7 c8 c9 d0 d1 d2 d3 c1 d4)
def Sh.IJ(c0:fj)(c1:List dD)(c2:Int):Option ((du×Int)) :=
 (some ((du.mk c0 c1 c2),0))
def Sh.tX(c0:fj)(c1:bj)(c2:List dD)(c3:Int)(c5:Vec bn 32)(c6:List UInt8)(c7:List (List UInt8))(c8:Vec ak 11)(c9:List Int)(d0:Int)(d1:Int)(d2:Bool):Option ((du×Int)) :=
 (Fx.seq (bif (!c1.done)then(some (inl 88))else(some (inl c3))) fun c4=>Sh.IJ c0 c2 c4)
def Sh.tW(x2:Int)(c0:aj)(g6:bj)(c1:fj)(c2:Int):Option ((du×Int)) :=
 (Fx.seq (Fx.loop (fun(d4,d5,d6,d7,d8,d9,g0,g1,g2,g3,g4,g5)=>Sh.tY x2 c0 c1 d4 d5 d6 d7 d8 d9 g0 g1 g2 g3 g4 g5) (g6,[],c2,c0.ae.bp,c0.ae.b_,c0.ae.ah,c0.bk,c0.bf,c0.at_,c0.steps,c0.done,0)) fun(c3,c4,c5,c6,c7,c8,c9,d0,d1,d2,d3)=>Sh.tX c1 c3 c4 c5 c6 c7 c8 c9 d0 d1 d2 d3)
def Sh.tV(x2:Int)(c1:aj):Option ((du×Int)) :=
 ((Sh.bG c1).bind fun c0=>(Fx.seq ((Sh.cU c0.b_).bind fun c4=>((Sh.fW c0).bind fun c5=>(some (inl ((fj.mk c4 c5.ah),0))))) fun(c2,c3)=>Sh.tW x2 c1 c0 c2 c3))
def Sh.tF(x0:fh)(x1:fj)(x2:Int):Option ((du×Int)) :=
 (Fx.seq (Sh.mQ x0 x1) (Sum.elim (fun _=>Sh.aE5) (Sum.elim (fun _=>Sh.Ij) (fun c0=>Sh.tV x2 c0))))
def Sh.Ia:Option ((Int×Int)) :=
 (some (0,1))
def Sh.aC6:Option ((Int×Int)) :=
 (some (0,3))
def Sh.H_(c0:Int)(c1:Vec bn 32)(c2:List UInt8)(c3:List (List UInt8))(c4:Vec ak 11)(c5:List Int)(c6:Int)(c7:Int)(c8:Bool)(c9:Bool):Option ((((Int×Int×Vec bn 32×List UInt8×List (List UInt8)×Vec ak 11×List Int×Int×Int×Bool)⊕(Int×Vec bn 32×List UInt8×List (List UInt8)×Vec ak 11×List Int×Int×Int×Bool))⊕((bj×Int×Vec bn 32×List UInt8×List (List UInt8)×Vec ak 11×List Int×Int×Int×Bool×Int)⊕((bj×Int×Vec bn 32×List UInt8×List (List UInt8)×Vec ak 11×List Int×Int×Int×Bool)⊕(((Int×Int×Int×Vec bn 32×List UInt8×List (List UInt8)×Vec ak 11×List Int×Int×Int×Bool)⊕(Int×Vec bn 32×List UInt8×List (List UInt8)×Vec ak 11×List Int×Int×Int×Bool))⊕(Int×Int)))))) :=
 (bif c9 then(some (inl (inl (c0,232,c1,c2,c3,c4,c5,c6,c7,c8))))else(some (inl (inr ((IntKind.i64.wrap (c0+1)),c1,c2,c3,c4,c5,c6,c7,c8)))))
def Sh.CM(c0:Int)(c1:Int)(c2:Int)(c3:Vec bn 32)(c4:List UInt8)(c5:List (List UInt8))(c6:Vec ak 11)(c7:List Int)(c8:Int)(c9:Int)(d0:Bool):Option (((bj×Int×Vec bn 32×List UInt8×List (List UInt8)×Vec ak 11×List Int×Int×Int×Bool×Int)⊕((bj×Int×Vec bn 32×List UInt8×List (List UInt8)×Vec ak 11×List Int×Int×Int×Bool)⊕(((Int×Int×Int×Vec bn 32×List UInt8×List (List UInt8)×Vec ak 11×List Int×Int×Int×Bool)⊕(Int×Vec bn 32×List UInt8×List (List UInt8)×Vec ak 11×List Int×Int×Int×Bool))⊕(Int×Int))))) :=
 (some (inr (inr (inl (inl (c1,c2,c0,c3,c4,c5,c6,c7,c8,c9,d0))))))
def Sh.H8(c0:Int)(c1:Vec bn 32)(c2:List UInt8)(c3:List (List UInt8))(c4:Vec ak 11)(c5:List Int)(c6:Int)(c7:Int)(c8:Bool)(c9:Int)(d0:Int):Option (((bj×Int×Vec bn 32×List UInt8×List (List UInt8)×Vec ak 11×List Int×Int×Int×Bool×Int)⊕((bj×Int×Vec bn 32×List UInt8×List (List UInt8)×Vec ak 11×List Int×Int×Int×Bool)⊕(((Int×Int×Int×Vec bn 32×List UInt8×List (List UInt8)×Vec ak 11×List Int×Int×Int×Bool)⊕(Int×Vec bn 32×List UInt8×List (List UInt8)×Vec ak 11×List Int×Int×Int×Bool))⊕(Int×Int))))) :=
 (some (inr (inr (inl (inl (c9,d0,c0,c1,c2,c3,c4,c5,c6,c7,c8))))))
def Sh.pS(d0:bj)(d1:Int)(d4:dD)(c0:Int)(c2:Vec bn 32)(c3:List UInt8)(c4:List (List UInt8))(c5:Vec ak 11)(c6:List Int)(c7:Int)(c8:Int)(c9:Bool):Option (((bj×Int×Vec bn 32×List UInt8×List (List UInt8)×Vec ak 11×List Int×Int×Int×Bool×Int)⊕((bj×Int×Vec bn 32×List UInt8×List (List UInt8)×Vec ak 11×List Int×Int×Int×Bool)⊕(((Int×Int×Int×Vec bn 32×List UInt8×List (List UInt8)×Vec ak 11×List Int×Int×Int×Bool)⊕(Int×Vec bn 32×List UInt8×List (List UInt8)×Vec ak 11×List Int×Int×Int×Bool))⊕(Int×Int))))) :=
 ((Sh.bP d0 d4).bind fun c1=>(bif (!decide (c1.2=0))then(Fx.seq (some (inl (c0,c1.2))) (fun(d2,d3)=>Sh.H8 c0 c2 c3 c4 c5 c6 c7 c8 c9 d2 d3))else(some (inl (c1.1,c0,c2,c3,c4,c5,c6,c7,c8,c9,(IntKind.i64.wrap (d1+1)))))))
def Sh.eR(c1:aj)(d3:du)(c3:bj)(c2:Int)(c4:Vec bn 32)(c5:List UInt8)(c6:List (List UInt8))(c7:Vec ak 11)(c8:List Int)(c9:Int)(d0:Int)(d1:Bool)(d2:Int):Option (((bj×Int×Vec bn 32×List UInt8×List (List UInt8)×Vec ak 11×List Int×Int×Int×Bool×Int)⊕((bj×Int×Vec bn 32×List UInt8×List (List UInt8)×Vec ak 11×List Int×Int×Int×Bool)⊕(((Int×Int×Int×Vec bn 32×List UInt8×List (List UInt8)×Vec ak 11×List Int×Int×Int×Bool)⊕(Int×Vec bn 32×List UInt8×List (List UInt8)×Vec ak 11×List Int×Int×Int×Bool))⊕(Int×Int))))) :=
 (bif (decide (d2<(d3.cj.length:Int)))then((Fx.get d3.cj d2).bind fun j2=>(Fx.seq (Fx.seq (bif (decide (0≤c2))then((Sh.bA (aj.mk (fq.mk c4 c5 c6 c1.ae.data c1.ae.sizes) c1.code c1.dq c1.cg c7 c8 c9 d0 d1)).bind fun c0=>(bif (!decide (c0.1=0))then(some (inl (c0.2.ae.bp,c0.2.ae.b_,c0.2.ae.ah,c0.2.bk,c0.2.bf,c0.2.at_,c0.2.steps,c0.2.done,true)))else((Sh.bG (aj.mk (fq.mk c0.2.ae.bp c0.2.ae.b_ c0.2.ae.ah c1.ae.data c1.ae.sizes) c1.code c1.dq c1.cg c0.2.bk c0.2.bf c0.2.at_ c0.2.steps c0.2.done)).bind fun j3=>((Sh.tH c3 j3).bind fun j4=>(some (inl (c0.2.ae.bp,c0.2.ae.b_,c0.2.ae.ah,c0.2.bk,c0.2.bf,c0.2.at_,c0.2.steps,c0.2.done,(!j4))))))))else(some (inl (c4,c5,c6,c7,c8,c9,d0,d1,false)))) fun(i3,i4,i5,i6,i7,i8,i9,j0,j1)=>Sh.H_ c2 i3 i4 i5 i6 i7 i8 i9 j0 j1) (Sum.elim (fun(d4,d5,d6,d7,d8,d9,g0,g1,g2,g3)=>Sh.CM c2 d4 d5 d6 d7 d8 d9 g0 g1 g2 g3) (fun(g4,g5,g6,g7,g8,g9,i0,i1,i2)=>Sh.pS c3 d2 j2 g4 g5 g6 g7 g8 g9 i0 i1 i2))))else(some (inr (inl (c3,c2,c4,c5,c6,c7,c8,c9,d0,d1)))))
def Sh.Ju(c0:Int)(c1:Vec bn 32)(c2:List UInt8)(c3:List (List UInt8))(c4:Vec ak 11)(c5:List Int)(c6:Int)(c7:Int)(c8:Bool)(c9:Bool):Option ((((Int×Int×Vec bn 32×List UInt8×List (List UInt8)×Vec ak 11×List Int×Int×Int×Bool)⊕(Int×Vec bn 32×List UInt8×List (List UInt8)×Vec ak 11×List Int×Int×Int×Bool))⊕(((Int×Int×Int×Vec bn 32×List UInt8×List (List UInt8)×Vec ak 11×List Int×Int×Int×Bool)⊕(Int×Vec bn 32×List UInt8×List (List UInt8)×Vec ak 11×List Int×Int×Int×Bool))⊕(Int×Int)))) :=
 (bif c9 then(some (inl (inl (c0,232,c1,c2,c3,c4,c5,c6,c7,c8))))else(some (inl (inr ((IntKind.i64.wrap (c0+1)),c1,c2,c3,c4,c5,c6,c7,c8)))))
def Sh.aBl(c0:Int)(c1:Int)(c2:Int)(c3:Vec bn 32)(c4:List UInt8)(c5:List (List UInt8))(c6:Vec ak 11)(c7:List Int)(c8:Int)(c9:Int)(d0:Bool):Option ((((Int×Int×Int×Vec bn 32×List UInt8×List (List UInt8)×Vec ak 11×List Int×Int×Int×Bool)⊕(Int×Vec bn 32×List UInt8×List (List UInt8)×Vec ak 11×List Int×Int×Int×Bool))⊕(Int×Int))) :=
 (some (inl (inl (c1,c2,c0,c3,c4,c5,c6,c7,c8,c9,d0))))
def Sh.Jt(c0:Int)(c1:Vec bn 32)(c2:List UInt8)(c3:List (List UInt8))(c4:Vec ak 11)(c5:List Int)(c6:Int)(c7:Int)(c8:Bool):Option ((((Int×Int×Int×Vec bn 32×List UInt8×List (List UInt8)×Vec ak 11×List Int×Int×Int×Bool)⊕(Int×Vec bn 32×List UInt8×List (List UInt8)×Vec ak 11×List Int×Int×Int×Bool))⊕(Int×Int))) :=
 (some (inl (inr (c0,c1,c2,c3,c4,c5,c6,c7,c8))))
def Sh.Ib(c1:aj)(d1:bj)(c2:Int)(c3:Vec bn 32)(c4:List UInt8)(c5:List (List UInt8))(c6:Vec ak 11)(c7:List Int)(c8:Int)(c9:Int)(d0:Bool):Option ((((Int×Int×Int×Vec bn 32×List UInt8×List (List UInt8)×Vec ak 11×List Int×Int×Int×Bool)⊕(Int×Vec bn 32×List UInt8×List (List UInt8)×Vec ak 11×List Int×Int×Int×Bool))⊕(Int×Int))) :=
 (Fx.seq (Fx.seq (bif (decide (0≤c2))then((Sh.bA (aj.mk (fq.mk c3 c4 c5 c1.ae.data c1.ae.sizes) c1.code c1.dq c1.cg c6 c7 c8 c9 d0)).bind fun c0=>(bif (!decide (c0.1=0))then(some (inl (c0.2.ae.bp,c0.2.ae.b_,c0.2.ae.ah,c0.2.bk,c0.2.bf,c0.2.at_,c0.2.steps,c0.2.done,true)))else((Sh.bG (aj.mk (fq.mk c0.2.ae.bp c0.2.ae.b_ c0.2.ae.ah c1.ae.data c1.ae.sizes) c1.code c1.dq c1.cg c0.2.bk c0.2.bf c0.2.at_ c0.2.steps c0.2.done)).bind fun j0=>((Sh.tH d1 j0).bind fun j1=>(some (inl (c0.2.ae.bp,c0.2.ae.b_,c0.2.ae.ah,c0.2.bk,c0.2.bf,c0.2.at_,c0.2.steps,c0.2.done,(!j1))))))))else(some (inl (c3,c4,c5,c6,c7,c8,c9,d0,false)))) fun(i1,i2,i3,i4,i5,i6,i7,i8,i9)=>Sh.Ju c2 i1 i2 i3 i4 i5 i6 i7 i8 i9) (Sum.elim (fun(d2,d3,d4,d5,d6,d7,d8,d9,g0,g1)=>Sh.aBl c2 d2 d3 d4 d5 d6 d7 d8 d9 g0 g1) (fun(g2,g3,g4,g5,g6,g7,g8,g9,i0)=>Sh.Jt g2 g3 g4 g5 g6 g7 g8 g9 i0)))
def Sh.H9(c0:Int)(c1:Int)(c2:Int)(c3:Vec bn 32)(c4:List UInt8)(c5:List (List UInt8))(c6:Vec ak 11)(c7:List Int)(c8:Int)(c9:Int)(d0:Bool):Option ((Int×Int)) :=
 (some (c0,c1))
def Sh.aBq(c1:(Int×aj))(c0:Bool):Option ((Int⊕(Int×Int))) :=
 (bif c0 then(some (inl 88))else(some (inl c1.1)))
def Sh.JF(x1:du)(c0:Bool):Option ((Int×Int)) :=
 (bif c0 then(some ((x1.cj.length:Int),233))else(some (0,0)))
def Sh.pU(x1:du)(c0:Int):Option ((Int×Int)) :=
 (Fx.seq (bif (!decide (x1.end_=c0))then(bif (decide (c0=0))then(some (inl true))else(some (inl (!decide (x1.end_=88)))))else(some (inl false))) fun c1=>Sh.JF x1 c1)
def Sh.pT(x1:du)(c0:aj)(d2:Int)(c2:Vec bn 32)(c3:List UInt8)(c4:List (List UInt8))(c5:Vec ak 11)(c6:List Int)(c7:Int)(c8:Int)(c9:Bool):Option ((Int×Int)) :=
 ((Sh.aD4 (aj.mk (fq.mk c2 c3 c4 c0.ae.data c0.ae.sizes) c0.code c0.dq c0.cg c5 c6 c7 c8 c9)).bind fun c1=>(Fx.seq (Fx.seq (bif (!decide (c1.1=0))then(some (inl (decide ((x1.cj.length:Int)=65536))))else(some (inl false))) fun d1=>Sh.aBq c1 d1) fun d0=>Sh.pU x1 d0))
def Sh.nZ(x1:du)(c0:aj)(c1:du):Option ((Int×Int)) :=
 (Fx.seq ((Sh.qI c1.iz).bind fun j3=>(Fx.seq (Fx.loop (fun(i2,i3,i4,i5,i6,i7,i8,i9,j0,j1,j2)=>Sh.eR c0 c1 i2 i3 i4 i5 i6 i7 i8 i9 j0 j1 j2) (j3,(-1),c0.ae.bp,c0.ae.b_,c0.ae.ah,c0.bk,c0.bf,c0.at_,c0.steps,c0.done,0)) fun(g2,g3,g4,g5,g6,g7,g8,g9,i0,i1)=>Sh.Ib c0 g2 g3 g4 g5 g6 g7 g8 g9 i0 i1)) (Sum.elim (fun(c2,c3,c4,c5,c6,c7,c8,c9,d0,d1,d2)=>Sh.H9 c2 c3 c4 c5 c6 c7 c8 c9 d0 d1 d2) (fun(d3,d4,d5,d6,d7,d8,d9,g0,g1)=>Sh.pT x1 c0 d3 d4 d5 d6 d7 d8 d9 g0 g1)))
def Sh.aC7(x1:du)(c1:aj):Option ((Int×Int)) :=
 (Fx.seq (some (inl x1)) (fun c0=>Sh.nZ x1 c1 c0))
def Sh.iI(x0:fh)(x1:du):Option ((Int×Int)) :=
 (bif (decide (65536<(x1.cj.length:Int)))then(some (0,2))else(Fx.seq (Sh.mQ x0 x1.iz) (Sum.elim (fun _=>Sh.Ia) (Sum.elim (fun _=>Sh.aC6) (fun c0=>Sh.aC7 x1 c0)))))
end Go.Proofs
end
noncomputable section
namespace Go.Proofs
open Go Go.Fw Go.Fx
set_option maxRecDepth 10000
def Sh.uT(c0:Bool):Option Bool :=
 (some c0)
def Sh.uS(c0:(du×Int)):Option Bool :=
 (Fx.seq (bif (decide (c0.2=1))then(some (inl (decide ((c0.1.cj.length:Int)=0))))else(some (inl false))) fun c1=>Sh.uT c1)
def Sh.uQ(c0:(du×Int)):Option Bool :=
 (Fx.seq (bif (!decide (c0.2=1))then(some (inl ()))else(some (inl ()))) fun _=>Sh.uS c0)
def Sh.uV(c0:Bool):Option Bool :=
 (some c0)
def Sh.uU(c0:(du×Int)):Option Bool :=
 (Fx.seq (bif (decide (c0.2=3))then(some (inl (decide ((c0.1.cj.length:Int)=0))))else(some (inl false))) fun c1=>Sh.uV c1)
def Sh.uR(c0:(du×Int)):Option Bool :=
 (Fx.seq (bif (!decide (c0.2=3))then(some (inl ()))else(some (inl ()))) fun _=>Sh.uU c0)
def Sh.sF(c0:Bool):Option Bool :=
 (some c0)
def Sh.cG(c1:aj)(d1:Int)(c2:Vec bn 32)(c3:List UInt8)(c4:List (List UInt8))(c5:Vec ak 11)(c6:List Int)(c7:Int)(c8:Int)(c9:Bool)(d0:Int):Option (((Vec bn 32×List UInt8×List (List UInt8)×Vec ak 11×List Int×Int×Int×Bool×Int)⊕((Vec bn 32×List UInt8×List (List UInt8)×Vec ak 11×List Int×Int×Int×Bool)⊕Bool))) :=
 (bif (decide (d0<d1))then((Sh.bA (aj.mk (fq.mk c2 c3 c4 c1.ae.data c1.ae.sizes) c1.code c1.dq c1.cg c5 c6 c7 c8 c9)).bind fun c0=>(bif (!decide (c0.1=0))then(some (inr (inr false)))else(some (inl (c0.2.ae.bp,c0.2.ae.b_,c0.2.ae.ah,c0.2.bk,c0.2.bf,c0.2.at_,c0.2.steps,c0.2.done,(IntKind.i64.wrap (d0+1)))))))else(some (inr (inl (c2,c3,c4,c5,c6,c7,c8,c9)))))
def Sh.sG(c0:Int):Option Bool :=
 (Fx.must (false) none)
def Sh.sD(x2:Int):Option Bool :=
 (Fx.seq (bif (decide (65536<x2))then(some (inl 65536))else(some (inl x2))) fun c0=>Sh.sG c0)
def Sh.sH(c0:Int):Option Bool :=
 (Fx.must (false) none)
def Sh.sE(x2:Int):Option Bool :=
 (Fx.seq (bif (decide (65536<x2))then(some (inl 65536))else(some (inl x2))) fun c0=>Sh.sH c0)
def Sh.sJ(c0:Bool):Option Bool :=
 (some c0)
def Sh.sI(c0:(du×Int))(c1:aj)(c2:Int):Option Bool :=
 ((Sh.kM c1 c2).bind fun c4=>(Fx.seq (bif (decide (c4.2.1=c0.1.end_))then(some (inl (decide ((c0.1.cj.length:Int)≤65536))))else(some (inl false))) fun c3=>Sh.sJ c3))
def Sh.iK(x2:Int)(c2:(du×Int))(c0:aj):Option Bool :=
 (Fx.seq (bif (decide (65536<x2))then(some (inl 65536))else(some (inl x2))) fun c1=>Sh.sI c2 c0 c1)
def Sh.iP(x0:fh)(x1:fj)(x2:Int)(c2:(du×Int))(c0:Bool):Option Bool :=
 (bif c0 then(some false)else(Fx.seq (Sh.mQ x0 x1) (Sum.elim (fun _=>Sh.sD x2) (Sum.elim (fun _=>Sh.sE x2) (fun c1=>Sh.iK x2 c2 c1)))))
def Sh.iO(x0:fh)(x1:fj)(x2:Int)(c2:(du×Int))(c0:aj)(d4:Int)(c3:Vec bn 32)(c4:List UInt8)(c5:List (List UInt8))(c6:Vec ak 11)(c7:List Int)(c8:Int)(c9:Int)(d0:Bool):Option Bool :=
 ((Sh.jF c2.1 d4).bind fun c1=>(Fx.seq (bif (!decide (c1.2.2=0))then(some (inl true))else(bif (!decide (c1.2.1=0))then(some (inl true))else((Sh.bG (aj.mk (fq.mk c3 c4 c5 c0.ae.data c0.ae.sizes) c0.code c0.dq c0.cg c6 c7 c8 c9 d0)).bind fun d2=>((Sh.bF c1.1 d2).bind fun d3=>(some (inl (!d3))))))) fun d1=>Sh.iP x0 x1 x2 c2 d1))
def Sh.iN(x0:fh)(x1:fj)(x2:Int)(g0:(du×Int))(c0:aj)(c1:Int)(d9:Bool):Option Bool :=
 (bif d9 then(some false)else(Fx.seq (Fx.loop (fun(d0,d1,d2,d3,d4,d5,d6,d7,d8)=>Sh.cG c0 c1 d0 d1 d2 d3 d4 d5 d6 d7 d8) (c0.ae.bp,c0.ae.b_,c0.ae.ah,c0.bk,c0.bf,c0.at_,c0.steps,c0.done,0)) fun(c2,c3,c4,c5,c6,c7,c8,c9)=>Sh.iO x0 x1 x2 g0 c0 c1 c2 c3 c4 c5 c6 c7 c8 c9))
def Sh.iM(x0:fh)(x1:fj)(x2:Int)(c1:(du×Int))(c4:aj)(c0:Int):Option Bool :=
 ((Sh.kV c1.1 c0).bind fun c2=>((Sh.iI x0 c2.1).bind fun c3=>(Fx.seq (bif (!decide (c2.2=0))then(some (inl true))else(bif (!decide (c3.2=0))then(some (inl true))else(some (inl (!decide (c3.1=0)))))) fun c5=>Sh.iN x0 x1 x2 c1 c4 c0 c5)))
def Sh.iL(x0:fh)(x1:fj)(x2:Int)(x3:Int)(c0:(du×Int))(c1:aj)(c2:Bool):Option Bool :=
 (bif c2 then(some false)else(Fx.seq (bif (decide (0<(c0.1.cj.length:Int)))then(Fx.must (decide ((IntKind.i64.wrap ((c0.1.cj.length:Int)+1))≠0)) (Fx.must (decide ((IntKind.i64.wrap ((c0.1.cj.length:Int)+1))≠0)) (some (inl (Int.tmod (IntKind.i64.wrap ((IntKind.i64.wrap ((Int.tmod x3 (IntKind.i64.wrap ((c0.1.cj.length:Int)+1)))+(c0.1.cj.length:Int)))+1)) (IntKind.i64.wrap ((c0.1.cj.length:Int)+1)))))))else(some (inl 0))) fun c3=>Sh.iM x0 x1 x2 c0 c1 c3))
def Sh.kI(x0:fh)(x1:fj)(x2:Int)(x3:Int)(c0:(du×Int))(c2:aj)(c3:Bool):Option Bool :=
 (bif c3 then(Fx.seq (bif (decide (c0.2=0))then(some (inl (decide ((c0.1.cj.length:Int)=0))))else(some (inl false))) fun c4=>Sh.sF c4)else((Sh.iI x0 c0.1).bind fun c1=>(Fx.seq (bif (!decide (c1.2=0))then(some (inl true))else(bif (!decide (c1.1=0))then(some (inl true))else(bif (decide (x2<(c0.1.cj.length:Int)))then(some (inl (decide (0<(c0.1.cj.length:Int)))))else(some (inl false))))) fun c5=>Sh.iL x0 x1 x2 x3 c0 c2 c5)))
def Sh.kH(x0:fh)(x1:fj)(x2:Int)(x3:Int)(c0:(du×Int))(c1:aj):Option Bool :=
 (Fx.seq (bif (!decide (c0.2=0))then(some (inl true))else(some (inl false))) fun c2=>Sh.kI x0 x1 x2 x3 c0 c1 c2)
def Sh.sC(x0:fh)(x1:fj)(x2:Int)(x3:Int):Option Bool :=
 ((Sh.cE).bind fun c2=>(bif (!c2)then(some false)else((Sh.tF x0 x1 x2).bind fun c0=>(Fx.seq (Sh.mQ x0 x1) (Sum.elim (fun _=>Sh.uQ c0) (Sum.elim (fun _=>Sh.uR c0) (fun c1=>Sh.kH x0 x1 x2 x3 c0 c1)))))))
end Go.Proofs
end
section
namespace Go.Sp
open Go Go.Fw Go.Fx
theorem jg{x:Int}(h : -9223372036854775808≤x∧x≤9223372036854775807):IntKind.i64.wrap x=x:=nN h
def num:List UInt8→Nat
 | []=>0
 | b::l=>b.toNat+256*num l
theorem SH(l:List UInt8):num l<256^l.length:=by
 induction l with
 | nil=>simp[num]
 | cons b l ih =>
  simp only[num,abN,Nat.pow_succ]
  have:=b.toNat_lt
  omega
theorem XU(l:List UInt8)(b:UInt8):num (l ++ [b])=num l+256^l.length*b.toNat:=by
 induction l with
 | nil=>simp[num]
 | cons a l ih =>
  simp only[aad,num,ih,abN,Nat.pow_succ,Nat.mul_add]
  rw[Nat.mul_comm (256^l.length) 256,Nat.mul_assoc]
  omega
theorem Ij(x:Int):∃ k:Int,IntKind.i64.wrap x=x+18446744073709551616*k:=by
 unfold IntKind.wrap
 simp only[IntKind.signed,IntKind.bits,Bool.true_and,aa6]
 have h:=Int.emod_add_mul_ediv x (2^64)
 split
 ·exact⟨-(x/2^64)-1,adr⟩
 ·exact⟨-(x/2^64),adr⟩
theorem H8(x:Int):BitVec.ofInt 64 (IntKind.i64.wrap x)=BitVec.ofInt 64 x:=by
 obtain⟨k,hk⟩:=Ij x
 rw[hk]
 apply BitVec.eq_of_toInt_eq
 simp only[BitVec.toInt_ofInt]
 rw[show(18446744073709551616:Int)=((2^64:Nat):Int) by rfl,Int.add_mul_bmod_self_left]
theorem Xn{N b m:Nat}(hN:N<2^m)(hb:2^m*b+N<2^64):v8 .i64 (IntKind.i64.wrap (N:Nat)) (IntKind.i64.wrap ((2^m*b:Nat):Int))=IntKind.i64.wrap ((N+2^m*b:Nat):Int):=by
 have e0:∀ x y,v8 .i64 x y=IntKind.i64.wrap ((BitVec.ofInt 64 x ||| BitVec.ofInt 64 y).toNat:Int):=fun _ _=>rfl
 rw[e0,H8,H8,BitVec.toNat_or,BitVec.ofInt_natCast,BitVec.ofInt_natCast,BitVec.toNat_ofNat,BitVec.toNat_ofNat,abm adr,abm adr,Nat.or_comm,
  ←Nat.two_pow_add_eq_or_of_lt hN,Nat.add_comm]
end Go.Sp
end
section
namespace Go.Sp
open Go Go.Fw Go.Fx Go.Proofs
structure Wf(b:List UInt8)(r:gi):Prop where
 aal:r.b=b
 at0:0≤r.at_
 TD:r.at_≤b.length
 p0:0≤r.place
 p1:r.place≤b.length
def Rd(b:List UInt8)(r r':gi)(enc:List UInt8)(good:Prop):Prop :=
 Wf b r' ∧ (r'.e=0→r.e=0∧good∧b.drop r.at_.toNat=enc++b.drop r'.at_.toNat)
section
variable {b:List UInt8}{r r1 r2:gi}
theorem Rd.trans{e1 e2:List UInt8}{g1 g2:Prop}(h:Rd b r r1 e1 g1)(k:Rd b r1 r2 e2 g2):Rd b r r2 (e1++e2) (g1∧g2) :=
 ⟨k.1,fun he=>by
  obtain⟨h1,h2,h3⟩:=k.2 he
  obtain⟨h4,h5,h6⟩:=h.2 h1
  exact⟨h4,⟨h5,h2⟩,by rw[h6,h3,ade]⟩⟩
theorem Rd.refl(h:Wf b r):Rd b r r [] True:=⟨h,fun he=>⟨he,trivial,rfl⟩⟩
theorem Rd.imp{e e':List UInt8}{g g':Prop}(h:Rd b r r1 e g)(k:g→e=e' ∧ g'):Rd b r r1 e' g' :=
 ⟨h.1,fun he=>by obtain⟨h1,h2,h3⟩:=h.2 he;obtain⟨h4,h5⟩:=k h2;subst h4;exact⟨h1,h5,h3⟩⟩
theorem Rd.bad(h:Wf b r1)(he:r1.e≠0){e:List UInt8}{g:Prop}:Rd b r r1 e g:=⟨h,fun k=>absurd k he⟩
theorem zB(y:List UInt8×gi)(hl:y.1.length≤8):∀ (m k:Nat),m+k=y.1.length →
  Fx.loop (fun(v:Int×Int)=>match v with|(v1,v2)=>Sh.eS y v1 v2) ((k:Int),IntKind.i64.wrap (num (y.1.take k):Nat))=some (inl (y.2,IntKind.i64.wrap (num y.1:Nat))):=by
 intro m
 induction m with
 | zero =>
  intro k hk
  rw[Fx.vp]
  have h:¬ ((k:Int)<(y.1.length:Int)):=adr
  simp[Sh.eS,h,acn (show y.1.length≤k by omega)]
 | succ m ih =>
  intro k hk
  rw[Fx.vp]
  have h:((k:Int)<(y.1.length:Int)):=adr
  have hkl:k<y.1.length:=adr
  have e1:IntKind.i64.wrap (8*(k:Int))=8*(k:Int):=jg adr
  have e2:IntKind.i64.wrap ((k:Int)+1)=((k+1:Nat):Int):=by rw[jg adr];rfl
  have hg:Fx.get y.1 (k:Int)=some y.1[k]:=by simp[Fx.get,aa9 hkl]
  have e3:(8*(k:Int)).toNat=8*k:=adr
  have e4:shl .i64 (y.1[k].toNat:Int) (8*k)=IntKind.i64.wrap ((2^(8*k)*y.1[k].toNat:Nat):Int):=by
   unfold shl
   rw[ab6 (by simp[IntKind.bits];omega),Int.mul_comm]
   congr 1
  have hN:=SH (y.1.take k)
  rw[abO,ab6 adr]at hN
  have G6:(256:Nat)^k=2^(8*k):=by rw[Nat.pow_mul]
  have hb:=y.1[k].toNat_lt
  have C_:2^(8*k)*y.1[k].toNat+num (y.1.take k)<2^64:=by
   have h1:2^(8*k)*y.1[k].toNat≤2^(8*k)*255:=abP _ adr
   have h2:2^(8*k)*256≤2^64:=by
    rw[show(256:Nat)=2^8 by rfl,←Nat.pow_add];exact ado (by decide) adr
   rw[←G6]at h1 h2 ⊢
   omega
  have e5:num (y.1.take (k+1))=num (y.1.take k)+2^(8*k)*y.1[k].toNat:=by
   rw[abI,aa9 hkl,Option.toList_some,XU,abO,ab6 adr,G6]
  have:=ih (k+1) adr
  simp only[Sh.eS,h,decide_true,abA,hg,aaS,e1,e2,Fx.must,show(0≤8*(k:Int)) by omega,e3,e4,Xn (by rw[←G6];exact hN) C_]
  rw[←e5]
  exact this
end
end Go.Sp
end
section
namespace Go.Sp
open Go Go.Fw Go.Fx
section
variable {σ γ X:Type}{body:σ→Option (σ⊕γ)}
theorem fA{s s':σ}{o:Option γ}(h:body s=some (.inl s'))(k:loop body s' = o):loop body s=o:=by rw[vp,h];exact k
theorem dN{s:σ}{g:γ}(h:body s=some (.inr g)):loop body s=some g:=by rw[vp,h]
theorem W8(μ:σ→Nat)(I:σ→Prop)(Q:γ→Prop)
  (h:∀ s,I s→(∃ s',body s=some (.inl s')∧I s' ∧ μ s' < μ s) ∨ ∃ g,body s=some (.inr g)∧Q g):∀ s,I s → ∃ g,loop body s=some g∧Q g:=by
 have key:∀ (m:Nat) s,μ s<m→I s → ∃ g,loop body s=some g∧Q g:=by
  intro m
  induction m with
  | zero=>intro s hs;omega
  | succ m ih =>
   intro s hs hI
   rcases h s hI with⟨s',hb,G9,hm⟩|⟨g,hb,hq⟩
   ·obtain⟨g,hg,hq⟩:=ih s' adr G9
    exact⟨g,fA hb hg,hq⟩
   ·exact⟨g,dN hb,hq⟩
 intro s hI
 exact key (μ s+1) s (acU _) hI
theorem bY{α:Type}(n:Nat)(st:Nat→α→σ)(I:Nat→α→Prop)(Q:γ→Prop)
  (h:∀ i a,i<n→I i a→(∃ a',body (st i a)=some (.inl (st (i+1) a'))∧I (i+1) a') ∨ ∃ g,body (st i a)=some (.inr g)∧Q g)
  (h':∀ a,I n a → ∃ g,body (st n a)=some (.inr g)∧Q g):∀ m i a,m+i=n→I i a → ∃ g,loop body (st i a)=some g∧Q g:=by
 intro m
 induction m with
 | zero =>
  intro i a e hI
  obtain rfl:i=n:=adr
  obtain⟨g,hg,hq⟩:=h' a hI
  exact⟨g,dN hg,hq⟩
 | succ m ih =>
  intro i a e hI
  rcases h i a adr hI with⟨a',hb,G9⟩|⟨g,hg,hq⟩
  ·obtain⟨g,hg,hq⟩:=ih (i+1) a' adr G9
   exact⟨g,fA hb hg,hq⟩
  ·exact⟨g,dN hg,hq⟩
end
theorem aR{τ γ:Type}{x:τ}{k:τ→Option γ}:Fx.seq (some (inl x)) k=k x:=rfl
theorem nA{τ γ:Type}{x:γ}{k:τ→Option γ}:Fx.seq (some (inr x)) k=some x:=rfl
theorem bK{τ γ:Type}{t:Option (τ⊕γ)}{o:τ⊕γ}{k:τ→Option γ}{u:Option γ}(h:t=some o)(h':Fx.fin k o=u):Fx.seq t k=u:=by rw[h];exact h'
theorem ij{i n:Nat}(h:i<n)(hn:n≤4611686018427387904):IntKind.i64.wrap ((i:Int)+1)=((i+1:Nat):Int):=by rw[jg adr];rfl
theorem aX{X:Type}{l:List X}{i:Nat}(h:i<l.length):Fx.get l (i:Int)=some l[i]:=by simp[Fx.get,aa9 h]
theorem bV{i n:Nat}:decide ((i:Int)<(n:Int))=decide (i<n):=by simp
theorem cK{X:Type}{bytes:Nat}{l m:List X}(h:(l.length+m.length)*bytes≤140737488355328)(k:l.length+m.length≤4611686018427387904):Fx.app bytes l m=some (l++m):=aaJ ⟨h,k⟩
end Go.Sp
end
section
namespace Go.Sp
open Go Go.Fw Go.Fx Go.Proofs
section
variable {b:List UInt8}{r r1 r2:gi}
theorem Rd.at_{e:List UInt8}{g:Prop}(hw:Wf b r)(h:Rd b r r1 e g)(he:r1.e=0):r1.at_=r.at_+e.length:=by
 have h1:=congrArg List.length (h.2 he).2.2
 simp only[ach,abK]at h1
 have:=hw.TD;have:=h.1.TD;have:=hw.at0;have:=h.1.at0
 omega
end
end Go.Sp
end
section
namespace Go.Sp
open Go Go.Fw Go.Fx Go.Proofs
theorem dL(x lo hi:Int):Sh.bK x lo hi=some (decide (lo≤x∧x≤hi)):=by
 unfold Sh.bK
 by_cases h:lo≤x<;>simp[h,Fx.seq,Fx.fin,Sh.vT]
end Go.Sp
end
section
namespace Go.Sp
open Go Go.Fw Go.Fx Go.Proofs
def cur(r:gi):gR:=gR.mk r.b r.at_ r.place r.e
def tk(r:gi)(n:Int):List UInt8×gi :=
 if r.e=0 then(if r.at_+n≤r.b.length then((r.b.drop r.at_.toNat).take n.toNat,gi.mk r.b (r.at_+n) r.place r.e)else([],gi.mk r.b r.at_ r.b.length 236))else([],r)
section
variable {b:List UInt8}{r r1 r2:gi}
theorem xD(hb:b.length≤16777216)(hw:Wf b r){n:Int}(hn:0≤n∧n≤4294967296):Sh.aV r n=some (tk r n):=by
 obtain⟨h1,h2,h3,h4,h5⟩:=hw
 unfold Sh.aV tk
 have e1:IntKind.i64.wrap ((r.b.length:Int)-r.at_)=(b.length:Int)-r.at_:=by rw[h1];exact jg adr
 rw[e1]
 have e2:IntKind.i64.wrap (r.at_+n)=r.at_+n:=jg adr
 have e3:IntKind.i64.wrap (r.at_+n-n)=r.at_:=by rw[jg adr];omega
 by_cases he:r.e=0
 ·by_cases hlt:(b.length:Int)-r.at_<n
  ·have h6:¬ r.at_+n≤(r.b.length:Int):=by rw[h1];omega
   simp[hlt,he,h6,Sh.aB,aR,Sh.cK]
  ·have h6:r.at_+n≤(r.b.length:Int):=by rw[h1];omega
   have e4:(r.at_+n).toNat-r.at_.toNat=n.toNat:=adr
   simp only[hlt,decide_false,abC,aR,Sh.cK,he,decide_true,abB,e2,e3,if_true,h6,Fx.nj]
   have h7:0≤r.at_∧r.at_≤r.at_+n∧True:=⟨h2,adr,trivial⟩
   rw[aaJ h7,e4];rfl
 ·by_cases hlt:(b.length:Int)-r.at_<n
  ·simp[hlt,he,Sh.aB,aR,Sh.cK]
  ·simp[hlt,he,aR,Sh.cK]
theorem pF(hb:b.length≤16777216)(hw:Wf b r){n:Nat}(hn:n≤8):Sh.aA r (n:Nat)=some (IntKind.i64.wrap (num (tk r n).1:Nat),(tk r n).2):=by
 have ht:=xD hb hw (n:=(n:Nat)) adr
 have hxl:(tk r n).1.length≤8:=by unfold tk;split<;>(try split)<;>simp<;>omega
 have hl:=zB (tk r n) hxl (tk r n).1.length 0 (by simp)
 have e0:IntKind.i64.wrap ((num ((tk r n).1.take 0):Nat):Int)=0:=by simp[num];rfl
 rw[e0]at hl
 unfold Sh.aA
 simp only[ht,aaS]
 exact bK hl rfl
theorem Il(x:List UInt8)(i:Nat)(h:i<x.length):num (x.drop i)=x[i].toNat+256*num (x.drop (i+1)):=by
 rw[acD h];rfl
theorem Nk{x:Int}(h:0≤x∧x<18446744073709551616):IntKind.u64.wrap x=x:=by
 simp[IntKind.wrap,IntKind.signed,IntKind.bits];omega
theorem VC(c:gR)(x:List UInt8)(h0:0≤c.at_)(hc:c.at_≤16777216)(hx:x.length≤8)(hg:∀ i (h:i<x.length),Fx.get c.b (c.at_+(i:Int))=some x[i]):∀ (m:Nat),m≤x.length →
  Fx.loop (fun(v:Int×Int)=>match v with|(v1,v2)=>Sh.eQ c v1 v2) ((num (x.drop m):Nat),(m:Int)-1)=some (inl ((num x:Nat):Int)):=by
 intro m
 induction m with
 | zero=>intro _;exact dN (by simp[Sh.eQ])
 | succ m ih =>
  intro hm
  have hlt:=SH (x.drop m)
  rw[abK]at hlt
  have h8:256^(x.length-m)≤256^8:=ado (by decide) adr
  have h8':256^8=18446744073709551616:=by decide
  rw[Il x m adr]at hlt
  have e1:((m+1:Nat):Int)-1=(m:Int):=adr
  refine fA ?_ (ih adr)
  rw[e1]
  have h1:(0:Int)≤(m:Int):=adr
  have e2:IntKind.i64.wrap (c.at_+(m:Int))=c.at_+(m:Int):=jg adr
  have e3:IntKind.i64.wrap ((m:Int)-1)=(m:Int)-1:=jg adr
  have e4:IntKind.u64.wrap (IntKind.u64.wrap (((num (x.drop (m+1)):Nat):Int)*256)+((x[m]'adr).toNat:Int))=((num (x.drop m):Nat):Int):=by
   rw[Il x m adr]
   rw[Nk (x:=((num (x.drop (m+1)):Nat):Int)*256) adr,Nk adr]
   omega
  simp only[Sh.eQ,h1,decide_true,abA,e2,hg m adr,aaS,e3,e4]
theorem JC(hb:b.length≤16777216)(hw:Wf b r){n:Nat}(hn:n≤8):Sh.aC (cur r) (n:Nat)=some (IntKind.i64.wrap (num (tk r n).1:Nat),cur (tk r n).2):=by
 obtain⟨h1,h2,h3,h4,h5⟩:=hw
 have e2:IntKind.i64.wrap (r.at_+(n:Int))=r.at_+n:=jg adr
 unfold Sh.aC tk
 by_cases he:r.e=0
 ·by_cases hlt:r.at_+(n:Int)≤(r.b.length:Int)
  ·have h6:¬ (r.b.length:Int)<r.at_+(n:Int):=adr
   simp only[cur,he,decide_true,abA,e2,h6,decide_false,aR,Sh.dL,abC,Sh.dK,abB,if_true,hlt]
   have hlen:((r.b.drop r.at_.toNat).take (n:Int).toNat).length=n:=by simp;omega
   have:=VC (gR.mk r.b r.at_ r.place 0) ((r.b.drop r.at_.toNat).take (n:Int).toNat) h2 (by simp;omega) adr (fun i h=>by
    have hi:r.at_.toNat+i<r.b.length:=by rw[hlen]at h;omega
    have e:(r.at_+(i:Int)).toNat=r.at_.toNat+i:=adr
    simp only[Fx.get]
    rw[aaJ adr,e,aa9 hi]
    simp) n adr
   rw[abv adr]at this
   have e5:IntKind.i64.wrap ((n:Int)-1)=(n:Int)-1:=jg adr
   rw[e5]
   exact bK this (by simp only[Fx.fin,Sh.kU,e2,cur])
  ·have h6:(r.b.length:Int)<r.at_+(n:Int):=adr
   simp[cur,he,e2,h6,aR,Sh.dL,Sh.dK,hlt,Sh.aL,num]
   rfl
 ·simp[cur,he,aR,Sh.dL,Sh.dK,num]
  rfl
end
end Go.Sp
end
section
namespace Go.Sp
open Go Go.Fw Go.Fx Go.Proofs
section
variable {b:List UInt8}{r r1 r2:gi}
theorem jA(hb:b.length≤16777216)(hw:Wf b r)(n:Nat)(hn:n≤8){v:Int}(h:Sh.aA r (n:Nat)=some (v,r1)):Sh.aC (cur r) (n:Nat)=some (v,cur r1)∧(r1.e≠0→v=0):=by
 rw[pF hb hw hn]at h
 have h1:=congrArg Prod.fst (adp h)
 have h2:=congrArg Prod.snd (adp h)
 simp only at h1 h2
 subst h1 h2
 refine⟨JC hb hw hn,fun he=>?_⟩
 have:(tk r n).1 = []:=by
  unfold tk at he ⊢
  split
  ·rename_i h0
   rw[aaJ h0]at he
   split
   ·rename_i h1;rw[aaJ h1]at he;exact absurd h0 he
   ·rfl
  ·rfl
 rw[this];simp[num];rfl
end
end Go.Sp
end
section
namespace Go.Sp
open Go Go.Fw Go.Fx Go.Proofs
structure Jm{X:Type}(key:X→Int)(bad:X→Prop)(top:Int)(l:List X)(i:Nat)(h:i<l.length):Prop where
 lo:0≤key l[i]
 hi:key l[i]≤top
 un:¬ bad l[i]
 up:∀ (k:0<i),key (l[i-1]'adr)<key l[i]
def xm{X:Type}(key:X→Int)(bad:X→Prop)(top:Int)(l:List X)(n:Nat):Prop:=∀ i (h:i<l.length),i<n→Jm key bad top l i h
def xT(m:dD)(n:Nat):Prop:=xm (fun t:dU=>t.reg) (fun t=>t.old=t.new) 10 m.bk n
def vj(m:dD)(n:Nat):Prop:=xm (fun t:eo=>t.slot) (fun t=>t.old=t.new) 31 m.slots n
theorem xm.succ{X:Type}{key:X→Int}{bad:X→Prop}{top:Int}{l:List X}{n:Nat}(h:xm key bad top l n)(hn:n<l.length)(k:Jm key bad top l n hn):xm key bad top l (n+1):=by
 intro i hi hin
 by_cases e:i=n
 ·subst e;exact k
 ·exact h i hi adr
theorem Wx{m:dD}(hm:m.bk.length≤1099511627776):∃ g,Fx.loop (fun(v:Int×Int)=>match v with|(v1,v2)=>Sh.bM m v1 v2) (0,-1)=some g∧((g=inl ()∧xT m m.bk.length)∨(g=inr false ∧ ¬ xT m m.bk.length)):=by
 refine bY (body:=fun(v:Int×Int)=>match v with|(v1,v2)=>Sh.bM m v1 v2) m.bk.length (fun i (a:Int)=>((i:Int),a)) (fun i a=>xT m i∧((i=0∧a = -1) ∨ ∃ h:i-1<m.bk.length,0<i∧a=(m.bk[i-1]).reg)) _
  (fun i a hi hI=>?_) (fun a hI=>⟨inl (),by simp[Sh.bM],.inl ⟨rfl,hI.1⟩⟩) m.bk.length 0 (-1) adr ⟨fun _ _ h=>by omega,.inl ⟨rfl,rfl⟩⟩
 show(∃ a',Sh.bM m (i:Int) a=_∧_) ∨ ∃ g,Sh.bM m (i:Int) a=_∧_
 obtain⟨hA,ha⟩:=hI
 have Hq : -1≤a∧a≤10:=by
  rcases ha with⟨_,rfl⟩|⟨h,h0,rfl⟩
  ·omega
  ·have:=hA (i-1) h adr;have h1:=this.lo;have h2:=this.hi;omega
 have e1:IntKind.i64.wrap (a+1)=a+1:=jg adr
 have hup:∀ q:Int,(∀ (k:0<i),(m.bk[i-1]'adr).reg<q)∧0≤q↔a+1≤q:=by
  intro q
  rcases ha with⟨h0,rfl⟩|⟨h,h0,rfl⟩
  ·subst h0;constructor
   ·rintro⟨_,h⟩;omega
   ·intro h;exact⟨fun k=>by omega,adr⟩
  ·have:=(hA (i-1) h adr).lo
   constructor
   ·rintro⟨h1,_⟩;have:=h1 h0;omega
   ·intro h1;exact⟨fun _=>by omega,adr⟩
 simp only[Sh.bM,bV,hi,decide_true,abA,aX hi,aaS,dL,Sh.rV,e1]
 by_cases c:a+1≤(m.bk[i]).reg∧(m.bk[i]).reg≤10
 ·by_cases c':(m.bk[i]).old=(m.bk[i]).new
  ·right
   refine⟨inr false,by simp[c,c',aR],.inr ⟨rfl,fun h=>(h i hi hi).un c'⟩⟩
  ·left
   refine⟨(m.bk[i]).reg,by simp[c,c',aR,ij hi (show m.bk.length≤_ by omega)],hA.succ hi ⟨((hup _).2 c.1).2,c.2,c',((hup _).2 c.1).1⟩,.inr ⟨adr,adr,rfl⟩⟩
 ·right
  refine⟨inr false,by simp[c,aR],.inr ⟨rfl,fun h=>c ⟨(hup _).1 ⟨(h i hi hi).up,(h i hi hi).lo⟩,(h i hi hi).hi⟩⟩⟩
theorem VO{m:dD}(hm:m.slots.length≤1099511627776):∃ g,Fx.loop (fun(v:Int×Int)=>match v with|(v1,v2)=>Sh.bN m v1 v2) (-1,0)=some g∧((g=inl ()∧vj m m.slots.length)∨(g=inr false ∧ ¬ vj m m.slots.length)):=by
 refine bY (body:=fun(v:Int×Int)=>match v with|(v1,v2)=>Sh.bN m v1 v2) m.slots.length (fun i (a:Int)=>(a,(i:Int))) (fun i a=>vj m i∧((i=0∧a = -1) ∨ ∃ h:i-1<m.slots.length,0<i∧a=(m.slots[i-1]).slot)) _
  (fun i a hi hI=>?_) (fun a hI=>⟨inl (),by simp[Sh.bN],.inl ⟨rfl,hI.1⟩⟩) m.slots.length 0 (-1) adr ⟨fun _ _ h=>by omega,.inl ⟨rfl,rfl⟩⟩
 show(∃ a',Sh.bN m a (i:Int)=_∧_) ∨ ∃ g,Sh.bN m a (i:Int)=_∧_
 obtain⟨hA,ha⟩:=hI
 have Hq : -1≤a∧a≤31:=by
  rcases ha with⟨_,rfl⟩|⟨h,h0,rfl⟩
  ·omega
  ·have:=hA (i-1) h adr;have h1:=this.lo;have h2:=this.hi;omega
 have e1:IntKind.i64.wrap (a+1)=a+1:=jg adr
 have hup:∀ q:Int,(∀ (k:0<i),(m.slots[i-1]'adr).slot<q)∧0≤q↔a+1≤q:=by
  intro q
  rcases ha with⟨h0,rfl⟩|⟨h,h0,rfl⟩
  ·subst h0;constructor
   ·rintro⟨_,h⟩;omega
   ·intro h;exact⟨fun k=>by omega,adr⟩
  ·have:=(hA (i-1) h adr).lo
   constructor
   ·rintro⟨h1,_⟩;have:=h1 h0;omega
   ·intro h1;exact⟨fun _=>by omega,adr⟩
 simp only[Sh.bN,bV,hi,decide_true,abA,aX hi,aaS,dL,Sh.rW,e1]
 by_cases c:a+1≤(m.slots[i]).slot∧(m.slots[i]).slot≤31
 ·by_cases c':(m.slots[i]).old=(m.slots[i]).new
  ·right
   refine⟨inr false,by simp[c,c',aR],.inr ⟨rfl,fun h=>(h i hi hi).un c'⟩⟩
  ·left
   refine⟨(m.slots[i]).slot,by simp[c,c',aR,ij hi (show m.slots.length≤_ by omega)],hA.succ hi ⟨((hup _).2 c.1).2,c.2,c',((hup _).2 c.1).1⟩,.inr ⟨adr,adr,rfl⟩⟩
 ·right
  refine⟨inr false,by simp[c,aR],.inr ⟨rfl,fun h=>c ⟨(hup _).1 ⟨(h i hi hi).up,(h i hi hi).lo⟩,(h i hi hi).hi⟩⟩⟩
def Differ(x y:List UInt8):Prop:=∀ i,i<x.length→x.getD i 0≠y.getD i 0
structure Jn(l:List cu)(i:Nat)(h:i<l.length):Prop where
 lo : -1≤(l[i]).table
 hi:(l[i]).table≤7
 nh:0≤(l[i]).from_
 ne:(l[i]).old.length≠0
 eq:(l[i]).new.length=(l[i]).old.length
 top:(l[i]).from_+((l[i]).old.length:Int)≤65535
 df:Differ (l[i]).old (l[i]).new
 up:∀ (k:0<i),(l[i-1]'adr).table<(l[i]).table∨((l[i-1]'adr).table=(l[i]).table∧(l[i-1]'adr).from_+((l[i-1]'adr).old.length:Int)<(l[i]).from_)
def uX(l:List cu)(n:Nat):Prop:=∀ i (h:i<l.length),i<n→Jn l i h
theorem uX.succ{l:List cu}{n:Nat}(h:uX l n)(hn:n<l.length)(k:Jn l n hn):uX l (n+1):=by
 intro i hi hin
 by_cases e:i=n
 ·subst e;exact k
 ·exact h i hi adr
theorem JD{x y:List UInt8}(h:y.length=x.length)(hx:x.length≤1099511627776):∃ l,Sh.cN x y=some l∧l.length≤x.length∧(l.length=x.length↔Differ x y):=by
 unfold Sh.cN
 obtain⟨g,h1,l,h2,h3,h4⟩:=bY (body:=fun(v:List Int×Int)=>match v with|(v1,v2)=>Sh.aU x y v1 v2) x.length (fun i (a:List Int)=>(a,(i:Int))) (fun i a=>a.length≤i∧(a.length=i ↔ ∀ j,j<i→x.getD j 0≠y.getD j 0)) (fun g=>∃ l,g=inl l∧l.length≤x.length∧(l.length=x.length↔Differ x y))
  (fun i a hi ha=>.inl (by
   have ex:x.getD i 0=x[i]:=by simp[List.getD,aa9 hi]
   have ey:y.getD i 0=y[i]'adr:=by simp[List.getD,aa9 (show i<y.length by omega)]
   by_cases hc:x[i]=y[i]'adr
   ·refine⟨a,by simp[Sh.aU,Sh.cT,hi,aX hi,aX (show i<y.length by omega),hc,aR,ij hi adr],adr,?_⟩
    constructor
    ·intro e;omega
    ·intro e;exact absurd (by rw[ex,ey,hc]) (e i adr)
   ·have hc':¬ ((x[i]).toNat:Int)=((y[i]'adr).toNat:Int):=fun e=>hc (UInt8.toNat_inj.1 adr)
    refine⟨a ++ [(i:Int)],by simp[Sh.aU,Sh.cT,hi,aX hi,aX (show i<y.length by omega),hc',aR,ij hi adr,cK (bytes:=8) (l:=a) (m:=[(i:Int)]) (by simp;omega) (by simp;omega)],by simp;omega,?_⟩
    simp only[ach,abJ]
    constructor
    ·intro e j hj
     by_cases hji:j=i
     ·subst hji;rw[ex,ey];exact hc
     ·exact ha.2.1 adr j adr
    ·intro e
     have:=ha.2.2 (fun j hj=>e j adr)
     omega))
  (fun a ha=>⟨inl a,by simp[Sh.aU],a,rfl,ha.1,ha.2⟩) x.length 0 [] adr (by simp)
 subst h2
 exact⟨l,bK h1 rfl,h3,h4⟩
end Go.Sp
end
section
namespace Go.Sp
open Go Go.Fw Go.Fx Go.Proofs
theorem Ju{l:List cu}(hl:l.length≤1099511627776):∃ g,Fx.loop (fun(v:Int×Int×Int)=>match v with|(v1,v2,v3)=>Sh.aK l v1 v2 v3) (0,-1,0)=some g∧((g=inl ()∧uX l l.length)∨(g=inr false ∧ ¬ uX l l.length)):=by
 refine bY (body:=fun(v:Int×Int×Int)=>match v with|(v1,v2,v3)=>Sh.aK l v1 v2 v3) l.length (fun i (a:Int×Int)=>((i:Int),a.1,a.2)) (fun i a=>uX l i∧((i=0∧a=(-1,0)) ∨ ∃ h:i-1<l.length,0<i∧a=((l[i-1]).table,(l[i-1]).from_+((l[i-1]).old.length:Int)+1))) _
  (fun i a hi hI=>?_) (fun a hI=>⟨inl (),by simp[Sh.aK],.inl ⟨rfl,hI.1⟩⟩) l.length 0 (-1,0) adr ⟨fun _ _ h=>by omega,.inl ⟨rfl,rfl⟩⟩
 obtain⟨t,f⟩:=a
 obtain⟨hA,ha⟩:=hI
 show(∃ a',Sh.aK l (i:Int) t f=_∧_) ∨ ∃ g,Sh.aK l (i:Int) t f=_∧_
 generalize hp:l[i]=p
 have ht : -1≤t∧t≤7∧0≤f∧f≤65536:=by
  rcases ha with⟨_,e⟩|⟨h,h0,e⟩
  ·cases e;omega
  ·have:=hA (i-1) h adr
   have h1:=this.lo;have h2:=this.hi;have h3:=this.nh;have h4:=this.top
   cases e;omega
 have bad:(∀ h:Jn l i hi,False) → ∃ g,(some (inr (inr false)):Option ((Int×Int×Int)⊕(Unit⊕Bool)))=some (inr g)∧((g=inl ()∧uX l l.length)∨(g=inr false ∧ ¬ uX l l.length)) :=
  fun h=>⟨_,rfl,.inr ⟨rfl,fun k=>h (k i hi hi)⟩⟩
 -- what the place must be,said of the state (t,f)
 have hup:∀ h:Jn l i hi,t≤p.table∧(p.table=t→f≤p.from_):=by
  intro h
  rcases ha with⟨h0,e⟩|⟨h',h0,e⟩
  ·cases e;have:=h.lo;have:=h.nh;rw[hp]at *; exact⟨adr,fun _=>by omega⟩
  ·cases e
   have:=h.up h0
   rw[hp]at this
   rcases this with h1|⟨h1,h2⟩
   ·exact⟨adr,fun e=>by omega⟩
   ·exact⟨adr,fun e=>by omega⟩
 have K2:∀ q:Int,t≤p.table→0≤p.from_→(p.table=t→f≤p.from_) → ∀ (k:0<i),(l[i-1]'adr).table<p.table∨((l[i-1]'adr).table=p.table∧(l[i-1]'adr).from_+((l[i-1]'adr).old.length:Int)<p.from_):=by
  intro q h1 h2 h3 k
  rcases ha with⟨h0,e⟩|⟨h',h0,e⟩
  ·omega
  ·cases e
   by_cases hc:p.table=(l[i-1]).table
   ·right;have:=h3 hc;exact⟨hc.symm,adr⟩
   ·left;omega
 have key:∀ f',0≤f' ∧ f' ≤ 65536→t≤p.table→p.table≤7→(f' ≤ p.from_→0≤p.from_→(p.table=t→f≤p.from_))→(∀ h:Jn l i hi,f' ≤ p.from_) →
   (∃ a',Sh.cI (i:Int) p p.table f' = some (inl (((i+1:Nat):Int),a'.1,a'.2))∧uX l (i+1)∧((i+1=0∧a' = ((-1,0):Int×Int)) ∨ ∃ h:i+1-1<l.length,0<i+1∧a' = ((l[i+1-1]).table,(l[i+1-1]).from_+((l[i+1-1]).old.length:Int)+1))) ∨
   ∃ g,Sh.cI (i:Int) p p.table f' = some (inr g)∧((g=inl ()∧uX l l.length)∨(g=inr false ∧ ¬ uX l l.length)):=by
  intro f' hf h1 h2 h3 h4
  unfold Sh.cI
  by_cases c1:(p.old.length:Int)=0
  ·right;simpa[c1,aR,Sh.aX]using bad (fun h=>h.ne (by rw[hp];omega))
  by_cases c2:(p.new.length:Int)=(p.old.length:Int)
  ·by_cases c3:65535<(p.old.length:Int)
   ·right;simpa[c1,c2,c3,aR,Sh.aX]using bad (fun h=>by have h5:=h.top;have h6:=h.nh;rw[hp]at h5 h6;omega)
   ·have e1:IntKind.i64.wrap (65535-(p.old.length:Int))=65535-(p.old.length:Int):=jg adr
    simp only[c1,c2,c3,decide_false,decide_true,abC,abB,dL,aaS,e1]
    by_cases c4:f' ≤ p.from_∧p.from_≤65535-(p.old.length:Int)
    ·obtain⟨x,hx,hx1,E3⟩:=JD (x:=p.old) (y:=p.new) adr adr
     simp only[c4,decide_true,abB,abC,and_self,hx,aaS,aR,Sh.aX]
     by_cases c5:(x.length:Int)<(p.old.length:Int)
     ·right
      rw[abf c5]
      exact bad (fun h=>by have:=E3.2 (by rw[←hp];exact h.df);omega)
     ·left
      have e2:IntKind.i64.wrap (IntKind.i64.wrap (p.from_+(p.old.length:Int))+1)=p.from_+(p.old.length:Int)+1:=by rw[jg (x:=p.from_+(p.old.length:Int)) adr,jg adr]
      refine⟨(p.table,p.from_+(p.old.length:Int)+1),by simp only[c5,decide_false,abC,ij hi (show l.length≤_ by omega),e2],hA.succ hi ?_,.inr ⟨adr,adr,by simp[hp]⟩⟩
      have hd:=E3.1 adr
      refine⟨by rw[hp];omega,by rw[hp];omega,by rw[hp];omega,by rw[hp];omega,by rw[hp];omega,by rw[hp];omega,by rw[hp];exact hd,?_⟩
      rw[hp]
      exact K2 0 h1 adr (h3 c4.1 adr)
    ·right
     simp only[c4,decide_false,abD,abA,aR,Sh.aX]
     exact bad (fun h=>c4 ⟨h4 h,by have h5:=h.top;rw[hp]at h5;omega⟩)
  ·right;simpa[c1,c2,aR,Sh.aX]using bad (fun h=>c2 (by have:=h.eq;rw[hp]at this;omega))
 simp only[Sh.aK,bV,hi,decide_true,abA,aX hi,hp,aaS,dL]
 by_cases c:t≤p.table∧p.table≤7
 ·simp only[c,and_self,decide_true,abB,abC]
  by_cases c':t<p.table
  ·simp only[c',decide_true,abA,aR]
   exact key 0 adr c.1 c.2 (fun _ _ e=>by omega) (fun h=>by have:=h.nh;rw[hp]at this;exact this)
  ·have e:p.table=t:=adr
   simp only[c',decide_false,abC,aR]
   have:=key f adr c.1 c.2 (fun h _ _=>h) (fun h=>(hup h).2 e)
   rw[e]at this
   rw[e]at *
   exact this
 ·simp only[c,decide_false,abD,abA,nA]
  right
  exact bad (fun h=>c ⟨(hup h).1,by have:=h.hi;rw[hp]at this;exact this⟩)
end Go.Sp
end
section
namespace Go.Sp
open Go Go.Fw Go.Fx Go.Proofs
structure St(b more:List UInt8)(r:gi)(t:List UInt8):Prop where
 wf:Wf b r
 ok:r.e=0→b.drop r.at_.toNat++more=t
 bad:r.e≠0→r.e=236∧r.place=b.length∧more ≠ []
section
variable {b more:List UInt8}{r r1 r2:gi}{t:List UInt8}
theorem St.any(h:St b more r t)(he:r.e≠0)(t':List UInt8):St b more r t':=⟨h.wf,fun k=>absurd k he,h.bad⟩
theorem St.to{t':List UInt8}(h:St b more r t)(k:r.e=0→t=t'):St b more r t':=⟨h.wf,fun he=>(h.ok he).trans (k he),h.bad⟩
end
end Go.Sp
end
section
namespace Go.Sp
open Go Go.Fw Go.Fx Go.Proofs
theorem fG{X:Type}{enc:X→List UInt8}(h:∀ x,1≤(enc x).length)(xs:List X):xs.length≤(xs.flatMap enc).length:=by
 induction xs with
 | nil=>simp
 | cons x xs ih=>have:=h x;simp only[abN,List.flatMap_cons,ach];omega
end Go.Sp
end
section
namespace Go.Sp
open Go Go.Fw Go.Fx Go.Proofs
def qf(o:Option Bool)(P:Prop):Prop:=∃ t,o=some t∧(t=true↔P)
theorem qf.eq{o o':Option Bool}{P:Prop}(h:qf o P)(h':qf o' P):o=o':=by
 obtain⟨t,rfl,ht⟩:=h
 obtain⟨t',rfl,ht'⟩:=h'
 congr 1
 cases t<;>cases t' <;> simp_all
theorem qf.true{o:Option Bool}{P:Prop}(h:qf o P)(hp:P):o=some true:=by
 obtain⟨t,rfl,ht⟩:=h
 rw[ht.2 hp]
theorem qf.false{o:Option Bool}{P:Prop}(h:qf o P)(hp:¬ P):o=some false:=by
 obtain⟨t,rfl,ht⟩:=h
 cases t
 ·rfl
 ·exact absurd (ht.1 rfl) hp
theorem qf.of{P:Prop}[Decidable P]:qf (some (decide P)) P:=⟨_,rfl,by simp⟩
theorem scan{γ:Type}{body:Int→Option (Int⊕γ)}{ok bad:γ}(n:Nat)(P:Nat→Prop)(hn:n≤4611686018427387904)
  (h:∀ i:Nat,i<n→(P i∧body (i:Int)=some (.inl (IntKind.i64.wrap ((i:Int)+1))))∨(¬ P i∧body (i:Int)=some (.inr bad))) (h':body (n:Int)=some (.inr ok)) :
  ∃ g,Fx.loop body 0=some g∧((g=ok ∧ ∀ i,i<n→P i)∨(g=bad ∧ ¬ ∀ i,i<n→P i)):=by
 refine bY (body:=body) n (fun i (a:Unit)=>(i:Int)) (fun i a=>∀ j,j<i→P j) _ (fun i a hi hI=>?_) (fun a hI=>⟨ok,h',.inl ⟨rfl,hI⟩⟩) n 0 () adr (fun j hj=>by omega)
 rcases h i hi with⟨hp,hb⟩|⟨hp,hb⟩
 ·left
  refine⟨(),by rw[hb,ij hi hn],fun j hj=>?_⟩
  by_cases e:j=i
  ·subst e;exact hp
  ·exact hI j adr
 ·exact .inr ⟨bad,hb,.inr ⟨rfl,fun k=>hp (k i hi)⟩⟩
end Go.Sp
end
section
namespace Go.Sp
open Go Go.Fw Go.Fx Go.Proofs
theorem oP{X:Type}{l:List X}{Q:X→Prop}:(∀ i,i<l.length → ∀ h:i<l.length,Q l[i]) ↔ ∀ t∈l,Q t:=by
 constructor
 ·intro h t ht
  obtain⟨i,hi,rfl⟩:=ab2.1 ht
  exact h i hi hi
 ·intro h i hi _;exact h _ (abz hi)
def y8(i:fj):Prop:=i.b_.length≤65535∧i.ah.length≤8 ∧ ∀ t∈i.ah,t.length≤65535
theorem pX(i:fj):qf (Sh.gW i) (y8 i):=by
 unfold Sh.gW y8
 by_cases c1:i.b_.length≤65535
 ·have d1:decide ((65535:Int)<(i.b_.length:Int))=false:=abg adr
  by_cases c2:i.ah.length≤8
  ·have d2:decide ((i.ah.length:Int)≤8)=true:=abf adr
   simp only[d1,aR,Sh.fX,abD,abA,d2]
   obtain⟨g,e1,e2⟩:=bY (body:=fun(v:Int)=>Sh.cO i v) i.ah.length (fun k (a:Unit)=>(k:Int)) (fun k a=>∀ j,j<k → ∀ h:j<i.ah.length,(i.ah[j]).length≤65535)
    (fun g=>(g=inl () ∧ ∀ t∈i.ah,t.length≤65535)∨(∃ k:Nat,g=inr (inl (k:Int))) ∧ ¬ ∀ t∈i.ah,t.length≤65535)
    (fun k a hk hI=>by
     simp only[Sh.cO,bV,hk,decide_true,abA,aX hk,aaS,aR,Sh.lA]
     by_cases c3:(i.ah[k]).length≤65535
     ·left
      have d3:decide ((65535:Int)<((i.ah[k]).length:Int))=false:=abg adr
      refine⟨(),by rw[d3,abC,ij hk adr],fun j hj h=>?_⟩
      by_cases e:j=k
      ·subst e;exact c3
      ·exact hI j adr h
     ·right
      have d3:decide ((65535:Int)<((i.ah[k]).length:Int))=true:=abf adr
      exact⟨_,by rw[d3,abA],.inr ⟨⟨k,rfl⟩,fun h=>c3 (h _ (abz hk))⟩⟩)
    (fun a hI=>⟨inl (),by simp[Sh.cO],.inl ⟨rfl,oP.1 hI⟩⟩) i.ah.length 0 () adr (fun j hj=>by omega)
   rw[show Fx.loop (fun Ni=>Sh.cO i Ni) 0=some g from e1]
   rcases e2 with⟨rfl,ha⟩|⟨⟨k,rfl⟩,ha⟩
   ·exact⟨true,rfl,by simp only[true_iff];exact⟨c1,c2,ha⟩⟩
   ·refine⟨false,?_,by simp only[abQ,false_iff];exact fun h=>ha h.2.2⟩
    have dk:decide (0≤(k:Int))=true:=abf adr
    simp only[nA,aR,Sh.pW,dk,Sh.pV,Sh.iA,abB]
  ·have d2:decide ((i.ah.length:Int)≤8)=false:=abg adr
   exact⟨false,by simp only[d1,aR,Sh.fX,abD,abA,d2,abC,Sh.iA],by simp only[abQ,false_iff];exact fun h=>c2 h.2.1⟩
 ·have d1:decide ((65535:Int)<(i.b_.length:Int))=true:=abf adr
  exact⟨false,by simp only[d1,aR,Sh.fX,abB,abC,Sh.iA],by simp only[abQ,false_iff];exact fun h=>c1 h.1⟩
end Go.Sp
end
section
namespace Go.Sp
open Go Go.Fw Go.Fx Go.Proofs
theorem pass{γ:Type}{body:Int→Option (Int⊕γ)}{g:γ}(n:Nat)(hn:n≤4611686018427387904)(h:∀ i:Nat,i<n→body (i:Int)=some (.inl (IntKind.i64.wrap ((i:Int)+1))))(h':body (n:Int)=some (.inr g)):Fx.loop body 0=some g:=by
 obtain⟨g',h1,h2⟩:=bY (body:=body) n (fun i (a:Unit)=>(i:Int)) (fun i a=>True) (fun g'=>g' = g)
  (fun i a hi _=>.inl ⟨(),by rw[h i hi,ij hi hn],trivial⟩) (fun a _=>⟨g,h',rfl⟩) n 0 () adr trivial
 subst h2;exact h1
def pz(m:dD):Prop:=m.bk.length≤1099511627776∧m.slots.length≤1099511627776∧m.dE.length≤1099511627776∧m.bf.length≤1099511627776
theorem uY{l:List Int}(h:l.length≤1099511627776):Sh.hP l l=some true:=by
 unfold Sh.hP
 simp only[decide_true,abB,abC]
 exact bK (pass (g:=inl ()) l.length adr (fun i hi=>by simp[Sh.eT,hi,aX hi]) (by simp[Sh.eT])) rfl
theorem uZ{l:List (List UInt8)}(h:l.length≤1099511627776):Sh.hQ l l=some true:=by
 unfold Sh.hQ
 simp only[decide_true,abB,abC]
 exact bK (pass (g:=inl ()) l.length adr (fun i hi=>by simp[Sh.eU,hi,aX hi,Sh.aW]) (by simp[Sh.eU])) rfl
end Go.Sp
end
section
namespace Go.Sp
open Go Go.Fw Go.Fx Go.Proofs
section
variable {b:List UInt8}{r r1 r2:gi}
theorem two{σ γ τ δ X:Type}(N n:Nat){CS:σ→Option (σ⊕γ)}{CU:τ→Option (τ⊕δ)}(st1:List X→gi→Int→σ)(out1:List X→gi→γ)(st2:List X→gR→Int→τ)(L_:List X→gR→δ)
  (Ue:∀ xs r m,(m=0∨r.e≠0)→CS (st1 xs r m)=some (.inr (out1 xs r)))
  (Uf:∀ xs c i,(i=(n:Int)∨c.e≠0)→CU (st2 xs c i)=some (.inr (L_ xs c)))
  (hs:∀ xs r (m i:Nat),Wf b r→r.e=0→m+1+i=n→xs.length<N → ∃ x x' r',CS (st1 xs r ((m+1:Nat):Int))=some (.inl (st1 (xs ++ [x]) r' (m:Int))) ∧
   CU (st2 xs (cur r) (i:Int))=some (.inl (st2 (xs ++ [x']) (cur r') ((i+1:Nat):Int)))∧Wf b r' ∧ (r'.e=0→x' = x)) :
  ∀ (m i:Nat) xs xs' r,m+i=n→Wf b r→xs.length+m≤N→(r.e=0→xs' = xs) →
   ∃ ys NU r',loop CS (st1 xs r (m:Int))=some (out1 (xs++ys) r')∧loop CU (st2 xs' (cur r) (i:Int))=some (L_ (xs' ++ NU) (cur r'))∧Wf b r' ∧ (r'.e=0→xs' ++ NU=xs++ys):=by
 intro m
 induction m with
 | zero =>
  intro i xs xs' r hi hw _ hx
  refine⟨[],[],r,?_,?_,hw,fun h=>by rw[hx h]⟩
  ·rw[ada];exact dN (Ue _ _ _ (.inl rfl))
  ·rw[ada];exact dN (Uf _ _ _ (.inl adr))
 | succ m ih =>
  intro i xs xs' r hi hw hN hx
  by_cases he:r.e=0
  ·obtain rfl:=hx he
   obtain⟨x,x',r1,h1,h2,h3,h4⟩:=hs xs' r m i hw he hi adr
   obtain⟨ys,NU,r2,k1,k2,k3,k4⟩:=ih (i+1) (xs' ++ [x]) (xs' ++ [x']) r1 adr h3 (by simp;omega) (fun h=>by rw[h4 h])
   exact⟨x::ys,x' :: NU,r2,fA h1 (by rw[k1];simp),fA h2 (by rw[k2];simp),k3,fun h=>by simpa using k4 h⟩
  ·refine⟨[],[],r,?_,?_,hw,fun h=>absurd h he⟩
   ·rw[ada];exact dN (Ue _ _ _ (.inr he))
   ·rw[ada];exact dN (Uf _ _ _ (.inr he))
theorem c1(hb:b.length≤16777216)(hw:Wf b r){v:Int}(h:Sh.aA r 1=some (v,r1)):Sh.aC (cur r) 1=some (v,cur r1):=(jA hb hw 1 adr h).1
theorem c2(hb:b.length≤16777216)(hw:Wf b r){v:Int}(h:Sh.aA r 2=some (v,r1)):Sh.aC (cur r) 2=some (v,cur r1):=(jA hb hw 2 adr h).1
theorem c4(hb:b.length≤16777216)(hw:Wf b r){v:Int}(h:Sh.aA r 4=some (v,r1)):Sh.aC (cur r) 4=some (v,cur r1):=(jA hb hw 4 adr h).1
theorem c8(hb:b.length≤16777216)(hw:Wf b r){v:Int}(h:Sh.aA r 8=some (v,r1)):Sh.aC (cur r) 8=some (v,cur r1):=(jA hb hw 8 adr h).1
end
end Go.Sp
end
section
namespace Go.Sp
open Go Go.Fw Go.Fx Go.Proofs
section
variable {X S:Type}[DecidableEq X]
def jR(f:Nat→X→X→S→S)(a b:List X)(s:S):Nat→S
 | 0=>s
 | i+1=>match a[i]?,b[i]? with
  | some x,some y=>if x=y then jR f a b s i else f i x y (jR f a b s i)
  | _,_=>jR f a b s i
def jq(a b:List X):Nat→List Int:=jR (fun i _ _ D=>D ++ [(i:Int)]) a b []
def pg (f : Nat → X → X → S → S) (a b : List X) (D : List Int) (s : S) : S := D.foldl (fun s j => match a[j.toNat]?, b[j.toNat]? with
    | some x,some y=>f j.toNat x y s
    | _,_=>s) s
theorem gD(f:Nat→X→X→S→S){a b:List X}{i:Nat}(ha:i<a.length)(hb:i<b.length)(s:S):jR f a b s (i+1)=if a[i]=b[i]then jR f a b s i else f i a[i] b[i] (jR f a b s i):=by
 simp only[jR,aa9 ha,aa9 hb]
theorem pA{a b:List X}{i:Nat}(ha:i<a.length)(hb:i<b.length):jq a b (i+1)=if a[i]=b[i]then jq a b i else jq a b i ++ [(i:Int)]:=gD _ ha hb []
theorem vI(f:Nat→X→X→S→S){a b:List X}(s:S)(h:a.length=b.length):∀ n,n≤a.length→pg f a b (jq a b n) s=jR f a b s n:=by
 intro n
 induction n with
 | zero=>intro _;rfl
 | succ n ih =>
  intro hn
  rw[pA adr adr,gD f adr adr]
  split
  ·exact ih adr
  ·rw[pg,adl]
   have:=ih adr
   rw[pg]at this
   rw[this]
   simp[aa9 (show n<a.length by omega),aa9 (show n<b.length by omega)]
theorem nH{a b:List X}(h:a.length=b.length):∀ n,n≤a.length→(jq a b n).length≤n:=by
 intro n
 induction n with
 | zero=>intro _;exact aah _
 | succ n ih =>
  intro hn
  rw[pA adr adr]
  have:=ih adr
  split
  ·omega
  ·simp;omega
theorem WY{a b:List X}(h:a.length=b.length):∀ n,n≤a.length → ∀ j∈jq a b n,∃ k:Nat,j=(k:Int)∧k<n:=by
 intro n
 induction n with
 | zero=>intro _ j hj;cases hj
 | succ n ih =>
  intro hn j hj
  rw[pA adr adr]at hj
  split at hj
  ·obtain⟨k,e,hk⟩:=ih adr j hj;exact⟨k,e,adr⟩
  ·rcases aaR.1 hj with hj|hj
   ·obtain⟨k,e,hk⟩:=ih adr j hj;exact⟨k,e,adr⟩
   ·exact⟨n,by simpa using hj,adr⟩
theorem vG{a b:List X}(h:a.length=b.length){k:Nat}(hk:k<(jq a b a.length).length):∃ j:Nat,(jq a b a.length)[k]=(j:Int)∧j<a.length∧j<b.length:=by
 obtain⟨j,e,hj⟩:=WY h a.length (aah _) _ (abz hk)
 exact⟨j,e,hj,h ▸ hj⟩
end
theorem xR{X S:Type}(f:Nat→X→X→S→S){a b:List X}(s:S){D:List Int}{k j:Nat}(hk:k<D.length)(hj:D[k]=(j:Int))(ha:j<a.length)(hb:j<b.length):pg f a b (D.take (k+1)) s=f j a[j] b[j] (pg f a b (D.take k) s):=by
 rw[abI,aa9 hk,pg,adl,hj]
 simp[aa9 ha,aa9 hb,pg]
theorem Rk(x y:UInt8):decide ((x.toNat:Int)=(y.toNat:Int))=decide (x=y):=by
 by_cases h:x=y
 ·subst h;simp
 ·have:x.toNat≠y.toNat:=fun e=>h (UInt8.toNat_inj.1 e)
  simp[h];omega
theorem CV{a b:List UInt8}(h:a.length=b.length)(hn:a.length≤1099511627776):Sh.cN a b=some (jq a b a.length):=by
 have key:=bY (body:=fun(s:List Int×Int)=>Sh.aU a b s.1 s.2) a.length (fun i D=>(D,(i:Int))) (fun i D=>D=jq a b i) (fun g=>g = .inl (jq a b a.length))
  (by
   intro i D hi hI
   subst hI
   refine .inl ⟨_,?_,rfl⟩
   have hb:i<b.length:=adr
   have hl:=nH h i adr
   simp only[Sh.aU,bV,hi,decide_true,abA,aX hi,aX hb,aaS,Rk]
   rw[pA hi hb]
   by_cases e:a[i]=b[i]
   ·simp only[e,decide_true,abB,abC,aR,Sh.cT,ij hi adr,if_true]
   ·simp only[e,decide_false,abD,abA,Sh.cT,ij hi adr,if_false,cK (l:=jq a b i) (m:=[(i:Int)]) (bytes:=8) (by simp;omega) (by simp;omega),aaS,aR])
  (by
   intro D hI
   subst hI
   exact⟨_,by simp[Sh.aU],rfl⟩) a.length 0 [] adr rfl
 obtain⟨g,hg,e⟩:=key
 subst e
 unfold Sh.cN
 exact bK hg rfl
theorem CX{a b:List ak}(h:a.length=b.length)(hn:a.length≤1099511627776):Sh.gQ a b=some (jq a b a.length):=by
 have key:=bY (body:=fun(s:List Int×Int)=>Sh.cX a b s.1 s.2) a.length (fun i D=>(D,(i:Int))) (fun i D=>D=jq a b i) (fun g=>g = .inl (jq a b a.length))
  (by
   intro i D hi hI
   subst hI
   refine .inl ⟨_,?_,rfl⟩
   have hb:i<b.length:=adr
   have hl:=nH h i adr
   simp only[Sh.cX,bV,hi,decide_true,abA,aX hi,aX hb,aaS]
   rw[pA hi hb]
   by_cases e:a[i]=b[i]
   ·simp only[e,decide_true,abB,abC,aR,Sh.hJ,ij hi adr,if_true]
   ·simp only[e,decide_false,abD,abA,Sh.hJ,ij hi adr,if_false,cK (l:=jq a b i) (m:=[(i:Int)]) (bytes:=8) (by simp;omega) (by simp;omega),aaS,aR])
  (by
   intro D hI
   subst hI
   exact⟨_,by simp[Sh.cX],rfl⟩) a.length 0 [] adr rfl
 obtain⟨g,hg,e⟩:=key
 subst e
 unfold Sh.gQ
 exact bK hg rfl
theorem CW{a b:List bn}(h:a.length=b.length)(hn:a.length≤1099511627776):Sh.hH a b=some (jq a b a.length):=by
 have key:=bY (body:=fun(s:List Int×Int)=>Sh.dO a b s.1 s.2) a.length (fun i D=>(D,(i:Int))) (fun i D=>D=jq a b i) (fun g=>g = .inl (jq a b a.length))
  (by
   intro i D hi hI
   subst hI
   refine .inl ⟨_,?_,rfl⟩
   have hb:i<b.length:=adr
   have hl:=nH h i adr
   simp only[Sh.dO,bV,hi,decide_true,abA,aX hi,aX hb,aaS]
   rw[pA hi hb]
   by_cases e:a[i]=b[i]
   ·simp only[e,decide_true,abB,abC,aR,Sh.iG,ij hi adr,if_true]
   ·simp only[e,decide_false,abD,abA,Sh.iG,ij hi adr,if_false,cK (l:=jq a b i) (m:=[(i:Int)]) (bytes:=8) (by simp;omega) (by simp;omega),aaS,aR])
  (by
   intro D hI
   subst hI
   exact⟨_,by simp[Sh.dO],rfl⟩) a.length 0 [] adr rfl
 obtain⟨g,hg,e⟩:=key
 subst e
 unfold Sh.hH
 exact bK hg rfl
def ext(t:Int)(i:Nat)(x y:UInt8)(P:List cu):List cu:=match P.getLast? with
 | some p=>if p.from_+(p.old.length:Int)=(i:Int)then P.dropLast ++ [⟨p.table,p.from_,p.old ++ [x],p.new ++ [y]⟩]else P ++ [⟨t,(i:Int),[x],[y]⟩]
 | none=>P ++ [⟨t,(i:Int),[x],[y]⟩]
def grow(t:Int)(a b:List UInt8):Nat→List cu:=jR (ext t) a b []
theorem tH(t:Int)(i:Nat)(x y:UInt8):ext t i x y [] = [⟨t,(i:Int),[x],[y]⟩]:=rfl
theorem jT(t:Int)(i:Nat)(x y:UInt8)(Q:List cu)(p:cu):ext t i x y (Q ++ [p])=if p.from_+(p.old.length:Int)=(i:Int)then Q ++ [⟨p.table,p.from_,p.old ++ [x],p.new ++ [y]⟩]else Q ++ [p] ++ [⟨t,(i:Int),[x],[y]⟩]:=by
 simp[ext]
theorem oJ{X:Type}(l:List X):l = [] ∨ ∃ q x,l=q ++ [x]:=by
 rcases List.eq_nil_or_concat l with h|⟨q,x,h⟩
 ·exact .inl h
 ·exact .inr ⟨q,x,by simpa using h⟩
structure H4(t:Int)(i:Nat)(P:List cu):Prop where
 few:P.length≤i
 each:∀ p∈P,p.table=t∧0≤p.from_∧p.from_+(p.old.length:Int)≤(i:Int)∧p.new.length=p.old.length
theorem YH{t:Int}{i j:Nat}{x y:UInt8}{P:List cu}(h:H4 t i P)(hj:i≤j):H4 t (j+1) (ext t j x y P):=by
 obtain⟨h1,h2⟩:=h
 rcases oJ P with rfl|⟨Q,p,rfl⟩
 ·rw[tH]
  refine⟨by simp,?_⟩
  intro q hq
  simp at hq;subst hq
  simp
 ·rw[jT]
  simp only[ach,abN,acu]at h1
  have hp:=h2 p (by simp)
  split
  ·refine⟨by simp;omega,?_⟩
   intro q hq
   rcases aaR.1 hq with hq|hq
   ·obtain⟨a1,a2,a3,a4⟩:=h2 q (by simp[hq]);exact⟨a1,a2,adr,a4⟩
   ·simp at hq;subst hq;simp;refine⟨hp.1,hp.2.1,adr,hp.2.2.2⟩
  ·refine⟨by simp;omega,?_⟩
   intro q hq
   rcases aaR.1 hq with hq|hq
   ·obtain⟨a1,a2,a3,a4⟩:=h2 q hq;exact⟨a1,a2,adr,a4⟩
   ·simp at hq;subst hq;simp
theorem H4.mono{t:Int}{i j:Nat}{P:List cu}(h:H4 t i P)(hj:i≤j):H4 t j P:=⟨by have:=h.few;omega,fun p hp=>by obtain⟨a1,a2,a3,a4⟩:=h.each p hp;exact⟨a1,a2,adr,a4⟩⟩
theorem mI(t:Int){a b:List UInt8}(h:a.length=b.length):∀ n,n≤a.length→H4 t n (grow t a b n):=by
 intro n
 induction n with
 | zero=>intro _;exact⟨aah _,fun p hp=>by cases hp⟩
 | succ n ih =>
  intro hn
  unfold grow
  rw[gD _ adr adr]
  split
  ·exact(ih adr).mono adr
  ·exact YH (ih adr) (aah _)
end Go.Sp
end
section
namespace Go.Sp
open Go Go.Fw Go.Fx Go.Proofs
theorem SG{X:Type}(Q:List X)(p:X)(h:Q.length≤4611686018427387904):IntKind.i64.wrap (((Q ++ [p]).length:Int)-1)=(Q.length:Int):=by
 have e:((Q ++ [p]).length:Int)-1=(Q.length:Int):=by simp
 rw[e];exact jg adr
theorem XI{X:Type}(Q:List X)(p:X):decide ((Q.length:Int)=((Q ++ [p]).length:Int)-1)=true:=by simp
theorem SE{X:Type}(Q:List X)(p:X):Fx.get (Q ++ [p]) (Q.length:Int)=some p:=by simp[Fx.get]
theorem XJ{X:Type}(Q:List X)(p q:X):(Q ++ [p]).set ((Q.length:Int)).toNat q=Q ++ [q]:=by simp
theorem Zy{X:Type}(Q:List X):decide (0≤(Q.length:Int))=true:=by simp
structure Wk(n k:Nat)(P:List cu):Prop where
 few:P.length≤k
 each:∀ p∈P,(0≤p.from_∧p.from_≤(n:Int))∧p.old.length≤k∧p.new.length≤k
theorem Zv{t:Int}{n k j:Nat}{x y:UInt8}{P:List cu}(h:Wk n k P)(hj:j≤n):Wk n (k+1) (ext t j x y P):=by
 obtain⟨h1,h2⟩:=h
 rcases oJ P with rfl|⟨Q,p,rfl⟩
 ·rw[tH]
  exact⟨by simp,fun q hq=>by simp at hq;subst hq;simp;omega⟩
 ·rw[jT]
  simp only[ach,abN,acu]at h1
  have hp:=h2 p (by simp)
  split
  ·refine⟨by simp;omega,?_⟩
   intro q hq
   rcases aaR.1 hq with hq|hq
   ·have:=h2 q (by simp[hq]);exact⟨this.1,adr,adr⟩
   ·simp at hq;subst hq;simp;exact⟨hp.1,adr,adr⟩
  ·refine⟨by simp;omega,?_⟩
   intro q hq
   rcases aaR.1 hq with hq|hq
   ·have:=h2 q hq;exact⟨this.1,adr,adr⟩
   ·simp at hq;subst hq;simp;omega
def Ae{X:Type}:List X→Bool
 | []=>false
 | _::_=>true
theorem uA{X:Type}(Q:List X)(p:X):Ae (Q ++ [p])=true:=by cases Q<;>rfl
theorem JJ(t:Int)(i:Nat)(x y:UInt8)(P:List cu):Ae (ext t i x y P)=true:=by
 rcases oJ P with rfl|⟨Q,p,rfl⟩
 ·rfl
 ·rw[jT];split
  ·exact uA _ _
  ·exact uA _ _
theorem Gy(t:Int){a b:List UInt8}(h:a.length=b.length)(hn:a.length≤1099511627776):Sh.rU t a b=some (grow t a b a.length):=by
 have hD:=nH h a.length (aah _)
 have hK:=fun k hk=>vG (a:=a) (b:=b) h (k:=k) hk
 have hF:=vI (ext t) (a:=a) (b:=b) [] h a.length (aah _)
 generalize hd:jq a b a.length=D at hD hF hK
 have key:=bY (body:=fun(s:Int×List cu×Bool)=>Sh.mI t a b D s.1 s.2.1 s.2.2) D.length (fun k P=>((k:Int),P,Ae P)) (fun k P=>P=pg (ext t) a b (D.take k) []∧Wk a.length k P) (fun g=>∃ s,g = .inl (grow t a b a.length,s))
  (by
   intro k P hk ⟨hP,hW⟩
   obtain⟨j,ej,ja,jb⟩:=hK k hk
   refine .inl ⟨ext t j a[j] b[j] P,?_,by rw[hP,xR (ext t) [] hk ej ja jb],Zv hW adr⟩
   have hf:=hW.few
   simp only[Sh.mI,bV,hk,decide_true,abA,aX hk,aaS,ej,JJ]
   rcases oJ P with e|⟨Q,p,e⟩
   ·clear hP hW
    subst e
    have e0:decide (0≤IntKind.i64.wrap (((([]:List cu).length:Nat):Int)-1))=false:=by
     rw[jg (by simp)];simp
    simp only[e0,abC,aR,Sh.mH,aX ja,aX jb,aaS,cK (l:=([]:List cu)) (m:=[cu.mk t (j:Int) [a[j]] [b[j]]]) (bytes:=64) (by simp) (by simp),Sh.mG,ij hk adr,abX,tH]
   ·have hp:=hW.each p (by rw[e];simp)
    clear hP
    subst e
    simp only[ach,abN,acu]at hf
    have hQ:Q.length≤4611686018427387904:=adr
    have ew:IntKind.i64.wrap (p.from_+(p.old.length:Int))=p.from_+(p.old.length:Int):=jg adr
    simp only[SG Q p hQ,Zy,abA,SE,aaS,aR,ew,jT,uA]
    by_cases hc:p.from_+(p.old.length:Int)=(j:Int)
    ·simp only[hc,decide_true,Sh.mH,abA,SG Q p hQ,SE,aaS,aX ja,aX jb,XI,Fx.must,XJ,if_true,
      cK (l:=p.old) (m:=[a[j]]) (bytes:=1) (by simp;omega) (by simp;omega),cK (l:=p.new) (m:=[b[j]]) (bytes:=1) (by simp;omega) (by simp;omega),aR,Sh.vR,Sh.mG,ij hk adr]
    ·simp only[hc,decide_false,Sh.mH,abC,aX ja,aX jb,aaS,if_false,cK (l:=Q ++ [p]) (m:=[cu.mk t (j:Int) [a[j]] [b[j]]]) (bytes:=64) (by simp;omega) (by simp;omega),aR,Sh.mG,ij hk adr])
  (by
   intro P ⟨hP,hW⟩
   rw[abV,hF]at hP
   exact⟨.inl (P,Ae P),by simp[Sh.mI],Ae P,by rw[hP];rfl⟩) D.length 0 [] adr ⟨by simp[pg],⟨aah _,fun p hp=>by cases hp⟩⟩
 obtain⟨g,hg,s,e⟩:=key
 subst e
 unfold Sh.rU
 rw[CV h hn,aaS,hd]
 exact bK hg rfl
end Go.Sp
end
section
namespace Go.Sp
open Go Go.Fw Go.Fx Go.Proofs
structure jl(x:bj):Prop where
 b_:x.b_.length≤1099511627776
 ah:x.ah.length≤1099511627776
 each:∀ t∈x.ah,t.length≤1099511627776
 bf:x.bf.length≤1099511627776
def iW(x:bj):Prop:=(0≤x.at_∧x.at_≤4095)∧(0≤x.steps∧x.steps≤4294967296)∧y8 ⟨x.b_,x.ah⟩
theorem jX(x:bj):qf (Sh.hN x) (iW x):=by
 unfold Sh.hN iW y8
 simp only[dL,aaS]
 by_cases c1:0≤x.at_∧x.at_≤4095
 ·by_cases c2:0≤x.steps∧x.steps≤4294967296
  ·rw[abf c1,abf c2]
   simp only[abA]
   by_cases c3:x.b_.length≤65535
   ·have d3:decide ((65535:Int)<(x.b_.length:Int))=false:=abg adr
    by_cases c4:x.ah.length≤8
    ·have d4:decide ((x.ah.length:Int)≤8)=true:=abf adr
     simp only[d3,aR,Sh.hA,abD,abA,d4]
     obtain⟨g,e1,e2⟩:=bY (body:=fun(v:Int)=>Sh.hD x v) x.ah.length (fun k (a:Unit)=>(k:Int)) (fun k a=>∀ j,j<k → ∀ h:j<x.ah.length,(x.ah[j]).length≤65535)
      (fun g=>(g=inl () ∧ ∀ t∈x.ah,t.length≤65535)∨(∃ k:Nat,g=inr (inl (k:Int))) ∧ ¬ ∀ t∈x.ah,t.length≤65535)
      (fun k a hk hI=>by
       simp only[Sh.hD,bV,hk,decide_true,abA,aX hk,aaS,aR,Sh.oV]
       by_cases c3:(x.ah[k]).length≤65535
       ·left
        have d3:decide ((65535:Int)<((x.ah[k]).length:Int))=false:=abg adr
        refine⟨(),by rw[d3,abC,ij hk adr],fun j hj h=>?_⟩
        by_cases e:j=k
        ·subst e;exact c3
        ·exact hI j adr h
       ·right
        have d3:decide ((65535:Int)<((x.ah[k]).length:Int))=true:=abf adr
        exact⟨_,by rw[d3,abA],.inr ⟨⟨k,rfl⟩,fun h=>c3 (h _ (abz hk))⟩⟩)
      (fun a hI=>⟨inl (),by simp[Sh.hD],.inl ⟨rfl,oP.1 hI⟩⟩) x.ah.length 0 () adr (fun j hj=>by omega)
     rw[show Fx.loop (fun HS=>Sh.hD x HS) 0=some g from e1]
     rcases e2 with⟨rfl,ha⟩|⟨⟨k,rfl⟩,ha⟩
     ·exact⟨true,rfl,by simp only[true_iff];exact⟨c1,c2,c3,c4,ha⟩⟩
     ·refine⟨false,?_,by simp only[abQ,false_iff];exact fun h=>ha h.2.2.2.2⟩
      have dk:decide (0≤(k:Int))=true:=abf adr
      simp only[nA,aR,Sh.oU,dk,Sh.oT,Sh.hC,Sh.gZ,Sh.hB,abB]
    ·have d4:decide ((x.ah.length:Int)≤8)=false:=abg adr
     exact⟨false,by simp only[d3,aR,Sh.hA,abD,abA,d4,abC,Sh.hC,Sh.gZ,Sh.hB],by simp only[abQ,false_iff];exact fun h=>c4 h.2.2.2.1⟩
   ·have d3:decide ((65535:Int)<(x.b_.length:Int))=true:=abf adr
    exact⟨false,by simp only[d3,aR,Sh.hA,abB,abC,Sh.hC,Sh.gZ,Sh.hB],by simp only[abQ,false_iff];exact fun h=>c3 h.2.2.1⟩
  ·rw[abf c1,abg c2]
   exact⟨false,rfl,by simp only[abQ,false_iff];exact fun h=>c2 h.2.1⟩
 ·rw[abg c1]
  exact⟨false,rfl,by simp only[abQ,false_iff];exact fun h=>c1 h.1⟩
def vS(x y:bj):Prop:=∀ i,i<x.ah.length → ∀ (h:i<x.ah.length) (k:i<y.ah.length),(x.ah[i]).length=(y.ah[i]).length
def Jp(x y:bj):Prop:=∀ i,i<x.bf.length → ∀ (h:i<x.bf.length) (k:i<y.bf.length),x.bf[i]=y.bf[i]
structure Jj(x y:bj):Prop where
 pI:x.done=false
 steps:y.steps=IntKind.i64.wrap (x.steps+1)
 b_:x.b_.length=y.b_.length
 ah:x.ah.length=y.ah.length
 lens:vS x y
 D6:x.bf.length≤y.bf.length
 D7:y.bf.length≤x.bf.length+1
 bf:Jp x y
theorem JK(x y:bj)(hx:jl x)(hy:jl y):qf (Sh.wB x y) (Jj x y):=by
 have no:∀ P:Prop,(P→False)→qf (some false) P:=fun P h=>⟨false,rfl,by simp only[abQ,false_iff];exact h⟩
 unfold Sh.wB
 cases c1:x.done
 case true=>exact no _ fun h=>by have:=h.pI;rw[c1]at this;cases this
 simp only[abC]
 by_cases c2:y.steps=IntKind.i64.wrap (x.steps+1)
 case neg=>rw[abg c2];exact no _ fun h=>c2 h.steps
 rw[abf c2]
 simp only[abB,abC]
 by_cases c3:x.b_.length=y.b_.length
 case neg=>rw[abg adr];exact no _ fun h=>c3 h.b_
 rw[abf adr]
 simp only[abB,abC]
 by_cases c4:x.ah.length=y.ah.length
 case neg=>rw[abg adr];exact no _ fun h=>c4 h.ah
 rw[abf adr]
 simp only[abB,aR,Sh.vK,abC]
 have hxt:=hx.ah
 have hxs:=hx.bf
 have hys:=hy.bf
 obtain⟨g,e1,e2⟩:=scan (body:=fun(v:Int)=>Sh.mA x y v) (ok:=inl ()) (bad:=inr false) x.ah.length (fun i=>∀ (h:i<x.ah.length) (k:i<y.ah.length),(x.ah[i]).length=(y.ah[i]).length) adr (fun i hi=>by
  have hj:i<y.ah.length:=adr
  simp only[Sh.mA,bV,hi,decide_true,abA,aX hi,aX hj,aaS]
  by_cases c:(x.ah[i]).length=(y.ah[i]).length
  ·exact .inl ⟨fun _ _=>c,by rw[abf adr];rfl⟩
  ·exact .inr ⟨fun h=>c (h trivial hj),by rw[abg adr];rfl⟩) (by simp[Sh.mA])
 rw[show Fx.loop (fun Rj=>Sh.mA x y Rj) 0=some g from e1]
 rcases e2 with⟨rfl,c5⟩|⟨rfl,c5⟩
 case inr=>exact no _ fun h=>c5 h.lens
 simp only[aR,Sh.vL,dL,aaS]
 have ew:IntKind.i64.wrap ((y.bf.length:Int)-(x.bf.length:Int))=(y.bf.length:Int)-(x.bf.length:Int):=jg adr
 rw[ew]
 by_cases c6:x.bf.length≤y.bf.length∧y.bf.length≤x.bf.length+1
 case neg=>rw[abg adr];exact no _ fun h=>c6 ⟨h.D6,h.D7⟩
 rw[abf adr]
 have es:Fx.nj y.bf 0 (x.bf.length:Int)=some (y.bf.take x.bf.length):=by
  unfold Fx.nj
  rw[aaJ adr]
  simp
 have el:((y.bf.take x.bf.length).length:Int)=(x.bf.length:Int):=by simp;omega
 simp only[abA,es,aaS,el,decide_true,abB,abC]
 obtain⟨g,e1,e2⟩:=scan (body:=fun(v:Int)=>Sh.mB x (y.bf.take x.bf.length) v) (ok:=inl ()) (bad:=inr (inl false)) x.bf.length (fun i=>∀ (h:i<x.bf.length) (k:i<y.bf.length),x.bf[i]=y.bf[i]) adr (fun i hi=>by
  have hj:i<y.bf.length:=adr
  have hk:i<(y.bf.take x.bf.length).length:=adr
  simp only[Sh.mB,bV,hi,decide_true,abA,aX hi,aX hk,aaS,List.getElem_take]
  by_cases c:x.bf[i]=y.bf[i]
  ·exact .inl ⟨fun _ _=>c,by rw[abf c];rfl⟩
  ·exact .inr ⟨fun h=>c (h trivial hj),by rw[abg c];rfl⟩) (by simp[Sh.mB])
 rw[show Fx.loop (fun Em=>Sh.mB x (y.bf.take x.bf.length) Em) 0=some g from e1]
 rcases e2 with⟨rfl,c7⟩|⟨rfl,c7⟩
 ·exact⟨true,rfl,by simp only[true_iff];exact⟨c1,c2,c3,c4,c5,c6.1,c6.2,c7⟩⟩
 ·exact no _ fun h=>c7 h.bf
def pv(i:Nat)(a b:ak)(T:List dU):List dU:=T ++ [⟨(i:Int),a,b⟩]
def qa(i:Nat)(a b:bn)(T:List eo):List eo:=T ++ [⟨(i:Int),a,b⟩]
theorem pU{X Y:Type}[DecidableEq X]{f:Nat→X→X→List Y→List Y}(hf:∀ i a b T,(f i a b T).length≤T.length+1){a b:List X}(h:a.length=b.length):∀ n,n≤a.length→(jR f a b [] n).length≤n:=by
 intro n
 induction n with
 | zero=>intro _;exact aah _
 | succ n ih =>
  intro hn
  rw[gD f adr adr]
  have:=ih adr
  split
  ·omega
  ·exact aai (hf _ _ _ _) adr
theorem Yh(x y:bj):Fx.loop (fun(v:List dU×Int)=>Sh.kB x y (jq x.bk.l y.bk.l x.bk.l.length) v.1 v.2) ([],0)=some (.inl (jR pv x.bk.l y.bk.l [] 11)):=by
 have h:x.bk.l.length=y.bk.l.length:=by rw[x.bk.len,y.bk.len]
 have h11:=x.bk.len
 have hD:=nH h x.bk.l.length (aah _)
 have hK:=fun k hk=>vG h (k:=k) hk
 have hF:=vI pv [] h x.bk.l.length (aah _)
 generalize hd:jq x.bk.l y.bk.l x.bk.l.length=D at hD hK hF
 obtain⟨g,hg,e⟩:=bY (body:=fun(v:List dU×Int)=>Sh.kB x y D v.1 v.2) D.length (fun k T=>(T,(k:Int))) (fun k T=>T=pg pv x.bk.l y.bk.l (D.take k) []∧T.length≤k) (fun g=>g = .inl (jR pv x.bk.l y.bk.l [] x.bk.l.length))
  (by
   intro k T hk ⟨hT,hl⟩
   obtain⟨j,ej,ja,jb⟩:=hK k hk
   refine .inl ⟨pv j x.bk.l[j] y.bk.l[j] T,?_,by rw[hT,xR pv [] hk ej ja jb],by simp[pv];omega⟩
   simp only[Sh.kB,bV,hk,decide_true,abA,aX hk,aaS,ej,aX ja,aX jb,cK (l:=T) (m:=[dU.mk (j:Int) x.bk.l[j] y.bk.l[j]]) (bytes:=72) (by simp;omega) (by simp;omega),ij hk adr,pv])
  (by
   intro T ⟨hT,hl⟩
   rw[abV,hF]at hT
   exact⟨.inl T,by simp[Sh.kB],by rw[hT]⟩) D.length 0 [] adr ⟨by simp[pg],aah _⟩
 subst e
 rw[h11]at hg
 exact hg
theorem Xv(x y:bj)(T:List dU):Fx.loop (fun(v:List dU×List eo×Int)=>Sh.kC x y (jq x.bp.l y.bp.l x.bp.l.length) v.1 v.2.1 v.2.2) (T,[],0)=some (.inl (T,jR qa x.bp.l y.bp.l [] 32)):=by
 have h:x.bp.l.length=y.bp.l.length:=by rw[x.bp.len,y.bp.len]
 have h11:=x.bp.len
 have hD:=nH h x.bp.l.length (aah _)
 have hK:=fun k hk=>vG h (k:=k) hk
 have hF:=vI qa [] h x.bp.l.length (aah _)
 generalize hd:jq x.bp.l y.bp.l x.bp.l.length=D at hD hK hF
 obtain⟨g,hg,e⟩:=bY (body:=fun(v:List dU×List eo×Int)=>Sh.kC x y D v.1 v.2.1 v.2.2) D.length (fun k C=>(T,C,(k:Int))) (fun k C=>C=pg qa x.bp.l y.bp.l (D.take k) []∧C.length≤k) (fun g=>g = .inl (T,jR qa x.bp.l y.bp.l [] x.bp.l.length))
  (by
   intro k C hk ⟨hT,hl⟩
   obtain⟨j,ej,ja,jb⟩:=hK k hk
   refine .inl ⟨qa j x.bp.l[j] y.bp.l[j] C,?_,by rw[hT,xR qa [] hk ej ja jb],by simp[qa];omega⟩
   simp only[Sh.kC,bV,hk,decide_true,abA,aX hk,aaS,ej,aX ja,aX jb,cK (l:=C) (m:=[eo.mk (j:Int) x.bp.l[j] y.bp.l[j]]) (bytes:=104) (by simp;omega) (by simp;omega),ij hk adr,qa])
  (by
   intro C ⟨hT,hl⟩
   rw[abV,hF]at hT
   exact⟨.inl (T,C),by simp[Sh.kC],by rw[hT]⟩) D.length 0 [] adr ⟨by simp[pg],aah _⟩
 subst e
 rw[h11]at hg
 exact hg
def tabs(A B:List (List UInt8))(P:List cu):Nat→List cu
 | 0=>P
 | k+1=>match A[k]?,B[k]? with
  | some a,some b=>tabs A B P k++grow (k:Int) a b a.length
  | _,_=>tabs A B P k
theorem xB{A B:List (List UInt8)}(P:List cu){k:Nat}(ha:k<A.length)(hb:k<B.length):tabs A B P (k+1)=tabs A B P k++grow (k:Int) A[k] B[k] (A[k]).length:=by
 simp only[tabs,aa9 ha,aa9 hb]
theorem xC{A B:List (List UInt8)}{P:List cu}(hl:A.length=B.length)(he:∀ i (h:i<A.length) (k:i<B.length),(A[i]).length=(B[i]).length)(hA:∀ t∈A,t.length≤65535):∀ k,k≤A.length→(tabs A B P k).length≤P.length+65535*k:=by
 intro k
 induction k with
 | zero=>intro _;simp[tabs]
 | succ k ih =>
  intro hk
  have ha:k<A.length:=adr
  have hb:k<B.length:=adr
  rw[xB P ha hb,ach]
  have h1:=ih adr
  have h2:=(mI (k:Int) (he k ha hb) (A[k]).length (aah _)).few
  have h3:=hA _ (abz ha)
  omega
section
variable {x y:bj}(hl:x.ah.length=y.ah.length)(he:vS x y)(hi:y8 ⟨x.b_,x.ah⟩){P:List cu}(hP:P.length≤65535)
include hl he hi hP
theorem Yi(T:List dU)(C:List eo):Fx.loop (fun(v:List dU×List eo×List cu×Int)=>Sh.kD x y v.1 v.2.1 v.2.2.1 v.2.2.2) (T,C,P,0)=some (.inl (T,C,tabs x.ah y.ah P x.ah.length)):=by
 obtain⟨h1,h2,h3⟩:=hi
 simp only at h1 h2 h3
 have hb:=xC (P:=P) hl (fun i h k=>he i h h k) h3
 obtain⟨g,hg,e⟩:=bY (body:=fun(v:List dU×List eo×List cu×Int)=>Sh.kD x y v.1 v.2.1 v.2.2.1 v.2.2.2) x.ah.length (fun i P'=>(T,C,P',(i:Int))) (fun i P'=>P' = tabs x.ah y.ah P i) (fun g=>g = .inl (T,C,tabs x.ah y.ah P x.ah.length))
  (by
   intro i P' ia hT
   have ib:i<y.ah.length:=adr
   refine .inl ⟨_,?_,rfl⟩
   have hl:=hb i adr
   rw[←hT]at hl
   have hA:=h3 _ (abz ia)
   have hg:=(mI (i:Int) (he i ia ia ib) (x.ah[i]).length (aah _)).few
   rw[xB P ia ib,←hT]
   simp only[Sh.kD,bV,ia,decide_true,abA,aX ia,aX ib,aaS,Gy (i:Int) (he i ia ia ib) adr,cK (l:=P') (m:=grow (i:Int) x.ah[i] y.ah[i] (x.ah[i]).length) (bytes:=64) adr adr,ij ia adr])
  (by
   intro P' hT
   exact⟨.inl (T,C,P'),by simp[Sh.kD],by rw[hT]⟩) x.ah.length 0 P adr rfl
 subst e
 exact hg
end
def jW(x y:bj):dD:=⟨x.at_,y.at_,y.done,jR pv x.bk.l y.bk.l [] 11,jR qa x.bp.l y.bp.l [] 32,tabs x.ah y.ah (grow (-1) x.b_ y.b_ x.b_.length) x.ah.length,y.bf.drop x.bf.length⟩
def noMark:dD:=⟨0,0,false,[],[],[],[]⟩
theorem GY{x y:bj}(h1:x.bf.length≤y.bf.length)(h2:y.bf.length≤x.bf.length+1):(Fx.nj y.bf (x.bf.length:Int) (y.bf.length:Int)).bind (fun z=>Fx.app 8 [] z)=some (y.bf.drop x.bf.length):=by
 unfold Fx.nj
 rw[aaJ adr]
 simp only[aaS,abE]
 rw[acn (by simp),cK (by simp;omega) (by simp;omega)]
 rfl
theorem WA{x y:bj}(hx:jl x)(hy:jl y):(iW x→iW y→Jj x y→Sh.eM x y=some (jW x y,0))∧(iW x→iW y → ¬ Jj x y→Sh.eM x y=some (noMark,231))∧(¬ (iW x∧iW y)→Sh.eM x y=some (noMark,1)):=by
 refine⟨fun p q hb=>?_,fun p q hb=>?_,fun h=>?_⟩
 ·unfold Sh.eM
  simp only[(jX x).true p,(jX y).true q,aaS,abB,abC,aR,Sh.mW,(JK x y hx hy).true hb]
  have hr:x.bk.l.length=y.bk.l.length:=by rw[x.bk.len,y.bk.len]
  have hs:x.bp.l.length=y.bp.l.length:=by rw[x.bp.len,y.bp.len]
  rw[CX hr (by rw[x.bk.len];decide),aaS,show Fx.loop (fun(v:List dU×Int)=>match v with|(MY,MZ)=>Sh.kB x y (jq x.bk.l y.bk.l x.bk.l.length) MY MZ) ([],0)=_ from Yh x y]
  simp only[aR,Sh.Jz]
  rw[CW hs (by rw[x.bp.len];decide),aaS,show Fx.loop (fun(v:List dU×List eo×Int)=>match v with|(M1,M3,M4)=>Sh.kC x y (jq x.bp.l y.bp.l x.bp.l.length) M1 M3 M4) (jR pv x.bk.l y.bk.l [] 11,[],0)=_ from Xv x y _]
  simp only[aR,Sh.yQ]
  have hc:=p.2.2.1
  simp only at hc
  have hg:=(mI (-1) hb.b_ x.b_.length (aah _)).few
  rw[Gy (-1) hb.b_ hx.b_,aaS,show Fx.loop (fun(v:List dU×List eo×List cu×Int)=>match v with|(M_,Na,Nb,Em)=>Sh.kD x y M_ Na Nb Em) (jR pv x.bk.l y.bk.l [] 11,jR qa x.bp.l y.bp.l [] 32,grow (-1) x.b_ y.b_ x.b_.length,0)=_ from Yi hb.ah hb.lens p.2.2 (aai hg hc) _ _]
  simp only[aR,Sh.yR]
  obtain⟨z,hz,e⟩:=acT.1 (GY hb.D6 hb.D7)
  rw[hz,aaS,e,aaS]
  rfl
 ·unfold Sh.eM
  simp only[(jX x).true p,(jX y).true q,aaS,abB,abC,aR,Sh.mW,(JK x y hx hy).false hb,abD,abA]
  rfl
 ·unfold Sh.eM
  by_cases p:iW x
  ·have q:¬ iW y:=fun q=>h ⟨p,q⟩
   simp only[(jX x).true p,(jX y).false q,aaS,abB,abD,abC,abA,aR,Sh.mW]
   rfl
  ·simp only[(jX x).false p,aaS,abD,abA,aR,Sh.mW]
   rfl
end Go.Sp
end
section
namespace Go.Sp
open Go Go.Fw Go.Fx Go.Proofs
theorem fE{x:bj}(h:jl x):Sh.bF x x=some true:=by
 unfold Sh.bF
 simp only[decide_true,abA,Sh.aW,aaS,uZ h.ah,uY h.bf,aR,Sh.pD]
end Go.Sp
end
section
namespace Go.Sp
open Go Go.Fw Go.Fx Go.Proofs
section
variable {X Y:Type}{key:Y→Nat}{val old:Y→X}
def qq(key:Y→Nat)(val:Y→X)(l:List X)(T:List Y):List X:=T.foldl (fun v t=>v.set (key t) (val t)) l
theorem nM{l:List X}{T:List Y}{j:Nat}(h:∀ t∈T,key t≠j):(qq key val l T)[j]? = l[j]?:=by
 unfold qq
 induction T generalizing l with
 | nil=>rfl
 | cons t T ih =>
  rw[acE,ih fun u hu=>h u (aaZ _ hu),ab1,aaK (h t (aa3 ..))]
theorem yJ{l:List X}{T:List Y}(hd:T.Pairwise (fun a b=>key a≠key b)){t:Y}(ht:t∈T)(hl:key t<l.length):(qq key val l T)[key t]? = some (val t):=by
 induction T generalizing l with
 | nil=>cases ht
 | cons u T ih =>
  rw[aa4]at hd
  have e:qq key val l (u::T)=qq key val (l.set (key u) (val u)) T:=rfl
  rw[e]
  rcases aaY.1 ht with rfl|ht
  ·rw[nM fun v hv=>(hd.1 v hv).symm,ab1,aaJ rfl,aaJ hl]
  ·exact ih hd.2 ht (by rw[abT];exact hl)
end
section
variable {Y:Type}{key:Y→Int}
theorem X3{T:List Y}{R:Y→Y→Prop}(tr:∀ a b c,R a b→R b c→R a c)(h:∀ i (k:0<i) (hi:i<T.length),R (T[i-1]'adr) T[i]):T.Pairwise R:=by
 rw[aa0]
 intro i j hi hj hij
 induction j with
 | zero=>omega
 | succ j ih =>
  have h1:=h (j+1) adr hj
  simp only[ab8]at h1
  by_cases c:i=j
  ·subst c;exact h1
  ·exact tr _ _ _ (ih adr adr) h1
end
end Go.Sp
end
section
namespace Go.Sp
open Go Go.Fw Go.Fx Go.Proofs
abbrev kp(p:cu):Nat:=(p.table+1).toNat
abbrev fp(p:cu):Nat:=p.from_.toNat
abbrev wd(p:cu):Nat:=p.old.length
def bt(M:List (List UInt8))(k j:Nat):Option UInt8:=(M[k]?).bind (fun b=>b[j]?)
def zI(val:cu→List UInt8)(M:List (List UInt8))(p:cu):List (List UInt8):=M.set (kp p) (put (pk M (kp p)) (fp p) (val p))
def o8(val:cu→List UInt8)(M:List (List UInt8))(P:List cu):List (List UInt8):=P.foldl (zI val) M
def kj(M:List (List UInt8))(p:cu):Prop:=∃ b,M[kp p]? = some b∧fp p+wd p≤b.length
def EH(p:cu)(k j:Nat):Prop:=kp p=k∧fp p≤j∧j<fp p+wd p
def oz(val:cu→List UInt8)(M:List (List UInt8))(p:cu):Prop:=∃ b,M[kp p]? = some b∧fp p+(val p).length≤b.length∧(b.drop (fp p)).take (val p).length=val p
theorem wO{α:Type}{l vs:List α}{i:Nat}(h:i+vs.length≤l.length):(put l i vs).length=l.length:=by simp[put];omega
theorem JO{α:Type}{l vs:List α}{i:Nat}(h:i+vs.length≤l.length)(j:Nat):(put l i vs)[j]? = if i≤j∧j<i+vs.length then vs[j-i]? else l[j]?:=by
 unfold put
 simp only[acR,ach,abO,aaG,aaH]
 repeat' split
 all_goals first|rfl|omega|(congr 1;omega)|skip
theorem WE{M M':List (List UInt8)}(hl:M.map List.length=M'.map List.length)(h:∀ k j,bt M k j=bt M' k j):M=M':=by
 have e:M.length=M'.length:=by simpa using congrArg List.length hl
 apply abr 
 intro k
 by_cases c:k<M.length
 ·rw[aa9 c,aa9 (e ▸ c)]
  congr 1
  apply abr
  intro j
  have:=h k j
  simpa[bt,aa9 c,aa9 (e ▸ c)]using this
 ·rw[aaf adr,aaf adr]
theorem XK{M M':List (List UInt8)}(hl:M.map List.length=M'.map List.length){k:Nat}{b:List UInt8}(h:M[k]? = some b):∃ b',M'[k]? = some b' ∧ b'.length=b.length:=by
 have h1:(M.map List.length)[k]? = some b.length:=by rw[aby,h];rfl
 rw[hl,aby]at h1
 cases h2:M'[k]? with
 | none=>rw[h2]at h1;cases h1
 | some b'=>rw[h2]at h1;exact⟨b',rfl,by simpa using h1⟩
theorem N5{M:List (List UInt8)}{k:Nat}{b:List UInt8}(h:M[k]? = some b):pk M k=b:=by simp[pk,h]
section
variable {val:cu→List UInt8}{M:List (List UInt8)}{P:List cu}{p:cu}
theorem kj.shape{M':List (List UInt8)}(h:kj M p)(hl:M.map List.length=M'.map List.length):kj M' p:=by
 obtain⟨b,h1,h2⟩:=h
 obtain⟨b',h3,h4⟩:=XK hl h1
 exact⟨b',h3,adr⟩
theorem sI(h:kj M p)(hv:(val p).length=wd p):(zI val M p).map List.length=M.map List.length:=by
 obtain⟨b,h1,h2⟩:=h
 unfold zI
 rw[N5 h1,List.map_set,wO adr]
 apply abr
 intro j
 rw[ab1]
 split
 ·rename_i e;subst e
  rw[aby,h1]
  have:=(aaz.1 h1).1
  rw[aaJ (by simpa using this)];rfl
 ·rfl
theorem S4(h:kj M p)(hv:(val p).length=wd p)(k j:Nat):bt (zI val M p) k j=if kp p=k∧fp p≤j∧j<fp p+wd p then(val p)[j-fp p]? else bt M k j:=by
 obtain⟨b,h1,h2⟩:=h
 have hk:=(aaz.1 h1).1
 unfold zI bt
 rw[N5 h1,ab1]
 by_cases c:kp p=k
 ·subst c
  rw[aaJ rfl,aaJ hk,h1]
  show(put b (fp p) (val p))[j]? = _
  rw[JO adr,hv]
  by_cases c2:fp p≤j∧j<fp p+wd p
  ·rw[aaJ c2,aaJ ⟨rfl,c2⟩]
  ·rw[aaK c2,aaK fun e=>c2 e.2];rfl
 ·rw[aaK c,aaK fun e=>c e.1]
theorem qU(h:∀ p∈P,kj M p)(hv:∀ p∈P,(val p).length=wd p):(o8 val M P).map List.length=M.map List.length:=by
 unfold o8
 induction P generalizing M with
 | nil=>rfl
 | cons p P ih =>
  have e:=sI (h p (aa3 ..)) (hv p (aa3 ..))
  rw[acE,ih (fun q hq=>(h q (aaZ _ hq)).shape e.symm) fun q hq=>hv q (aaZ _ hq),e]
theorem pM(h:∀ p∈P,kj M p)(hv:∀ p∈P,(val p).length=wd p){k j:Nat}(hu:∀ p∈P,¬ EH p k j):bt (o8 val M P) k j=bt M k j:=by
 unfold o8
 induction P generalizing M with
 | nil=>rfl
 | cons p P ih =>
  have h1:=h p (aa3 ..)
  have h2:=hv p (aa3 ..)
  rw[acE,ih (fun q hq=>(h q (aaZ _ hq)).shape (sI h1 h2).symm) (fun q hq=>hv q (aaZ _ hq)) (fun q hq=>hu q (aaZ _ hq)),S4 h1 h2]
  exact aaK fun e=>hu p (aa3 ..) e
def Rz(p q:cu):Prop:=∀ k j,EH p k j → ¬ EH q k j
theorem xU(h:∀ p∈P,kj M p)(hv:∀ p∈P,(val p).length=wd p)(hd:P.Pairwise Rz)(hp:p∈P){k j:Nat}(hc:EH p k j):bt (o8 val M P) k j=(val p)[j-fp p]?:=by
 induction P generalizing M with
 | nil=>cases hp
 | cons q P ih =>
  have h1:=h q (aa3 ..)
  have h2:=hv q (aa3 ..)
  have h3:∀ p∈P,kj (zI val M q) p:=fun q' hq=>(h q' (aaZ _ hq)).shape (sI h1 h2).symm
  have h4:∀ p∈P,(val p).length=wd p:=fun q' hq=>hv q' (aaZ _ hq)
  rw[aa4]at hd
  have e:o8 val M (q::P)=o8 val (zI val M q) P:=rfl
  rw[e]
  rcases aaY.1 hp with rfl|hp
  ·rw[pM h3 h4 fun u hu=>hd.1 u hu k j hc,S4 h1 h2];exact aaJ hc
  ·exact ih h3 h4 hd.2 hp
theorem oz.room(h:oz val M p)(hv:(val p).length=wd p):kj M p:=by
 obtain⟨b,h1,h2,h3⟩:=h;exact⟨b,h1,adr⟩
theorem oz.bt(h:oz val M p){k j:Nat}(hv:(val p).length=wd p)(hc:EH p k j):bt M k j=(val p)[j-fp p]?:=by
 obtain⟨b,h1,h2,h3⟩:=h
 obtain⟨rfl,c2,c3⟩:=hc
 rw[←h3]
 simp only[Go.Sp.bt,h1,aaS,aaG,aaH]
 rw[aaJ adr]
 congr 1;omega
theorem oz.of(h:kj M p)(hv:(val p).length=wd p)(hb:∀ k j,EH p k j→Go.Sp.bt M k j=(val p)[j-fp p]?):oz val M p:=by
 obtain⟨b,h1,h2⟩:=h
 refine⟨b,h1,adr,?_⟩
 apply abr
 intro j
 rw[aaG,aaH]
 split
 ·rename_i c
  have:=hb (kp p) (fp p+j) ⟨rfl,adr,adr⟩
  rw[show fp p+j-fp p=j by omega]at this
  simpa[Go.Sp.bt,h1]using this
 ·rename_i c;rw[aaf adr]
end
section
variable {t:Int}{a b:List UInt8}
structure rm(t:Int)(a b:List UInt8)(p:cu):Prop where
 table:p.table=t
 nh:0≤p.from_
 pos:0<wd p
 room:fp p+wd p≤a.length
 eq:p.new.length=wd p
 df:Differ p.old p.new
 old:(a.drop (fp p)).take (wd p)=p.old
 new:(b.drop (fp p)).take (wd p)=p.new
theorem rm.ne{p:cu}(h:rm t a b p)(hl:a.length=b.length){k:Nat}(h1:fp p≤k)(h2:k<fp p+wd p):a[k]? ≠ b[k]?:=by
 have hw:wd p=p.old.length:=rfl
 have h3:=h.df (k-fp p) adr
 have:=h.room
 have ha:k<a.length:=adr
 have hb:k<b.length:=adr
 intro e
 apply h3
 rw[←h.new,←h.old]
 simp only[List.getD,aaG,aaH]
 rw[show fp p+(k-fp p)=k by omega,e]
end
end Go.Sp
end
section
namespace Go.Sp
open Go Go.Fw Go.Fx Go.Proofs
theorem kC{P:Prop}(h:P→False):qf (some false) P:=⟨false,rfl,by simp only[abQ,false_iff];exact h⟩
theorem EL{P:Prop}(h:P):qf (some true) P:=⟨true,rfl,by simp only[true_iff];exact h⟩
structure mS(m:dD):Prop where
 at_:0≤m.at_∧m.at_≤4095
 next:0≤m.next∧m.next≤4095
 bf:m.bf.length≤1
 bk:xT m m.bk.length
 slots:vj m m.slots.length
 dE:uX m.dE m.dE.length
theorem sV{m:dD}(h:pz m):qf (Sh.cP m) (mS m):=by
 obtain⟨g1,e1,c1⟩:=Wx h.1
 obtain⟨g2,e2,c2⟩:=VO h.2.1
 obtain⟨g3,e3,c3⟩:=Ju h.2.2.1
 unfold Sh.cP
 simp only[dL,aaS]
 by_cases d1:0≤m.at_∧m.at_≤4095
 case neg =>
  rw[abg d1]
  exact kC fun k=>d1 k.at_
 by_cases d2:0≤m.next∧m.next≤4095
 case neg =>
  rw[abf d1,abg d2]
  exact kC fun k=>d2 k.next
 by_cases d3:m.bf.length≤1
 case neg =>
  rw[abf d1,abf d2,abf adr]
  exact kC fun k=>d3 k.bf
 rw[abf d1,abf d2,abg adr]
 simp only[abB,abC,aR,Sh.cY]
 rw[show Fx.loop (fun(v:Int×Int)=>match v with|(M7,M8)=>Sh.bM m M7 M8) (0,-1)=some g1 from e1]
 rcases c1 with⟨rfl,d4⟩|⟨rfl,d4⟩
 case inr=>exact kC fun k=>d4 k.bk
 simp only[aR,Sh.cZ]
 rw[show Fx.loop (fun(v:Int×Int)=>match v with|(Nc,Nh)=>Sh.bN m Nc Nh) (-1,0)=some g2 from e2]
 rcases c2 with⟨rfl,d5⟩|⟨rfl,d5⟩
 case inr=>exact kC fun k=>d5 k.slots
 simp only[aR,Sh.dA,Sh.eB]
 rw[show Fx.loop (fun(v:Int×Int×Int)=>match v with|(v1,v2,v3)=>Sh.aK m.dE v1 v2 v3) (0,-1,0)=some g3 from e3]
 rcases c3 with⟨rfl,d6⟩|⟨rfl,d6⟩
 case inr=>exact kC fun k=>d6 k.dE
 exact EL ⟨d1,d2,d3,d4,d5,d6⟩
theorem mS.reg{m:dD}(h:mS m):∀ t∈m.bk,0≤t.reg∧t.reg≤10∧t.old≠t.new:=fun t ht=>by
 obtain⟨i,hi,rfl⟩:=ab2.1 ht
 have:=h.bk i hi hi
 exact⟨this.lo,this.hi,this.un⟩
theorem mS.slot{m:dD}(h:mS m):∀ t∈m.slots,0≤t.slot∧t.slot≤31∧t.old≠t.new:=fun t ht=>by
 obtain⟨i,hi,rfl⟩:=ab2.1 ht
 have:=h.slots i hi hi
 exact⟨this.lo,this.hi,this.un⟩
structure x8(p:cu):Prop where
 lo : -1≤p.table
 hi:p.table≤7
 nh:0≤p.from_
 ne:0<wd p
 eq:p.new.length=wd p
 top:p.from_+(wd p:Int)≤65535
 df:Differ p.old p.new
theorem mS.piece{m:dD}(h:mS m):∀ p∈m.dE,x8 p:=fun p hp=>by
 obtain⟨i,hi,rfl⟩:=ab2.1 hp
 have:=h.dE i hi hi
 exact⟨this.lo,this.hi,this.nh,Nat.pos_of_ne_zero this.ne,this.eq,this.top,this.df⟩
def Behind(p q:cu):Prop:=p.table<q.table∨(p.table=q.table∧p.from_+(wd p:Int)<q.from_)
theorem mS.pieces_pw{m:dD}(h:mS m):m.dE.Pairwise Behind :=
 X3 (R:=Behind) (fun a b c h1 h2=>by unfold Behind at *; omega) fun i k hi=>(h.dE i hi hi).up k
theorem mS.apart{m:dD}(h:mS m):m.dE.Pairwise Rz:=by
 refine List.Pairwise.imp_of_mem ?_ h.pieces_pw
 intro p q hp hq hb k j h1 h2
 have a:=h.piece p hp
 have b:=h.piece q hq
 obtain⟨c1,c2,c3⟩:=h1
 obtain⟨c4,c5,c6⟩:=h2
 have:=a.lo;have:=b.lo;have:=a.nh;have:=b.nh
 unfold Behind at hb
 simp only[kp,fp]at *
 omega
def Ag(t:dU):dU:=⟨t.reg,t.new,t.old⟩
def Af(t:eo):eo:=⟨t.slot,t.new,t.old⟩
def uz(p:cu):cu:=⟨p.table,p.from_,p.new,p.old⟩
def turn(m:dD):dD:=⟨m.next,m.at_,false,m.bk.map Ag,m.slots.map Af,m.dE.map uz,[]⟩
theorem Differ.symm{x y:List UInt8}(h:Differ x y)(hl:y.length=x.length):Differ y x:=fun i hi e=>h i adr e.symm
theorem mS.turn{m:dD}(h:mS m):mS (turn m):=by
 refine⟨h.next,h.at_,aaF _,?_,?_,?_⟩
 ·intro i hi hi'
  have hj:i<m.bk.length:=by simpa[Sp.turn]using hi
  have:=h.bk i hj hj
  refine⟨by simpa[Sp.turn,Ag]using this.lo,by simpa[Sp.turn,Ag]using this.hi,?_,fun k=>by simpa[Sp.turn,Ag]using this.up k⟩
  have:=this.un
  simpa[Sp.turn,Ag]using fun e=>this e.symm
 ·intro i hi hi'
  have hj:i<m.slots.length:=by simpa[Sp.turn]using hi
  have:=h.slots i hj hj
  refine⟨by simpa[Sp.turn,Af]using this.lo,by simpa[Sp.turn,Af]using this.hi,?_,fun k=>by simpa[Sp.turn,Af]using this.up k⟩
  have:=this.un
  simpa[Sp.turn,Af]using fun e=>this e.symm
 ·intro i hi hi'
  have hj:i<m.dE.length:=by simpa[Sp.turn]using hi
  have o:=h.dE i hj hj
  have e:(Sp.turn m).dE[i]=uz m.dE[i]:=by simp[Sp.turn]
  refine⟨by rw[e];exact o.lo,by rw[e];exact o.hi,by rw[e];exact o.nh,by rw[e];simp only[uz];rw[o.eq];exact o.ne,by rw[e];simp only[uz];exact o.eq.symm,by rw[e];simp only[uz];rw[o.eq];exact o.top,by rw[e];simp only[uz];exact o.df.symm o.eq,fun k=>?_⟩
  have hj':i-1<m.dE.length:=adr
  have e':(Sp.turn m).dE[i-1]'adr=uz (m.dE[i-1]):=by simp[Sp.turn]
  have:=o.up k
  have eq':=(h.dE (i-1) hj' hj').eq
  rw[e,e']
  simp only[uz]
  rw[eq']
  exact this
theorem pz.turn{m:dD}(h:pz m):pz (turn m):=⟨by simpa[Sp.turn]using h.1,by simpa[Sp.turn]using h.2.1,by simpa[Sp.turn]using h.2.2.1,aaF _⟩
theorem wL{σ γ X Y:Type}{body:σ→Option (σ⊕γ)}(l:List X)(f:X→Y)(st:List Y→Int→σ)(g:List Y→γ)(hn:l.length≤4611686018427387904)
  (h:∀ (i:Nat) (hi:i<l.length) T,T.length=i→body (st T (i:Int))=some (.inl (st (T ++ [f l[i]]) (IntKind.i64.wrap ((i:Int)+1))))) (h':∀ T,body (st T (l.length:Int))=some (.inr (g T))):Fx.loop body (st [] 0)=some (g (l.map f)):=by
 obtain⟨o,e,rfl⟩:=bY (body:=body) l.length (fun i T=>st T (i:Int)) (fun i T=>T=(l.take i).map f) (fun o=>o=g (l.map f)) (fun i T hi hT=>.inl ⟨T ++ [f l[i]],by
   rw[h i hi T (by rw[hT];simp;omega),ij hi hn],by
   rw[hT,abI,aa9 hi,abo];rfl⟩) (fun T hT=>⟨_,h' T,by rw[hT,abV]⟩) l.length 0 [] adr (by simp)
 exact e
end Go.Sp
end
