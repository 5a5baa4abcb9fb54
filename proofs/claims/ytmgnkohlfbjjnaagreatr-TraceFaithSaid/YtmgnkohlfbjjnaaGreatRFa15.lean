/- Ground for the claim TraceFaith. -/
import Derived.Deep.Slices
import Derived.Test.YtmgnkohlfbjjnaaGreatRFa14
set_option linter.unusedVariables false
set_option linter.unusedSimpArgs false
open Sum
section
namespace Go.Fw
open Go.ChangeShapes Go.WideShapes Go.ChangeAt Go.RowKit Go.Fx
section
variable {H:Type}{enc:TypeId×Value→H}{P:Program}{W:World}
structure x5(B:DataW H→Nat)(BA:List (DataW H)→Nat):Prop where
 nil:BA []=0
 cons:∀ d r,BA (d::r)=B d+BA r
 slice:∀ es sp,BA es+1≤B (.slice es sp)
 agg:∀ ps,BA ps+1≤B (.agg ps)
 one:∀ d,1≤B d
theorem x5.append{B:DataW H→Nat}{BA:List (DataW H)→Nat}(h:x5 B BA)(l m:List (DataW H)):BA (l++m)=BA l+BA m:=by
 induction l with
 | nil=>simp[h.nil]
 | cons d l ih=>rw[aad,h.cons,h.cons,ih];omega
def Opn(enc:TypeId×Value→H)(P:Program)(W:World)(B:DataW H→Nat)(t:TypeId){X Q:Type}[d_ X](rel:X→Q→Prop)(sz:Q→Nat)(ok:Q→Prop):Prop :=
 ∀ (fuel:Nat) (cs:List Value) (x:DataW H×List MemPlace),DataW.trod enc P W 0 (fun _=>true) true fuel t cs=some x → ∃ (y:X) (q:Q),cs=d_.enc y∧rel y q∧sz q≤B x.1∧ok q
theorem WU{a:Addr}{v:Value}(h:W.cell? a=some v):a.spot=none:=by
 unfold World.cell? at h
 cases hs:a.spot with
 | none=>rfl
 | some k =>
  rw[hs]at h
  split at h<;>simp at h
theorem V6{X:Type}[d_ X]{b off:Nat}{l:List X}{x:X}(h:jj W b off (encs l))(k:jj W b (off+l.length*d_.sz X) (d_.enc x)):jj W b off (encs (l ++ [x])):=by
 intro j v hj
 rw[dW,wG]at hj
 by_cases hl:j<(encs l).length
 ·rw[abk hl]at hj;exact h j v hj
 ·rw[abl adr]at hj
  rw[dM]at hl hj
  have:=k _ _ hj
  rwa [show off+l.length*d_.sz X+(j-l.length*d_.sz X)=off+j by omega]at this
variable {B:DataW H→Nat}{BA:List (DataW H)→Nat}
theorem eV{t:TypeId}(hB:x5 B BA)(ht:P.underlying t=some (.int .i64)):Opn enc P W B t (X:=Int) (Q:=Int) Eq (fun _=>1) (fun x=>-9223372036854775808≤x∧x≤9223372036854775807):=by
 intro fuel cs x h
 obtain⟨n,rfl,rfl,hw⟩:=DataW.trod_int ht h
 refine⟨n,n,rfl,rfl,hB.one _,?_⟩
 simp only[Lit.wf,aaB,aa6]at hw
 exact hw
theorem XW{t:TypeId}(hB:x5 B BA)(ht:P.underlying t=some (.int .u8)):Opn enc P W B t (X:=UInt8) (Q:=UInt8) Eq (fun _=>1) (fun _=>True):=by
 intro fuel cs x h
 obtain⟨n,rfl,rfl,hw⟩:=DataW.trod_int ht h
 simp only[Lit.wf,aaB,aa6]at hw
 have hb:0≤n∧n≤255:=hw
 refine⟨UInt8.ofNat n.toNat,UInt8.ofNat n.toNat,?_,rfl,hB.one _,trivial⟩
 show [Value.int .u8 n] = [Value.int .u8 ((UInt8.ofNat n.toNat).toNat:Int)]
 have:((UInt8.ofNat n.toNat).toNat:Int)=n:=by
  rw[UInt8.toNat_ofNat']
  have:n.toNat%2^8=n.toNat:=abm adr
  rw[this];omega
 rw[this]
theorem wN{t:TypeId}(ht:P.underlying t=some .bool){fuel:Nat}{cs:List Value}{x:DataW H×List MemPlace}(h:DataW.trod enc P W 0 (fun _=>true) true fuel t cs=some x):∃ b,cs = [.bool b]:=by
 cases fuel with
 | zero=>simp[DataW.trod]at h
 | succ n =>
  unfold DataW.trod at h
  rw[ht]at h
  split at h<;>simp_all
def Jh{Q:Type}(sz:Q→Nat)(l:List Q):Nat:=(l.map sz).sum+1
theorem pJ{t e:TypeId}{X Q:Type}[d_ X]{rel:X→Q→Prop}{sz:Q→Nat}{ok:Q→Prop}(hB:x5 B BA)(ht:P.underlying t=some (.slice e))(hc:P.cellsOf e=d_.sz X)(O:Opn enc P W B e rel sz ok) :
  Opn enc P W B t (X:=SV) (Q:=List Q) (fun s l=>∃ hs:List X,cn (gw [] W) s hs∧bw rel hs l) (Jh sz) (fun l=>∀ q∈l,ok q):=by
 intro fuel cs x h
 rcases Go.Deep.open_slice ht h with⟨rfl,rfl⟩|⟨a,len,cap,m,n,D,Pl,rfl,hb,hl,hm,Ul,rfl,hx⟩
 ·exact⟨SV.nil,[],rfl,⟨[],cn.nil,bw.nil⟩,by simpa[Jh]using hB.one _,fun q hq=>by simp at hq⟩
 ·simp only[if_true]at Ul
  have PL:=Ul.symm
  subst PL
  have key:∀ k,k≤len → ∃ (hs:List X) (l:List Q),hs.length=k∧bw rel hs l∧jj W a.block a.off (encs hs)∧(l.map sz).sum≤BA ((List.range k).map D)∧(∀ q∈l,ok q)∧(hs = []∨a.spot=none):=by
   intro k
   induction k with
   | zero=>intro _;exact⟨[],[],rfl,bw.nil,fun j v hj=>by simp[jS]at hj,by simp[hB.nil],fun q hq=>by simp at hq,.inl rfl⟩
   | succ k ih =>
    intro hk
    obtain⟨hs,l,h1,h2,h3,h4,h5,h6⟩:=ih adr
    obtain⟨cs',c1,c2⟩:=hx k adr
    obtain⟨y,q,rfl,r1,r2,r3⟩:=O _ _ _ c2
    have r2:sz q≤B (D k):=r2
    rw[hc]at c1
    obtain⟨_,hlen,Dh⟩:=World.cells?_some c1
    have hpos:=d_.pos (X:=X)
    have I4:=d_.len y
    have hcell:∀ j v,(d_.enc y)[j]? = some v→W.cell? ((a.add (k*d_.sz X)).add j)=some v:=fun j v hj=>by
     have hj':j<d_.sz X:=by rw[←I4];exact(aaz.1 hj).1
     have:=Dh j hj'
     rw[hj]at this
     exact this
    have Dm:a.spot=none:=by
     by_cases hk0:k=0
     ·subst hk0
      have h0:∃ v,(d_.enc y)[0]? = some v:=⟨_,aa9 (by rw[I4];exact hpos)⟩
      obtain⟨v,hv⟩:=h0
      have:=WU (hcell 0 v hv)
      simpa[Addr.add]using this
     ·rcases h6 with h6|h6
      ·subst h6;simp at h1;omega
      ·exact h6
    refine⟨hs ++ [y],l ++ [q],by simp[h1],h2.snoc r1,V6 h3 ?_,?_,?_,.inr Dm⟩
    ·intro j v hj
     have:=hcell j v hj
     obtain⟨ab,ao,asp⟩:=a
     simp only at Dm
     subst Dm
     rw[dY,dY]at this
     rw[h1];exact this
    ·have e:(List.range (k+1)).map D=(List.range k).map D ++ [D k]:=by rw[abn,abo];rfl
     rw[e,hB.append]
     simp only[abo,List.sum_append,abp,abq,List.sum_cons,List.sum_nil,hB.cons,hB.nil]
     omega
    ·intro q' yL
     rcases aaR.1 yL with yL|yL
     ·exact h5 _ yL
     ·simp at yL;subst yL;exact r3
  obtain⟨hs,l,h1,h2,h3,h4,h5,h6⟩:=key len (aah _)
  have hS:cH 0 W ⟨some a,len,cap⟩ hs:=⟨h1.symm,hl,h6,aaF _,h3⟩
  refine⟨⟨some a,len,cap⟩,l,rfl,⟨hs,fun w k=>hS.keep k,h2⟩,?_,h5⟩
  have:=hB.slice ((List.range len).map D) ((List.range (cap-len)).map fun j=>D (len+j))
  simp only[Jh];omega
theorem Yk{X:Type}{hs l:List X}(h:bw Eq hs l):hs=l:=by
 apply abr 
 intro i
 by_cases hi:i<l.length
 ·obtain⟨x,h1,h2⟩:=Go.Fx.bw.getr h (aa9 hi)
  rw[h1,h2,aa9 hi]
 ·have:=h.len
  rw[aaf adr,aaf adr]
theorem pH{t e:TypeId}{X:Type}[d_ X]{sz:X→Nat}{ok:X→Prop}(hB:x5 B BA)(ht:P.underlying t=some (.slice e))(hc:P.cellsOf e=d_.sz X)(O:Opn enc P W B e (X:=X) Eq sz ok) :
  Opn enc P W B t (X:=SV) (Q:=List X) (fun s l=>cn (gw [] W) s l) (Jh sz) (fun l=>∀ q∈l,ok q):=by
 intro fuel cs x h
 obtain⟨y,q,h1,⟨hs,h2,h3⟩,h4,h5⟩:=pJ hB ht hc O fuel cs x h
 rw[Yk h3]at h2
 exact⟨y,q,h1,h2,h4,h5⟩
theorem VP{t:TypeId}{fs:Array Field}(ht:P.underlying t=some (.struct fs)){fuel:Nat}{cs:List Value}{x:DataW H×List MemPlace}(h:DataW.trod enc P W 0 (fun _=>true) true fuel t cs=some x) :
  ∃ (xs:List (DataW H×List MemPlace)) (n:Nat),x.1 = .agg (xs.map (·.1))∧cs.length=P.cellsOf t∧xs.length=fs.size ∧
   ∀ (i:Nat) (f:Field),fs[i]? = some f→DataW.trod enc P W 0 (fun _=>true) true n f.type ((cs.drop f.offset).take (P.cellsOf f.type))=xs[i]?:=by
 obtain⟨xs,n,_,rfl,h1,h2,h3⟩:=DataW.trod_struct ht h
 exact⟨xs,n,rfl,h1,h2,h3⟩
theorem qo{cs A T:List Value}{o n o':Nat}(h:(cs.drop o).take n=A)(e:o+n=o')(k:cs.drop o' = T):cs.drop o=A++T:=by
 subst e
 rw[←abt n (cs.drop o),h,abu,k]
theorem iL{cs:List Value}{n:Nat}(h:cs.length=n):cs.drop n = []:=abv adr
end
theorem wV{H:Type}{enc:TypeId×Value→H}{P:Program}(hl:laidOutB P=true){W W':World}(hb:gw [] W W'):∀ {ts:List TypeId} {vs:List Value} {ds:List (DataW H)} {ps:List MemPlace},
  (∀ t∈ts,P.readableRec t=true∧t<P.types.size)→DataW.TrodAll enc P W 0 (fun _=>true) true ts vs ds ps→(∀ x∈ps,x.block<W.heap.size)→DataW.TrodAll enc P W' 0 (fun b=>decide (b<W.heap.size)) true ts vs ds ps
 | [],[],[],_,_,h,_=>h
 | t::ts,v::vs,d::ds,_,ht,⟨p,q,h1,h2,e⟩,hlt=>by
  subst e
  exact⟨p,q,Y7 hl (ht t aa3).1 (ht t aa3).2 h1 hb (fun x hx=>hlt x (abw _ hx)),wV hl hb (fun t' h'=>ht t' (aaZ _ h')) h2 (fun x hx=>hlt x (abx _ hx)),rfl⟩
 | [],_::_,_,_,_,h,_=>by cases h
 | [],[],_::_,_,_,h,_=>by cases h
 | _::_,[],_,_,_,h,_=>by cases h
 | _::_,_::_,[],_,_,h,_=>by cases h
end Go.Fw
end
section
namespace Go.Fw
open Go.ChangeShapes Go.WideShapes Go.ChangeAt Go.RowKit Go.Fx
def SF(P:Program)(t:TypeId)(MO:List (Nat×Nat)):Prop:=∃ fs:Array Field,P.underlying t=some (.struct fs)∧fs.toList.map (fun f=>(f.type,f.offset))=MO
structure Gn(P:Program):Prop where
 i3:P.underlying 3=some (.int .i64)
 b4:P.underlying 4=some .bool
 u5:P.underlying 5=some (.int .u8)
 e34:P.underlying 34=some (.int .i64)
 UC:P.underlying 23=some (.slice 5)
 UF:P.underlying 28=some (.slice 23)
 l33:P.underlying 33=some (.slice 60)
 l52:P.underlying 52=some (.slice 3)
 l56:P.underlying 56=some (.slice 128)
 l57:P.underlying 57=some (.slice 151)
 l58:P.underlying 58=some (.slice 156)
 a48:P.underlying 48=some (.array 8 5)
 s46:SF P 46 [(3,0),(3,1),(3,2),(3,3)]
 s50:SF P 50 [(46,0),(48,4),(3,12)]
 QN:SF P 128 [(3,0),(46,1),(46,5)]
 QO:SF P 151 [(3,0),(50,1),(50,14)]
 QP:SF P 156 [(3,0),(3,1),(23,2),(23,3)]
 s60:SF P 60 [(3,0),(3,1),(4,2),(56,3),(57,4),(58,5),(52,6)]
 QQ:SF P 30 [(23,0),(28,1)]
 s36:SF P 36 [(30,0),(33,2),(34,3)]
 cells:(P.cellsOf 3,P.cellsOf 4,P.cellsOf 5,P.cellsOf 23,P.cellsOf 28,P.cellsOf 30,P.cellsOf 33,P.cellsOf 34,P.cellsOf 36,P.cellsOf 46,P.cellsOf 48,P.cellsOf 50,P.cellsOf 52,P.cellsOf 56,P.cellsOf 57,P.cellsOf 58,P.cellsOf 60,P.cellsOf 128,P.cellsOf 151,P.cellsOf 156)=(1,1,1,1,1,2,1,1,4,4,8,13,1,1,1,1,7,9,27,4)
def MJ(l:List UInt8):Nat:=Jh (fun _=>1) l
def BI(i:fj):Nat:=MJ i.b_+Jh MJ i.ah
section
variable {H:Type}{enc:TypeId×Value→H}{P:Program}{W:World}{B:DataW H→Nat}{BA:List (DataW H)→Nat}
theorem iK{t:TypeId}{MO:List (Nat×Nat)}(hs:SF P t MO){fuel:Nat}{cs:List Value}{x:DataW H×List MemPlace}(h:DataW.trod enc P W 0 (fun _=>true) true fuel t cs=some x) :
  ∃ (xs:List (DataW H×List MemPlace)) (n:Nat),x.1 = .agg (xs.map (·.1))∧cs.length=P.cellsOf t∧xs.length=MO.length ∧
   ∀ (i:Nat) (ty off:Nat),MO[i]? = some (ty,off)→DataW.trod enc P W 0 (fun _=>true) true n ty ((cs.drop off).take (P.cellsOf ty))=xs[i]?:=by
 obtain⟨fs,hu,ht⟩:=hs
 obtain⟨xs,n,h1,h2,h3,h4⟩:=VP hu h
 refine⟨xs,n,h1,h2,by rw[h3,←ht];simp,fun i ty off hi=>?_⟩
 rw[←ht,aby]at hi
 cases hf:fs.toList[i]? with
 | none=>rw[hf]at hi;simp at hi
 | some f =>
  rw[hf]at hi
  simp only[aaU,adq,Prod.mk.injEq]at hi
  obtain⟨rfl,rfl⟩:=hi
  exact h4 i f (by simpa using hf)
variable (hB:x5 B BA)(R:Gn P)
include hB R
theorem lW:Opn enc P W B 23 (X:=SV) (Q:=List UInt8) (fun s l=>cn (gw [] W) s l) MJ (fun _=>True):=by
 intro fuel cs x h
 have hc:=R.cells
 simp only[Prod.mk.injEq]at hc
 obtain⟨y,q,h1,h2,h3,_⟩:=pH (X:=UInt8) hB R.UC (by rw[hc.2.2.1];rfl) (XW hB R.u5) fuel cs x h
 exact⟨y,q,h1,h2,h3,trivial⟩
theorem B6:Opn enc P W B 30 (qe (gw [] W)) BI (fun _=>True):=by
 intro fuel cs x h
 obtain⟨xs,n,hx,hl,hn,hf⟩:=iK R.QQ h
 have hc:=R.cells
 simp only[Prod.mk.injEq]at hc
 match xs,hn with
 | [y0,y1],_ =>
  obtain⟨a0,q0,e0,r0,b0,o0⟩:=lW hB R _ _ _ (hf 0 23 0 rfl)
  obtain⟨a1,q1,e1,⟨h1,r1,p1⟩,b1,o1⟩:=pJ hB R.UF (by rw[hc.2.2.2.1];rfl) (lW hB R) _ _ _ (hf 1 28 1 rfl)
  have hcs:=qo e0 (o':=1) adr (qo e1 (o':=2) adr (iL adr))
  refine⟨⟨a0,a1⟩,⟨q0,q1⟩,hcs,⟨a0,a1,h1,rfl,r0,r1,p1⟩,?_,trivial⟩
  have:=hB.agg ([y0,y1].map (·.1))
  rw[←hx]at this
  simp only[abp,abq,hB.cons,hB.nil]at this
  simp only[BI];omega
end
end Go.Fw
end
section
namespace Go.Sp
open Go Go.Fw Go.Fx Go.Proofs
structure vv(m:dD):Prop where
 small:pz m
 bytes:∀ p∈m.dE,p.old.length≤1099511627776∧p.new.length≤1099511627776
end Go.Sp
end
section
namespace Go.Sp
open Go Go.Fw Go.Fx Go.Proofs
structure NV(m:dD):Prop where
 bk:m.bk.length≤1099511627776
 slots:m.slots.length≤1099511627776
 dE:m.dE.length≤1099511627776
 old:∀ p∈m.dE,p.old.length≤1099511627776
 new:∀ p∈m.dE,p.new.length≤1099511627776
 bf:m.bf.length≤1099511627776
theorem pW:jl kA:=⟨by simp[kA],by simp[kA],by simp[kA],by simp[kA]⟩
theorem vv.lit{m:dD}(h:vv m):NV m:=⟨h.small.1,h.small.2.1,h.small.2.2.1,fun p hp=>(h.bytes p hp).1,fun p hp=>(h.bytes p hp).2,h.small.2.2.2⟩
end Go.Sp
end
section
namespace Go.Sp
open Go Go.Fw Go.Fx Go.Proofs
structure BK(i:fj):Prop where
 b_:i.b_.length≤1099511627776
 ah:i.ah.length≤1099511627776
 each:∀ t∈i.ah,t.length≤1099511627776
def tZ(i:fj):bj:=⟨(((⟨List.replicate 11 ak.zero,rfl⟩ : Vec ak 11).set 1 (ak.mk 3 0 0 0)).set 2 (ak.mk 1 0 0 (i.b_.length:Int))).set 10 (ak.mk 2 0 0 256),⟨List.replicate 32 bn.zero,rfl⟩,i.b_,i.ah,[],0,0,false⟩
theorem pV{i:fj}(h:BK i):jl (tZ i):=⟨h.b_,h.ah,h.each,by simp[tZ]⟩
theorem Sl{i:fj}(h:BK i):Sh.qI i=some (tZ i):=by
 unfold Sh.qI
 rw[show Fx.get (⟨List.replicate 11 ak.zero,rfl⟩ : Vec ak 11).l 1=some ak.zero from rfl]
 simp only[aaS]
 refine Eq.trans (b:=(Sh.fW (tZ i)).bind fun y42=>some y42) rfl ?_
 rw[sU (pV h)];rfl
noncomputable def after(ms:List dD)(s0:bj):Nat→bj⊕(Nat×Int)
 | 0=>.inl s0
 | i+1=>match after ms s0 i with
  | .inr f=>.inr f
  | .inl s=>match ms[i]? with
   | none=>.inl s
   | some m=>match Sh.bP s m with
    | none=>.inl s
    | some (y,e)=>if e=0 then .inl y else .inr (i,e)
theorem VG{ms:List dD}{s0:bj}{i:Nat}{f:Nat×Int}(h:after ms s0 i = .inr f):∀ j,after ms s0 (i+j) = .inr f:=by
 intro j
 induction j with
 | zero=>exact h
 | succ j ih=>show after ms s0 (i+j+1)=_;simp only[after,ih]
def outOf:bj⊕(Nat×Int)→bj×Int×Int
 | .inl s=>(s,0,0)
 | .inr (i,e)=>(kA,(i:Int),e)
structure A_(ms:List dD):Prop where
 len:ms.length≤549755813888
 mark:∀ m∈ms,vv m
theorem RG{x:bj}{m:dD}(hx:jl x)(hl:x.bf.length≤1099511627775)(hm:vv m):∃ y e,Sh.bP x m=some (y,e)∧jl y∧y.bf.length≤x.bf.length+1:=by
 rcases((rE hx hm.small).same (rE hx hm.small)).2 with⟨e,he,hn⟩|⟨he,hx1,hp,c⟩
 ·exact⟨_,_,he,pW,by simp[kA]⟩
 ·have:=hp.bf
  exact⟨_,_,he,nL hp c.st.room _ _ _ _ hx (by simp;omega),by show(x.bf++m.bf).length≤_;simp;omega⟩
section
variable {ms:List dD}{s0:bj}(hm:A_ ms)(h0:jl s0)(hs:s0.bf.length=0)
include hm h0 hs
theorem rR:∀ i s,i≤ms.length→after ms s0 i = .inl s→jl s∧s.bf.length≤i:=by
 intro i
 induction i with
 | zero=>intro s _ h;simp only[after,inl.injEq]at h;subst h;exact⟨h0,adr⟩
 | succ i ih =>
  intro s hi h
  have hlen:=hm.len
  cases h1:after ms s0 i with
  | inr f=>simp only[after,h1]at h;cases h
  | inl x =>
   obtain⟨k1,k2⟩:=ih x adr h1
   have hlt:i<ms.length:=adr
   obtain⟨y,e,a1,a3,a4⟩:=RG k1 adr (hm.mark _ (abz hlt))
   simp only[after,h1,aa9 hlt,a1]at h
   split at h
   ·cases h;exact⟨a3,adr⟩
   ·cases h
theorem RF{i:Nat}{s:bj}(hi:i<ms.length)(h:after ms s0 i = .inl s):∃ y e,Sh.bP s ms[i]=some (y,e)∧after ms s0 (i+1)=if e=0 then .inl y else .inr (i,e):=by
 obtain⟨k1,k2⟩:=rR hm h0 hs i s adr h
 have hlen:=hm.len
 obtain⟨y,e,a1,a3,a4⟩:=RG k1 adr (hm.mark _ (abz hi))
 exact⟨y,e,a1,by simp only[after,h,aa9 hi,a1]⟩
end
section
variable {r:du}{s0:bj}{n:Nat}(hm:A_ r.cj)(h0:jl s0)(hs:s0.bf.length=0)(hn:n≤r.cj.length)
include hm h0 hs hn
theorem Yf:∀ j i s,i+j=n→after r.cj s0 i = .inl s → ∃ k,Fx.seq (Fx.loop (fun(v:bj×Int×Int)=>match v with|(a,b,c)=>Sh.kE (n:Int) r a b c) (s,(i:Int)-1,(i:Int))) (fun(v:bj×Int)=>match v with|(a,b)=>Sh.tU (n:Int) a b) =
  some (.inl (.inl ((outOf (after r.cj s0 n)).1,(outOf (after r.cj s0 n)).2.1,(outOf (after r.cj s0 n)).2.2,k))):=by
 have hlen:=hm.len
 intro j
 induction j with
 | zero =>
  intro i s hi h
  obtain rfl:i=n:=adr
  have hw:IntKind.i64.wrap ((i:Int)-1+1)=(i:Int):=by rw[jg adr];omega
  rw[h]
  by_cases c:i<r.cj.length
  ·refine⟨(i:Int),?_⟩
   refine bK (dN (g:=.inr (.inl (.inl (s,0,0,(i:Int))))) ?_) rfl
   simp only[Sh.kE,bV,c,decide_true,abA,aX c,aaS,abB,abC,hw,aR,Sum.elim_inl,Sh.yT]
  ·obtain rfl:i=r.cj.length:=adr
   refine⟨(r.cj.length:Int),?_⟩
   refine bK (dN (g:=.inl (s,(r.cj.length:Int)-1)) (by simp[Sh.kE])) ?_
   simp only[Fx.fin,Sh.tU,decide_true,abB,abC,hw,abA,aR,Sum.elim_inl,Sh.xA]
   rfl
 | succ j ih =>
  intro i s hi h
  have c:i<r.cj.length:=adr
  have hw:IntKind.i64.wrap ((i:Int)-1+1)=(i:Int):=by rw[jg adr];omega
  have hw1:IntKind.i64.wrap ((i:Int)+1)=(i:Int)+1:=jg adr
  have hw2:IntKind.i64.wrap ((i:Int)+1-1)=(i:Int):=by rw[jg adr];omega
  have hne:¬ (i:Int)=(n:Int):=adr
  obtain⟨y,e,a1,a3⟩:=RF hm h0 hs c h
  by_cases he:e=0
  ·rw[aaJ he]at a3
   obtain⟨k,hk⟩:=ih (i+1) y adr a3
   refine⟨k,?_⟩
   rw[←hk]
   congr 1
   refine fA ?_ (by rw[show(((i+1:Nat):Int)-1)=(i:Int) by omega,show((i+1:Nat):Int)=(i:Int)+1 by omega])
   simp only[Sh.kE,bV,c,decide_true,abA,aX c,aaS,abB,abC,hw,abg hne,aR,Sum.elim_inr,Sh.tT,a1,he,hw1]
  ·rw[aaK he]at a3
   have e1:after r.cj s0 n = .inr (i,e):=by
    have:=VG a3 j
    rwa [show i+1+j=n by omega]at this
   rw[e1]
   refine⟨(i:Int)+1,?_⟩
   refine bK (dN (g:=.inr (.inl (.inl (kA,(i:Int),e,(i:Int)+1)))) ?_) rfl
   simp only[Sh.kE,bV,c,decide_true,abA,aX c,aaS,abB,abC,hw,abg hne,aR,Sum.elim_inr,Sh.tT,a1,abg he,abD,hw1,hw2,Sh.wZ]
   rfl
end
structure Gl(r:du):Prop where
 inp:BK r.iz
 ms:A_ r.cj
theorem Yg{l:List dU}(h:l.length≤1099511627776):Sh.cW l=some l:=by
 unfold Sh.cW;rw[cK (by simp;omega) (by simp;omega)];rfl
theorem Yx{l:List eo}(h:l.length≤1099511627776):Sh.cV l=some l:=by
 unfold Sh.cV;rw[cK (by simp;omega) (by simp;omega)];rfl
theorem Yy{l:List cu}(h:l.length≤1099511627776):Sh.cM l=some l:=by
 unfold Sh.cM;rw[cK (by simp;omega) (by simp;omega)];rfl
theorem WC{m:dD}(h:vv m):Sh.aBv m=some m:=by
 obtain⟨⟨h1,h2,h3,h4⟩,h5⟩:=h
 obtain⟨g,hg,e⟩:=bY (body:=fun(v:Nat×Int)=>match v with|(LY,M6)=>Sh.pC m.dE LY M6) m.dE.length (fun i (a:Unit)=>(i,(i:Int))) (fun i a=>True) (fun g=>g = .inl m.dE.length)
  (fun i a hi _=>.inl ⟨(),by
   obtain⟨q1,q2⟩:=h5 _ (abz hi)
   simp only[Sh.pC,bV,hi,decide_true,abA,aX hi,aaS,abE,aah,Fx.must,qK q1,qK q2,ij hi adr],trivial⟩)
  (fun a _=>⟨inl m.dE.length,by simp[Sh.pC],rfl⟩) m.dE.length 0 () adr trivial
 subst e
 unfold Sh.aBv
 rw[Yg h1,aaS,Yx h2,aaS,wA h4,aaS,Yy h3,aaS]
 refine bK hg ?_
 simp only[Fx.fin,Sh.zB,aah,decide_true,Fx.must,abA]
def m_(r:du)(n:Nat):du:=⟨r.iz,r.cj.take n,if n<r.cj.length then 88 else r.end_⟩
end Go.Sp
end
section
namespace Go.Sp
open Go Go.Fw Go.Fx Go.Proofs
section
variable {X Y:Type}[DecidableEq X]{key:Y→Int}{old new:Y→X}{mk:Int→X→X→Y}
structure Told(key:Y→Int)(old new:Y→X)(a b:List X)(n:Nat)(T:List Y):Prop where
 each:∀ t∈T,(0≤key t∧key t<(n:Int))∧a[(key t).toNat]? = some (old t)∧b[(key t).toNat]? = some (new t)∧old t≠new t
 pw:T.Pairwise (fun s t=>key s<key t)
 NJ:∀ j:Nat,j<n→(∀ t∈T,(key t).toNat≠j)→a[j]? = b[j]?
theorem GM(hk:∀ i x y,key (mk i x y)=i)(ho:∀ i x y,old (mk i x y)=x)(hw:∀ i x y,new (mk i x y)=y){a b:List X}(hl:a.length=b.length) :
  ∀ n,n≤a.length→Told key old new a b n (jR (fun i x y R=>R ++ [mk (i:Int) x y]) a b [] n):=by
 intro n
 induction n with
 | zero=>intro _;exact⟨fun t ht=>absurd ht (by simp[jR]),by simp[jR],fun j hj=>by omega⟩
 | succ n ih =>
  intro hn
  have ha:n<a.length:=adr
  have hb:n<b.length:=adr
  obtain⟨h1,h2,h3⟩:=ih adr
  rw[gD _ ha hb]
  by_cases e:a[n]=b[n]
  ·rw[aaJ e]
   refine⟨fun t ht=>?_,h2,fun j hj hu=>?_⟩
   ·obtain⟨k1,k2⟩:=h1 t ht
    exact⟨⟨k1.1,adr⟩,k2⟩
   ·by_cases c:j=n
    ·subst c;rw[aa9 ha,aa9 hb,e]
    ·exact h3 j adr hu
  ·rw[aaK e]
   refine⟨fun t ht=>?_,?_,fun j hj hu=>?_⟩
   ·rcases aaR.1 ht with ht|ht
    ·obtain⟨k1,k2⟩:=h1 t ht
     exact⟨⟨k1.1,adr⟩,k2⟩
    ·obtain rfl:t=mk (n:Int) a[n] b[n]:=by simpa using ht
     rw[hk,ho,hw]
     exact⟨⟨adr,adr⟩,aa9 ha,aa9 hb,e⟩
   ·rw[abG]
    refine⟨h2,abH _ _,fun s hs t ht=>?_⟩
    obtain rfl:t=mk (n:Int) a[n] b[n]:=by simpa using ht
    rw[hk]
    exact(h1 s hs).1.2
   ·by_cases c:j=n
    ·subst c
     exact absurd (by rw[hk];omega) (hu (mk (j:Int) a[j] b[j]) (by simp))
    ·exact h3 j adr fun t ht=>hu t (abw _ ht)
omit [DecidableEq X]in
theorem Told.ok{a b:List X}{n:Nat}{T:List Y}(h:Told key old new a b (n+1) T):xm key (fun t=>old t=new t) (n:Int) T T.length:=fun i hi _=>by
 have k:=h.each T[i] (abz hi)
 refine⟨k.1.1,by have:=k.1.2;omega,k.2.2.2,fun h0=>?_⟩
 exact(aa0.1 h.pw) (i-1) i adr hi adr
omit [DecidableEq X]in
theorem Told.set{a b:List X}{n:Nat}{T:List Y}(hl:a.length=b.length)(hn:a.length=n)(h:Told key old new a b n T):qq (fun t=>(key t).toNat) new a T=b:=by
 have ne:T.Pairwise (fun s t=>(key s).toNat≠(key t).toNat):=by
  refine List.Pairwise.imp_of_mem ?_ h.pw
  intro s t hs ht k
  have:=(h.each s hs).1;have:=(h.each t ht).1;omega
 apply abr
 intro j
 by_cases c:∃ t∈T,(key t).toNat=j
 ·obtain⟨t,ht,rfl⟩:=c
  have k:=h.each t ht
  exact(yJ (key:=fun t=>(key t).toNat) ne ht (aaz.1 k.2.1).1).trans k.2.2.1.symm
 ·have hu:∀ t∈T,(key t).toNat≠j:=fun t ht e=>c ⟨t,ht,e⟩
  rw[nM (key:=fun t=>(key t).toNat) hu]
  by_cases hj:j<a.length
  ·exact h.NJ j adr hu
  ·rw[aaf adr,aaf adr]
end
structure GP(t:Int)(a b:List UInt8)(n:Nat)(G:List cu):Prop where
 each:∀ p∈G,rm t a b p∧fp p+wd p≤n
 pw:G.Pairwise (fun p q=>p.from_+(wd p:Int)<q.from_)
 NJ:∀ k,k<n→(∀ p∈G,¬ (fp p≤k∧k<fp p+wd p))→a[k]? = b[k]?
theorem rB{l:List UInt8}{f w n:Nat}(h:f+w=n)(hn:n<l.length){o:List UInt8}(ho:(l.drop f).take w=o):(l.drop f).take (w+1)=o ++ [l[n]]:=by
 subst h
 rw[abI,ho,aaH,aa9 hn];rfl
theorem SX(t:Int){a b:List UInt8}(hl:a.length=b.length):∀ n,n≤a.length→GP t a b n (grow t a b n):=by
 intro n
 induction n with
 | zero=>intro _;exact⟨fun t ht=>absurd ht (by simp[grow,jR]),by simp[grow,jR],fun j hj=>by omega⟩
 | succ n ih =>
  intro hn
  have ha:n<a.length:=adr
  have hb:n<b.length:=adr
  obtain⟨h1,h2,h3⟩:=ih adr
  unfold grow at *
  rw[gD _ ha hb]
  generalize jR (ext t) a b [] n=G at *
  by_cases e:a[n]=b[n]
  ·rw[aaJ e]
   refine⟨fun t ht=>⟨(h1 t ht).1,by have:=(h1 t ht).2;omega⟩,h2,fun j hj hu=>?_⟩
   by_cases c:j=n
   ·subst c;rw[aa9 ha,aa9 hb,e]
   ·exact h3 j adr hu
  rw[aaK e]
  have fresh:rm t a b ⟨t,(n:Int),[a[n]],[b[n]]⟩:=by
   refine⟨rfl,by simp,by simp[wd],by simp[fp,wd];omega,by simp[wd],?_,?_,?_⟩
   ·intro i hi
    obtain rfl:i=0:=by simpa using hi
    simpa using e
   ·simp only[fp,wd,abE,abJ]
    exact rB (w:=0) (o:=[]) adr ha (by simp)
   ·simp only[fp,wd,abE,abJ]
    exact rB (w:=0) (o:=[]) adr hb (by simp)
  have app:(∀ p∈G,p.from_+(wd p:Int)<(n:Int))→GP t a b (n+1) (G ++ [⟨t,(n:Int),[a[n]],[b[n]]⟩]):=by
   intro hall
   refine⟨fun p hp=>?_,?_,fun j hj hu=>?_⟩
   ·rcases aaR.1 hp with hp|hp
    ·exact⟨(h1 p hp).1,by have:=(h1 p hp).2;omega⟩
    ·obtain rfl:p=⟨t,(n:Int),[a[n]],[b[n]]⟩:=by simpa using hp
     exact⟨fresh,by simp[fp,wd]⟩
   ·rw[abG]
    refine⟨h2,abH _ _,fun p hp q hq=>?_⟩
    obtain rfl:q=⟨t,(n:Int),[a[n]],[b[n]]⟩:=by simpa using hq
    exact hall p hp
   ·by_cases c:j=n
    ·subst c
     exact absurd (by simp[fp,wd]) (hu ⟨t,(j:Int),[a[j]],[b[j]]⟩ (by simp))
    ·exact h3 j adr fun p hp=>hu p (abw _ hp)
  rcases oJ G with rfl|⟨Q,p,rfl⟩
  ·rw[tH]
   exact app (by simp)
  ·rw[jT]
   obtain⟨hp,hpn⟩:=h1 p (by simp)
   have hf0:=hp.nh
   have efp:((fp p:Nat):Int)=p.from_:=by simp only[fp];omega
   rw[abG]at h2
   have hQ:∀ q∈Q,q.from_+(wd q:Int)<p.from_:=fun q hq=>h2.2.2 q hq p (by simp)
   by_cases c:p.from_+(p.old.length:Int)=(n:Int)
   ·rw[aaJ c]
    have cw:fp p+wd p=n:=by simp only[wd];omega
    refine⟨fun q hq=>?_,?_,fun j hj hu=>?_⟩
    ·rcases aaR.1 hq with hq|hq
     ·exact⟨(h1 q (abw _ hq)).1,by have:=(h1 q (abw _ hq)).2;omega⟩
     ·obtain rfl:q=⟨p.table,p.from_,p.old ++ [a[n]],p.new ++ [b[n]]⟩:=by simpa using hq
      have hw:wd ⟨p.table,p.from_,p.old ++ [a[n]],p.new ++ [b[n]]⟩=wd p+1:=by simp[wd]
      have IZ:fp ⟨p.table,p.from_,p.old ++ [a[n]],p.new ++ [b[n]]⟩=fp p:=rfl
      refine⟨⟨hp.table,hf0,by rw[hw];omega,by rw[hw,IZ];omega,?_,?_,?_,?_⟩,by rw[hw,IZ];omega⟩
      ·rw[hw];have:=hp.eq;simp;omega
      ·intro i hi
       have he:=hp.eq
       have hwd:wd p=p.old.length:=rfl
       have hi':i<p.old.length+1:=by simpa using hi
       by_cases ci:i<p.old.length
       ·have:=hp.df i ci
        simp only[List.getD]
        rw[abk ci,abk adr]
        exact this
       ·obtain rfl:i=p.old.length:=adr
        simp only[List.getD]
        rw[abl adr,abl adr]
        rw[he,hwd,Nat.sub_self]
        exact e
      ·rw[hw,IZ];exact rB cw ha hp.old
      ·rw[hw,IZ];exact rB cw hb hp.new
    ·rw[abG]
     refine⟨h2.1,abH _ _,fun q hq r hr=>?_⟩
     obtain rfl:r=⟨p.table,p.from_,p.old ++ [a[n]],p.new ++ [b[n]]⟩:=by simpa using hr
     exact hQ q hq
    ·have hlast:=hu ⟨p.table,p.from_,p.old ++ [a[n]],p.new ++ [b[n]]⟩ (by simp)
     have hw:wd ⟨p.table,p.from_,p.old ++ [a[n]],p.new ++ [b[n]]⟩=wd p+1:=by simp[wd]
     have IZ:fp ⟨p.table,p.from_,p.old ++ [a[n]],p.new ++ [b[n]]⟩=fp p:=rfl
     rw[hw,IZ]at hlast
     refine h3 j adr fun q hq=>?_
     rcases aaR.1 hq with hq|hq
     ·exact hu q (abw _ hq)
     ·obtain rfl:q=p:=by simpa using hq
      omega
   ·rw[aaK c]
    refine app fun q hq=>?_
    rcases aaR.1 hq with hq|hq
    ·have:=hQ q hq;omega
    ·obtain rfl:q=p:=by simpa using hq
     have:wd q=q.old.length:=rfl
     omega
structure TP(x y:bj)(n:Nat)(T:List cu):Prop where
 each:∀ p∈T,(-1≤p.table∧p.table<(n:Int)) ∧ ∃ a b,(mem x)[kp p]? = some a∧(mem y)[kp p]? = some b∧rm p.table a b p
 pw:T.Pairwise Behind
 NJ:∀ i,i≤n → ∀ a b,(mem x)[i]? = some a→(mem y)[i]? = some b → ∀ j,(∀ p∈T,¬ EH p i j)→a[j]? = b[j]?
theorem Y6{x y:bj}(hc:x.b_.length=y.b_.length)(ht:x.ah.length=y.ah.length)(hl:vS x y) :
  ∀ n,n≤x.ah.length→TP x y n (tabs x.ah y.ah (grow (-1) x.b_ y.b_ x.b_.length) n):=by
 intro n
 induction n with
 | zero =>
  intro _
  obtain⟨h1,h2,h3⟩:=SX (-1) hc _ (aah _)
  refine⟨fun p hp=>?_,?_,fun i hi a b ha hb j hu=>?_⟩
  ·have k:=(h1 p hp).1
   have e:=k.table
   have ek:kp p=0:=by simp only[kp];omega
   exact⟨⟨adr,adr⟩,x.b_,y.b_,by rw[ek];rfl,by rw[ek];rfl,by rw[e];exact k⟩
  ·refine List.Pairwise.imp_of_mem ?_ h2
   intro p q hp hq h
   exact .inr ⟨by rw[(h1 p hp).1.table,(h1 q hq).1.table],h⟩
  ·obtain rfl:i=0:=adr
   obtain rfl:x.b_=a:=by simpa[mem]using ha
   obtain rfl:y.b_=b:=by simpa[mem]using hb
   by_cases hj:j<x.b_.length
   ·refine h3 j hj fun p hp h=>hu p hp ⟨?_,h⟩
    have:=(h1 p hp).1.table
    simp only[kp];omega
   ·rw[aaf adr,aaf adr]
 | succ n ih =>
  intro hn
  obtain⟨h1,h2,h3⟩:=ih adr
  have ha:n<x.ah.length:=adr
  have hb:n<y.ah.length:=adr
  rw[xB _ ha hb]
  generalize tabs x.ah y.ah (grow (-1) x.b_ y.b_ x.b_.length) n=T at *
  have vo:(x.ah[n]).length=(y.ah[n]).length:=hl n ha ha hb
  obtain⟨g1,g2,g3⟩:=SX (n:Int) vo _ (aah _)
  have ek:∀ p∈grow (n:Int) x.ah[n] y.ah[n] (x.ah[n]).length,kp p=n+1:=fun p hp=>by
   have:=(g1 p hp).1.table;simp only[kp];omega
  have mx:(mem x)[n+1]? = some x.ah[n]:=by show x.ah[n]? = _;exact aa9 ha
  have my:(mem y)[n+1]? = some y.ah[n]:=by show y.ah[n]? = _;exact aa9 hb
  refine⟨fun p hp=>?_,?_,fun i hi a b ha' hb' j hu=>?_⟩
  ·rcases aaR.1 hp with hp|hp
   ·obtain⟨k1,k2⟩:=h1 p hp
    exact⟨⟨k1.1,adr⟩,k2⟩
   ·have k:=(g1 p hp).1
    have e:=k.table
    exact⟨⟨adr,adr⟩,x.ah[n],y.ah[n],by rw[ek p hp];exact mx,by rw[ek p hp];exact my,by rw[e];exact k⟩
  ·rw[abG]
   refine⟨h2,?_,fun p hp q hq=>.inl ?_⟩
   ·refine List.Pairwise.imp_of_mem ?_ g2
    intro p q hp hq h
    exact .inr ⟨by rw[(g1 p hp).1.table,(g1 q hq).1.table],h⟩
   ·rw[(g1 q hq).1.table]
    exact(h1 p hp).1.2
  ·by_cases c:i=n+1
   ·subst c
    obtain rfl:x.ah[n]=a:=by simpa[mx]using ha'
    obtain rfl:y.ah[n]=b:=by simpa[my]using hb'
    by_cases hj:j<(x.ah[n]).length
    ·exact g3 j hj fun p hp h=>hu p (abx _ hp) ⟨ek p hp,h⟩
    ·rw[aaf adr,aaf adr]
   ·exact h3 i adr a b ha' hb' j fun p hp=>hu p (abw _ hp)
section
variable {x y:bj}(hx:iW x)(hy:iW y)(hb:Jj x y)
include hb
theorem yO:Told (fun t:dU=>t.reg) (fun t=>t.old) (fun t=>t.new) x.bk.l y.bk.l 11 (jW x y).bk:=by
 have _:=hb
 exact GM (mk:=fun i a b=>dU.mk i a b) (fun _ _ _=>rfl) (fun _ _ _=>rfl) (fun _ _ _=>rfl) (by rw[x.bk.h,y.bk.h]) 11 (by rw[x.bk.h];exact aah _)
theorem vN:Told (fun t:eo=>t.slot) (fun t=>t.old) (fun t=>t.new) x.bp.l y.bp.l 32 (jW x y).slots:=by
 have _:=hb
 exact GM (mk:=fun i a b=>eo.mk i a b) (fun _ _ _=>rfl) (fun _ _ _=>rfl) (fun _ _ _=>rfl) (by rw[x.bp.h,y.bp.h]) 32 (by rw[x.bp.h];exact aah _)
theorem oK:TP x y x.ah.length (jW x y).dE:=Y6 hb.b_ hb.ah hb.lens _ (aah _)
include hx hy
theorem vF:mS (jW x y):=by
 obtain⟨a1,a2,a3⟩:=hx
 obtain⟨b1,b2,b3⟩:=hy
 have T:=oK hb
 refine⟨a1,b1,?_,(yO hb).ok,(vN hb).ok,fun i hi _=>?_⟩
 ·have:=hb.D7;show(y.bf.drop x.bf.length).length≤1;rw[abK];omega
 ·obtain⟨k1,a,b,k2,k3,k4⟩:=T.each _ (abz hi)
  have hlen:a.length≤65535:=by
   have:a∈mem x:=abb k2
   rcases aaY.1 this with rfl|h
   ·exact a3.1
   ·exact a3.2.2 a h
  have h8:=a3.2.1
  have e0:=k4.nh
  have e1:=k4.room
  have e2:=k4.pos
  simp only[fp,wd]at e1 e2
  refine⟨k1.1,by have:=k1.2;simp only at h8;omega,e0,adr,k4.eq,adr,k4.df,fun h0=>?_⟩
  exact(aa0.1 T.pw) (i-1) i adr hi adr
theorem Iw:Jl x (jW x y):=by
 obtain⟨a1,a2,a3⟩:=hx
 obtain⟨b1,b2,b3⟩:=hy
 refine⟨hb.pI,rfl,?_,fun t ht=>?_,fun t ht=>?_,fun p hp=>?_⟩
 ·have:=hb.steps
  rw[jg adr]at this
  omega
 ·exact((yO hb).each t ht).2.1
 ·exact((vN hb).each t ht).2.1
 ·obtain⟨k1,a,b,k2,k3,k4⟩:=(oK hb).each p hp
  exact⟨a,k2,k4.room,k4.old⟩
theorem WX:zH x (jW x y)=mem y:=by
 have T:=oK hb
 have hp:=vF hx hy hb
 have hc:=Iw hx hy hb
 have hr:=hc.st.room
 refine WE ?_ fun k j=>?_
 ·rw[pN hp hr]
  simp only[mem,abp,hb.b_]
  congr 1
  apply abL (by simpa using hb.ah)
  intro i h1 h2
  simp only[abM]at h1 h2
  rw[List.getElem_map,List.getElem_map]
  exact hb.lens i h1 h1 h2
 ·by_cases c:∃ p∈(jW x y).dE,EH p k j
  ·obtain⟨p,hq,K1⟩:=c
   rw[show zH x (jW x y)=o8 (fun p=>p.new) (mem x) (jW x y).dE from rfl,xU hr (qS hp) hp.apart hq K1]
   obtain⟨k1,a,b,k2,k3,k4⟩:=T.each p hq
   obtain⟨c1,c2,c3⟩:=K1
   subst c1
   unfold bt
   rw[k3]
   show p.new[j-fp p]? = b[j]?
   rw[←k4.new,aaG,aaJ adr,aaH]
   congr 1;omega
  ·have hu:∀ p∈(jW x y).dE,¬ EH p k j:=fun p hq h=>c ⟨p,hq,h⟩
   rw[show zH x (jW x y)=o8 (fun p=>p.new) (mem x) (jW x y).dE from rfl,pM hr (qS hp) hu]
   unfold bt
   by_cases hk:k<x.ah.length+1
   ·have h1:k<(mem x).length:=by simpa[mem]using hk
    have h2:k<(mem y).length:=by have:=hb.ah;simp only[mem,abN];omega
    rw[aa9 h1,aa9 h2]
    exact T.NJ k adr _ _ (aa9 h1) (aa9 h2) j hu
   ·have:=hb.ah
    rw[aaf (by simp only[mem,abN];omega),aaf (by simp only[mem,abN];omega)]
theorem Jw:applied x (jW x y)=y:=by
 have e1:=WX hx hy hb
 have er:D8 (fun t:dU=>t.reg.toNat) (fun t=>t.new) x.bk (jW x y).bk=y.bk:=by
  apply Vec.ext
  rw[mW]
  exact(yO hb).set (by rw[x.bk.h,y.bk.h]) x.bk.h
 have es:D8 (fun t:eo=>t.slot.toNat) (fun t=>t.new) x.bp (jW x y).slots=y.bp:=by
  apply Vec.ext
  rw[mW]
  exact(vN hb).set (by rw[x.bp.h,y.bp.h]) x.bp.h
 unfold applied xk
 rw[e1,er,es]
 obtain⟨a1,a2,a3⟩:=hx
 have hst:x.steps+1=y.steps:=by
  have:=hb.steps
  rw[jg adr]at this
  exact this.symm
 have Dk:x.bf++(jW x y).bf=y.bf:=by
  show x.bf++y.bf.drop x.bf.length=y.bf
  have h1:y.bf.take x.bf.length=x.bf:=by
   have:=hb.D6
   apply abL (by rw[abO];omega)
   intro i h1 h2
   rw[List.getElem_take]
   exact(hb.bf i h2 h2 adr).symm
  have h2:=abt x.bf.length y.bf
  rw[h1]at h2
  exact h2
 rw[Dk,hst]
 rfl
theorem WW:vv (jW x y):=by
 have hp:=vF hx hy hb
 have T:=oK hb
 have r1:=pU (f:=pv) (fun i a b T=>by simp[pv]) (a:=x.bk.l) (b:=y.bk.l) (by rw[x.bk.h,y.bk.h]) 11 (by rw[x.bk.h];exact aah _)
 have r2:=pU (f:=qa) (fun i a b T=>by simp[qa]) (a:=x.bp.l) (b:=y.bp.l) (by rw[x.bp.h,y.bp.h]) 32 (by rw[x.bp.h];exact aah _)
 have r3:=xC (P:=grow (-1) x.b_ y.b_ x.b_.length) hb.ah (fun i h k=>hb.lens i h h k) hx.2.2.2.2 _ (aah _)
 have r4:=(mI (-1) hb.b_ _ (aah _)).few
 have b1:x.b_.length≤65535:=hx.2.2.1
 have b2:x.ah.length≤8:=hx.2.2.2.1
 have r5:65535*x.ah.length≤65535*8:=abP _ b2
 refine⟨⟨aai r1 adr,aai r2 adr,aai r3 adr,aai hp.bf adr⟩,fun p hq=>?_⟩
 have k:=hp.piece p hq
 have h1:=k.top;have h2:=k.nh;have h3:=k.eq
 simp only[wd]at h1 h3
 exact⟨adr,adr⟩
end
end Go.Sp
end
section
namespace Go.Sp
open Go Go.Fw Go.Fx Go.Proofs
def a8{X:Type}(o:Option X)(P:X→Prop):Prop:=∃ r,o=some r∧P r
section
variable {X A B:Type}{P Q:X→Prop}
theorem a8.some{a:X}(h:P a):a8 (some a) P:=⟨a,rfl,h⟩
theorem a8.mono{o:Option X}(h:a8 o Q)(k:∀ r,Q r→P r):a8 o P:=by obtain⟨r,e,h⟩:=h;exact⟨r,e,k r h⟩
theorem a8.bind{o:Option A}{f:A→Option X}(h:a8 o fun a=>a8 (f a) P):a8 (o.bind f) P:=by
 obtain⟨a,rfl,r,h1,h2⟩:=h
 exact⟨r,h1,h2⟩
theorem a8.bindm{o:Option A}{f:A→Option X}{R:A→Prop}(h:a8 o R)(k:∀ a,R a→a8 (f a) P):a8 (o.bind f) P:=a8.bind (h.mono k)
theorem a8.seq{o:Option (A⊕X)}{k:A→Option X}(h:a8 o fun s=>a8 (Fx.fin k s) P):a8 (Fx.seq o k) P:=by
 obtain⟨s,rfl,h⟩:=h
 exact h
theorem a8.seqm{o:Option (A⊕X)}{k:A→Option X}{R:A→Prop}(h:a8 o fun s=>match s with | .inl a=>R a | .inr b=>P b)(h2:∀ a,R a→a8 (k a) P):a8 (Fx.seq o k) P:=by
 obtain⟨s,rfl,h⟩:=h
 cases s with
 | inl a=>exact h2 a h
 | inr b=>exact⟨b,rfl,h⟩
theorem a8.bif{c:Bool}{a b:Option X}(h1:c=true→a8 a P)(h2:c=false→a8 b P):a8 (bif c then a else b) P:=by
 cases c
 ·exact h2 rfl
 ·exact h1 rfl
theorem a8.must{c:Bool}{o:Option X}(h:c=true)(h2:a8 o P):a8 (Fx.must c o) P:=by rw[h];exact h2
theorem a8.get{l:List X}{i:Int}(h0:0≤i)(h1:i<(l.length:Int))(h:∀ x,l[i.toNat]? = .some x→P x):a8 (Fx.get l i) P:=by
 have hk:i.toNat<l.length:=adr
 exact⟨l[i.toNat],by unfold Fx.get;rw[aaJ h0,aa9 hk],h _ (aa9 hk)⟩
theorem a8.getv{n:Nat}{v:Vec X n}{i:Int}(h0:0≤i)(h1:i<(n:Int))(h:∀ x,v.l[i.toNat]? = .some x→P x):a8 (Fx.get v.l i) P:=a8.get h0 (by rw[v.h];exact h1) h
theorem a8.loop{σ:Type}{body:σ→Option (σ⊕X)}(μ:σ→Nat)(I:σ→Prop)(h:∀ s,I s→a8 (body s) fun o=>match o with | .inl s'=>I s' ∧ μ s' < μ s | .inr g=>P g):∀ s,I s→a8 (Fx.loop body s) P:=by
 refine W8 μ I P fun s hs=>?_
 obtain⟨o,e,h⟩:=h s hs
 cases o with
 | inl s'=>exact .inl ⟨s',e,h⟩
 | inr g=>exact .inr ⟨g,e,h⟩
end
abbrev Def{X:Type}(o:Option X):Prop:=a8 o fun _=>True
theorem Def.bind{X A:Type}{o:Option A}{f:A→Option X}(h:Def o)(k:∀ a,Def (f a)):Def (o.bind f):=a8.bindm h fun a _=>k a
theorem Def.seq{X A:Type}{o:Option (A⊕X)}{k:A→Option X}(h:Def o)(h2:∀ a,Def (k a)):Def (Fx.seq o k):=a8.seqm (R:=fun _=>True) (h.mono fun s _=>by cases s<;>trivial) fun a _=>h2 a
theorem Def.bif{X:Type}{c:Bool}{a b:Option X}(h1:Def a)(h2:Def b):Def (bif c then a else b):=a8.bif (fun _=>h1) fun _=>h2
theorem Def.some{X:Type}{a:X}:Def (some a):=a8.some trivial
theorem yE(x:Int):IntKind.u64.wrap x=x%18446744073709551616:=by
 unfold IntKind.wrap
 simp only[IntKind.signed,IntKind.bits,Bool.false_and,abQ,if_false]
 rfl
theorem MQ(x:Int):0≤IntKind.u64.wrap x:=by rw[yE];omega
theorem tF(x y:Int):decide (0≤i_ .u64 x y)=true:=abf (MQ _)
theorem N7(x:Int):i_ .u64 x 4294967295=x%4294967296:=by
 unfold i_
 rw[BitVec.toNat_and,BitVec.toNat_ofInt,BitVec.toNat_ofInt]
 have e:(((4294967295:Int)%((2^IntKind.u64.bits:Nat):Int)).toNat)=2^32-1:=by decide
 rw[e,Nat.and_two_pow_sub_one_eq_mod,yE]
 have e2:((2^IntKind.u64.bits:Nat):Int)=18446744073709551616:=by decide
 rw[e2]
 omega
theorem Tj{x:Int}(h0:x≠0)(h1:0≤x)(h2:x<18446744073709551616):IntKind.i64.wrap x≠0:=by
 obtain⟨k,hk⟩:=Ij x
 rw[hk];omega
theorem Ti{x:Int}(h0:x≠0)(h1:0≤x)(h2:x<4294967296):IntKind.i32.wrap x≠0:=by
 have e:IntKind.i32.wrap x=x%4294967296∨IntKind.i32.wrap x=x%4294967296-4294967296:=by
  unfold IntKind.wrap
  simp only
  split
  ·right;rfl
  ·left;rfl
 omega
theorem Yl{op a b:Int}(h1:1≤op)(h2:op≤15)(hb:4≤op→op≤7→b≠0∧0≤b∧b<18446744073709551616):Def (Sh.EL op a b):=by
 unfold Sh.EL
 refine a8.bif (fun c=>Def.some) fun c1=>a8.bif (fun c=>Def.some) fun c2=>a8.bif (fun c=>Def.some) fun c3=>a8.bif (fun c=>?_) fun c4=>a8.bif (fun c=>?_) fun c5=>a8.bif (fun c=>?_) fun c6=>a8.bif (fun c=>?_) fun c7 =>
  a8.bif (fun c=>Def.some) fun c8=>a8.bif (fun c=>Def.some) fun c9=>a8.bif (fun c=>Def.some) fun c10=>a8.bif (fun c=>a8.must (tF _ _) Def.some) fun c11=>a8.bif (fun c=>a8.must (tF _ _) Def.some) fun c12=>a8.bif (fun c=>a8.must (tF _ _) Def.some) fun zi =>
  a8.bif (fun c=>Def.some) fun Aj=>a8.bif (fun c=>Def.some) fun Ak=>?_
 all_goals simp only[aa6,aaE]at *
 ·obtain⟨k1,k2,k3⟩:=hb adr adr;exact a8.must (abf k1) Def.some
 ·obtain⟨k1,k2,k3⟩:=hb adr adr;exact a8.must (abf k1) Def.some
 ·obtain⟨k1,k2,k3⟩:=hb adr adr;exact a8.must (abf (Tj k1 k2 k3)) Def.some
 ·obtain⟨k1,k2,k3⟩:=hb adr adr;exact a8.must (abf (Tj k1 k2 k3)) Def.some
 ·omega
theorem V3{op a b:Int}(h:op=4∨op=5∨op=6∨op=7∨op=11∨op=12∨op=13)(hb:4≤op→op≤7→b≠0∧0≤b∧b<4294967296):Def (Sh.GX op a b):=by
 unfold Sh.GX
 refine a8.bif (fun c=>?_) fun c4=>a8.bif (fun c=>?_) fun c5=>a8.bif (fun c=>?_) fun c6=>a8.bif (fun c=>?_) fun c7 =>
  a8.bif (fun c=>a8.must (tF _ _) Def.some) fun c11=>a8.bif (fun c=>Def.bind Def.some fun _=>a8.must (tF _ _) Def.some) fun c12=>a8.bif (fun c=>a8.must (tF _ _) Def.some) fun zi=>?_
 all_goals simp only[aa6,aaE]at *
 ·obtain⟨k1,k2,k3⟩:=hb adr adr
  refine a8.must (abf ?_) Def.some
  show i_ .u64 b 4294967295≠0
  rw[N7];omega
 ·obtain⟨k1,k2,k3⟩:=hb adr adr
  refine a8.must (abf ?_) Def.some
  show i_ .u64 b 4294967295≠0
  rw[N7];omega
 ·obtain⟨k1,k2,k3⟩:=hb adr adr;exact a8.must (abf (Ti k1 k2 k3)) Def.some
 ·obtain⟨k1,k2,k3⟩:=hb adr adr;exact a8.must (abf (Ti k1 k2 k3)) Def.some
 ·omega
theorem LX{op:Int}(h1:1≤op)(h2:op≤15):∃ f,Fx.jy w8 op=some f:=by
 have:op=1∨op=2∨op=3∨op=4∨op=5∨op=6∨op=7∨op=8∨op=9∨op=10∨op=11∨op=12∨op=13∨op=14∨op=15:=adr
 rcases this with rfl|rfl|rfl|rfl|rfl|rfl|rfl|rfl|rfl|rfl|rfl|rfl|rfl|rfl|rfl<;>exact⟨_,rfl⟩
theorem LW{op:Int}(h1:1≤op)(h2:op≤15):((Fx.jy nu op).isSome=true∧(op=4∨op=5∨op=6∨op=7∨op=11∨op=12∨op=13))∨((Fx.jy nu op).isSome=false ∧ ¬ (4≤op∧op≤7)):=by
 have:op=1∨op=2∨op=3∨op=4∨op=5∨op=6∨op=7∨op=8∨op=9∨op=10∨op=11∨op=12∨op=13∨op=14∨op=15:=adr
 rcases this with rfl|rfl|rfl|rfl|rfl|rfl|rfl|rfl|rfl|rfl|rfl|rfl|rfl|rfl|rfl<;>first|exact .inl ⟨rfl,by decide⟩|exact .inr ⟨rfl,by decide⟩
theorem V7(op:Int):Sh.wD op=some (decide (4≤op∧op≤7)):=by
 unfold Sh.wD
 by_cases h:4≤op<;>simp[h,Fx.seq,Fx.fin,Sh.vU]
theorem Yu(op:Int)(nr:Bool)(a b:Int):Def (Sh.GY op nr a b):=by
 unfold Sh.GY
 refine a8.seqm (R:=fun v=>v=false→1≤op∧op≤15) (a8.bif (fun c=>a8.some (by simp)) fun c=>a8.some ?_) fun v hv=>?_
 ·simp only[aaE,aa6]at *; intro h;omega
 unfold Sh.aDr
 refine a8.bif (fun _=>Def.some) fun c=>?_
 obtain⟨h1,h2⟩:=hv c
 refine a8.seqm (R:=fun v=>(0≤v.2∧v.2<18446744073709551616)∧(nr=true→v.2<4294967296)) (a8.bif (fun c=>?_) fun c=>?_) fun v hv=>?_
 ·refine a8.bindm (R:=fun _=>True) Def.some fun y _=>a8.some ?_
  show(0≤i_ .u64 _ _∧i_ .u64 _ _<_)∧(nr=true→i_ .u64 _ _<_)
  rw[N7];omega
 ·refine a8.some ⟨?_,fun k=>by rw[c]at k;cases k⟩
  show 0≤IntKind.u64.wrap b∧IntKind.u64.wrap b<_
  rw[yE];omega
 obtain⟨x,y⟩:=v
 obtain⟨k1,k2⟩:=hv
 simp only at k1 k2
 unfold Sh.aDs
 refine a8.seqm (R:=fun v=>v=false→4≤op→op≤7→y≠0) (a8.bif (fun c=>?_) fun c=>a8.some ?_) fun v hv=>?_
 ·rw[V7]
  refine a8.some ?_
  simp only[aaE]
  intro h h3 h4;exact absurd ⟨h3,h4⟩ h
 ·simp only[aaE]at c
  intro _ _ _;exact c
 unfold Sh.aDt
 refine a8.bif (fun _=>Def.some) fun c=>?_
 have hy:=hv c
 obtain⟨f,hf⟩:=LX h1 h2
 rw[hf]
 have W:(4≤op→op≤7→y≠0)→Def (Sh.EL op x y):=fun hy=>Yl h1 h2 fun h3 h4=>⟨hy h3 h4,k1.1,k1.2⟩
 refine a8.bif (fun c=>Def.bind (W hy) fun _=>Def.some) fun c=>?_
 have hnr:nr=true:=by cases nr<;>simp_all
 rcases LW h1 h2 with⟨e,hn⟩|⟨e,hn⟩
 ·rw[e]
  obtain⟨g,hg⟩:=abR.1 e
  rw[hg]
  exact Def.bind (V3 hn fun h3 h4=>⟨hy h3 h4,k1.1,k2 hnr⟩) fun _=>Def.some
 ·rw[e]
  exact Def.bind (W fun h3 h4=>absurd ⟨h3,h4⟩ hn) fun _=>Def.some
theorem Ia(op:Int)(nr:Bool)(a b:Int):Def (Sh.xC op nr a b):=by
 unfold Sh.xC
 refine Def.seq (Def.bif Def.some Def.some) fun _=>?_
 unfold Sh.zG
 refine Def.seq (Def.seq (Def.seq (Def.seq ?_ fun _=>?_) fun _=>?_) fun _=>?_) fun _=>?_
 ·repeat' first|exact Def.some|apply Def.bif
 all_goals exact Def.bind (Def.seq (Def.bif Def.some Def.some) fun _=>Def.bif Def.some (Def.bif Def.some Def.some)) fun _=>Def.some
theorem V9(a:Int)(b:Bool)(c:Int):Def (Sh.GM a b c) :=
 Def.seq (Def.bif Def.some (Def.bif Def.some (Def.seq (Def.bif Def.some Def.some) fun _=>Def.bif Def.some Def.some))) fun _=>Def.bif Def.some Def.some
theorem Yc(a:Int)(b:Bool)(c:Int):Def (Sh.GV a b c) :=
 Def.seq (Def.bif Def.some Def.some) fun _=>Def.bif (Def.bind Def.some fun _=>Def.some) (Def.bif Def.some (Def.seq (Def.bif Def.some Def.some) fun _=>Def.bif (Def.bind Def.some fun _=>Def.some) (Def.bif Def.some (Def.seq (Def.bif Def.some Def.some) fun _ =>
  Def.bif (Def.bind Def.some fun _=>Def.some) (Def.bif Def.some Def.some)))))
theorem YJ(l:List UInt8)(b:Bool):Def (Sh.aGs l b):=by
 unfold Sh.aGs
 refine a8.seqm (R:=fun v=>v=false→l.length≤8) (a8.bif (fun c=>a8.some (by simp)) fun c=>a8.some (by simp only[aaE];omega)) fun v hv=>?_
 unfold Sh.GN
 refine a8.bif (fun _=>Def.some) fun c=>?_
 have h8:=hv c
 refine Def.seq ?_ fun v=>?_
 ·refine a8.loop (fun s:Int×Int=>(l.length-s.1.toNat)) (fun s=>0≤s.1∧s.1≤8) (fun s hs=>?_) _ ⟨adr,adr⟩
  obtain⟨i,a⟩:=s
  simp only at hs
  show a8 (Sh.xW l i a) _
  unfold Sh.xW
  refine a8.bif (fun c=>?_) fun c=>a8.some trivial
  simp only[aa6]at c
  refine a8.bind (a8.get hs.1 c fun x _=>a8.must (abf (by rw[jg adr];omega)) (a8.some ?_))
  show(0≤IntKind.i64.wrap (i+1)∧IntKind.i64.wrap (i+1)≤8)∧l.length-(IntKind.i64.wrap (i+1)).toNat<l.length-i.toNat
  rw[jg adr]
  omega
 ·unfold Sh.GQ
  have e:IntKind.i64.wrap (64-IntKind.i64.wrap (8*(l.length:Int)))=64-8*(l.length:Int):=by rw[jg (x:=8*(l.length:Int)) adr,jg adr]
  rw[e]
  exact Def.bif (a8.must (abf adr) (a8.must (abf adr) Def.some)) Def.some
theorem Ob{X:Type}{z:X}{n:Nat}(b:Nat)(hn:n≤1099511627776)(hb:b≤256):Fx.mk b z (n:Int)=some (List.replicate n z):=by
 unfold Fx.mk
 rw[aaJ]
 ·simp
 ·have:b*n≤256*1099511627776:=Nat.mul_le_mul hb hn
  have h2:((b:Int)*(n:Int))=((b*n:Nat):Int):=by simp
  omega
theorem S5{n:Int}(x:Int)(h0:1≤n)(h1:n≤8):a8 (Sh.aDk n x) fun l=>(l.length:Int)=n:=by
 unfold Sh.aDk
 rw[abg adr,abg adr]
 show a8 (Sh.xX n x false) _
 unfold Sh.xX
 obtain⟨m,rfl⟩ : ∃ m:Nat,n=(m:Int):=⟨n.toNat,adr⟩
 rw[abC,Ob 1 adr adr]
 refine a8.seqm (R:=fun l:List UInt8=>l.length=m) ?_ fun l hl=>a8.some adr
 refine a8.loop (fun s:Int×List UInt8=>(m-s.1.toNat)) (fun s=>(0≤s.1∧s.1≤8)∧s.2.length=m) (fun s hs=>?_) _ ⟨⟨adr,adr⟩,by simp⟩
 obtain⟨i,a⟩:=s
 simp only at hs
 show a8 (Sh.xY x (List.replicate m 0) i a) _
 unfold Sh.xY
 refine a8.bif (fun c=>?_) fun c=>a8.some hs.2
 simp only[aa6,abS]at c
 refine a8.must (abf (by rw[jg adr];omega)) (a8.bind (a8.get hs.1.1 adr fun x _=>a8.some ?_))
 show((0≤IntKind.i64.wrap (i+1)∧IntKind.i64.wrap (i+1)≤8)∧(a.set i.toNat _).length=m)∧m-(IntKind.i64.wrap (i+1)).toNat<m-i.toNat
 rw[jg adr,abT]
 omega
structure Form(i:b9):Prop where
 op:1≤i.op∧i.op≤39
 dst:0≤i.dst∧i.dst≤10
 src:0≤i.src∧i.src≤10
 off : -32768≤i.off∧i.off≤32767
 size:22≤i.op→i.op≤25→1≤i.size∧i.size≤8
 k_:i.op=21→0≤i.k_
theorem GL(x:Int):∃ b,Sh.nM x=some b:=by
 obtain⟨b,h,_⟩ : Def (Sh.nM x):=by
  unfold Sh.nM
  refine Def.seq ?_ fun _=>Def.some
  repeat' first|exact Def.some|apply Def.bif
 exact⟨b,h⟩
theorem WI(i:b9):a8 (Sh.xP i) fun b=>b=true→(1≤i.op∧i.op≤39)∧(22≤i.op→i.op≤25→1≤i.size∧i.size≤8):=by
 unfold Sh.xP
 obtain⟨y,hy⟩:=GL i.op
 rw[hy]
 refine a8.seqm (R:=fun v=>v.2=true→(1≤i.op∧i.op≤39)∧(22≤i.op→i.op≤25→1≤i.size∧i.size≤8)) ?_ fun v hv=>?_
 ·refine a8.seqm (R:=fun v=>v=false→1≤i.op∧i.op≤39) (a8.bif (fun c=>a8.some (by simp)) fun c=>a8.some ?_) fun v hv=>?_
  ·simp only[aaE]at *; intro h;omega
  unfold Sh.wF
  refine a8.bif (fun c=>a8.some (by simp)) fun c=>?_
  have h0:=hv c
  refine a8.bif (fun c=>?_) fun c1=>?_
  ·simp only[aa6]at c
   refine a8.seqm (R:=fun _=>True) ?_ fun v _=>a8.some (fun _=>⟨h0,fun _=>by omega⟩)
   repeat' first|exact a8.some trivial|(apply a8.bif<;>intro _)
  refine a8.seqm (R:=fun v=>v=true↔(17≤i.op∧i.op≤19)) (a8.bif (fun c=>a8.some ?_) fun c=>a8.some ?_) fun v hv=>?_
  ·simp only[aaE,aa6]at *; omega
  ·simp only[aaE,aa6,abQ,false_iff]at *; omega
  unfold Sh.wG
  simp only[aaE]at c1
  refine a8.bif (fun c=>?_) fun c2=>?_
  ·have:=hv.1 c
   repeat' first|exact a8.some (fun _=>⟨h0,fun _=>by omega⟩)|(apply a8.bif<;>intro _)
  have c3:¬ (17≤i.op∧i.op≤19):=fun h=>by rw[hv.2 h]at c2;cases c2
  refine a8.seqm (R:=fun v=>v=true↔(i.op=22∨i.op=24)) (a8.bif (fun c=>a8.some ?_) fun c=>a8.some ?_) fun v hv=>?_
  ·exact⟨fun _=>.inl (by simpa using c),fun _=>rfl⟩
  ·simp only[aaE,aa6]at *; omega
  unfold Sh.wH
  refine a8.bif (fun c=>?_) fun c4=>?_
  ·repeat' first|(apply a8.bif<;>intro _)
   all_goals (refine a8.some fun k=>⟨h0,fun _ _=>?_⟩;simp only[aa6]at *; omega)
  have c5:¬ (i.op=22∨i.op=24):=fun h=>by rw[hv.2 h]at c4;cases c4
  refine a8.bif (fun c=>?_) fun c6=>?_
  ·repeat' first|(apply a8.bif<;>intro _)
   all_goals (refine a8.some fun k=>⟨h0,fun _ _=>?_⟩;simp only[aa6]at *; omega)
  refine a8.bif (fun c=>?_) fun c7=>?_
  ·repeat' first|(apply a8.bif<;>intro _)
   all_goals (refine a8.some fun k=>⟨h0,fun _ _=>?_⟩;simp only[aa6]at *; omega)
  simp only[aaE]at c6 c7
  refine a8.seqm (R:=fun _=>True) ?_ fun v _=>?_
  ·repeat' first|exact a8.some trivial|(apply a8.bif<;>intro _)
  ·unfold Sh.wI
   repeat' first|exact a8.some (fun _=>⟨h0,fun _=>by omega⟩)|(apply a8.bif<;>intro _)
 ·unfold Sh.wE
  refine a8.seqm (R:=fun b=>b=true→v.2=true) ?_ fun b hb=>a8.some fun h=>hv (hb h)
  obtain⟨v1,v2⟩:=v
  cases v2
  ·exact a8.some (by simp)
  ·simp only[abA]
   repeat' first|exact a8.some (fun _=>trivial)|(apply a8.bif<;>intro _)
theorem SA(x:Int)(w:Bool):a8 (Sh.wJ x w) fun b=>b=true→0≤x∧x≤10:=by
 unfold Sh.wJ
 refine a8.seqm (R:=fun b=>b=true→0≤x∧x≤10) ?_ fun b hb=>a8.some hb
 refine a8.bif (fun c1=>a8.bif (fun c2=>?_) fun _=>a8.some (by simp)) fun _=>a8.some (by simp)
 simp only[aa6]at c1 c2
 exact a8.bif (fun _=>a8.some fun _=>⟨c1,c2⟩) fun _=>a8.some fun _=>⟨c1,c2⟩
theorem vA(x y:Int):Def (Sh.nP x y):=by
 unfold Sh.nP
 refine Def.bif Def.some (Def.seq ?_ fun _=>Def.bif Def.some Def.some)
 repeat' first|exact Def.some|apply Def.bif
theorem Wc(i:b9):a8 (Sh.vV i) fun b=>b=true→i.op=21→0≤i.k_:=by
 unfold Sh.vV
 refine a8.bif (fun c=>a8.some fun _ k=>?_) fun _=>?_
 ·simp only[aa6]at c;omega
 refine a8.seqm (R:=fun _=>True) ?_ fun v _=>?_
 ·repeat' first|exact a8.some trivial|(apply a8.bif<;>intro _)
 unfold Sh.uZ
 refine a8.bif (fun c=>a8.some (by simp)) fun _=>?_
 refine a8.seqm (R:=fun v=>v=true→i.op≠21) ?_ fun v hv=>?_
 ·repeat' first|(apply a8.bif<;>intro _)
  all_goals (refine a8.some ?_;simp only[aa6]at *; intro _;omega)
 unfold Sh.vA
 refine a8.bif (fun c=>a8.some fun _ k=>absurd k (hv c)) fun _=>?_
 refine a8.seqm (R:=fun v=>v=true→i.op≠21) ?_ fun v hv=>?_
 ·repeat' first|(apply a8.bif<;>intro _)
  all_goals (refine a8.some ?_;simp only[aa6]at *; intro _;omega)
 unfold Sh.vB
 refine a8.bif (fun c=>?_) fun _=>a8.bif (fun c=>?_) fun _=>a8.bif (fun c=>a8.some fun h _=>by simpa using h) fun c=>a8.some fun _ k=>?_
 ·refine a8.seqm (R:=fun _=>True) ?_ fun v _=>a8.some fun _ k=>absurd k (hv c)
  repeat' first|exact a8.some trivial|(apply a8.bif<;>intro _)
 ·simp only[aa6]at c
  refine a8.bindm (R:=fun _=>True) ?_ fun v _=>a8.some fun _ k=>by omega
  unfold Sh.GL
  refine Def.seq ?_ fun _=>Def.bif Def.some (Def.bind (vA _ _) fun _=>Def.some)
  repeat' first|exact Def.some|apply Def.bif
 ·simp only[aaE]at c;omega
theorem Y8(i:b9):a8 (Sh.GR i) fun u=>i.op=21→u.2.2.2=true:=by
 unfold Sh.GR
 obtain⟨y,hy⟩:=GL i.op
 refine a8.seqm (R:=fun _=>True) ?_ fun v1 _=>?_
 ·repeat' first|exact a8.some trivial|(apply a8.bif<;>intro _)
 refine a8.seqm (R:=fun _=>True) ?_ fun v2 _=>?_
 ·repeat' first|exact a8.some trivial|(apply a8.bif<;>intro _)
 refine a8.seqm (R:=fun _=>True) ?_ fun v3 _=>?_
 ·repeat' first|exact a8.some trivial|(apply a8.bif<;>intro _)
 unfold Sh.Gu
 rw[hy]
 refine a8.seqm (R:=fun _=>True) (a8.bind (a8.some ?_)) fun v4 _=>?_
 ·repeat' first|exact a8.some trivial|(apply a8.bif<;>intro _)
 refine a8.seqm (R:=fun _=>True) ?_ fun v5 _=>?_
 ·repeat' first|exact a8.some trivial|(apply a8.bif<;>intro _)
 unfold Sh.aAg
 rw[hy]
 refine a8.seqm (R:=fun v=>i.op=21→v=true) (a8.bind (a8.some ?_)) fun v6 h6=>a8.some h6
 repeat' first|exact a8.some (fun _=>rfl)|(apply a8.bif<;>intro _)
 all_goals (refine a8.some fun k=>?_;simp only[aaE]at *; omega)
theorem X6(i:b9):a8 (Sh.aAe i) fun e=>e=0→Form i:=by
 unfold Sh.aAe
 refine a8.bindm (WI i) fun f hf=>a8.bif (fun _=>a8.some (by simp)) fun c1=>a8.bindm (Y8 i) fun u hu=>?_
 have F:=hf (by simpa using c1)
 have wd:∀ x,a8 (Sh.qP x) fun _=>True:=fun x=>by
  unfold Sh.qP
  exact Def.seq (Def.bif Def.some Def.some) fun _=>Def.some
 refine a8.seqm (R:=fun v=>v=false→(u.1=true→0≤i.dst∧i.dst≤10)∧(u.2.1=true→0≤i.src∧i.src≤10)) ?_ fun v hv=>?_
 ·refine a8.seqm (R:=fun v=>v=false→u.1=true→0≤i.dst∧i.dst≤10) (a8.bif (fun c=>?_) fun c=>a8.some fun _ k=>by rw[c]at k;cases k) fun v hv=>?_
  ·exact a8.bindm (wd _) fun _ _=>a8.bindm (SA _ _) fun b hb=>a8.some fun h _=>hb (by simpa using h)
  ·refine a8.bif (fun c=>a8.some fun k=>by rw[c]at k;cases k) fun c=>a8.bif (fun c2=>?_) fun c2=>a8.some fun _=>⟨hv c,fun k=>by rw[c2]at k;cases k⟩
   exact a8.bindm (vA _ _) fun _ _=>a8.bindm (SA _ _) fun b hb=>a8.some fun h=>⟨hv c,fun _=>hb (by simpa using h)⟩
 unfold Sh.yB
 refine a8.bif (fun _=>a8.some (by simp)) fun c2=>?_
 obtain⟨hd,hs⟩:=hv c2
 refine a8.seqm (R:=fun v=>v=false→(0≤i.dst∧i.dst≤10)∧(0≤i.src∧i.src≤10)∧(-32768≤i.off∧i.off≤32767)) ?_ fun v hv=>?_
 ·refine a8.seqm (R:=fun v=>v=false→0≤i.dst∧i.dst≤10) (a8.bif (fun c=>a8.some ?_) fun c=>a8.some fun _=>hd (by simpa using c)) fun v hv=>?_
  ·intro h;simp at h;omega
  refine a8.bif (fun c=>a8.some fun k=>by rw[c]at k;cases k) fun c=>?_
  have hd:=hv c
  refine a8.seqm (R:=fun v=>v=false→0≤i.src∧i.src≤10) (a8.bif (fun c=>a8.some ?_) fun c=>a8.some fun _=>hs (by simpa using c)) fun v hv=>?_
  ·intro h;simp at h;omega
  refine a8.bif (fun c=>a8.some fun k=>by rw[c]at k;cases k) fun c=>?_
  have hs:=hv c
  refine a8.seqm (R:=fun v=>True) (a8.bif (fun c=>a8.some trivial) fun c=>a8.some trivial) fun v hv=>?_
  refine a8.bif (fun c=>a8.some fun k=>by rw[c]at k;cases k) fun c=>a8.bif (fun c=>a8.some fun k=>by rw[c]at k;cases k) fun c=>a8.some fun k=>⟨hd,hs,?_⟩
  simp only[aaE]at c k
  omega
 unfold Sh.yC
 refine a8.bif (fun _=>a8.some (by simp)) fun c3=>?_
 obtain⟨hd,hs,ho⟩:=hv c3
 refine a8.seqm (R:=fun v=>v=false→i.op=21→0≤i.k_) ?_ fun v hv=>a8.bif (fun _=>a8.some (by simp)) fun c=>a8.some fun _=>⟨F.1,hd,hs,ho,F.2,hv c⟩
 refine a8.seqm (R:=fun v=>True) (a8.bif (fun c=>a8.some trivial) fun c=>a8.some trivial) fun v hv=>?_
 refine a8.bif (fun c=>a8.some fun k=>by rw[c]at k;cases k) fun c=>a8.bif (fun c=>a8.bindm (Wc i) fun b hb=>a8.some fun h=>hb (by simpa using h)) fun c=>a8.some fun _ k=>?_
 rw[hu k]at c;cases c
theorem Xq(l:List b9):a8 (Sh.aAb l) fun r=>r.2=0→l.length≤4096 ∧ ∀ i∈l,Form i:=by
 unfold Sh.aAb
 refine a8.seqm (R:=fun _=>l.length≤4096 ∧ ∀ i∈l,Form i) ?_ fun _ h=>a8.some fun _=>h
 refine a8.loop (fun s:Int=>4097-s.toNat) (fun s=>(0≤s∧s≤4096∧s≤(l.length:Int)) ∧ ∀ i∈l.take s.toNat,Form i) (fun s hs=>?_) 0 ⟨adr,by simp⟩
 obtain⟨⟨h0,h1,h3⟩,h2⟩:=hs
 show a8 (Sh.xZ l s) _
 unfold Sh.xZ
 refine a8.bif (fun c=>?_) fun c=>a8.some ?_
 ·simp only[aa6]at c
  refine a8.bind (a8.get h0 c fun x hx=>a8.bif (fun _=>a8.some (by simp)) fun c4=>a8.bindm (X6 x) fun e he=>a8.bif (fun c5=>a8.some fun k=>?_) fun c5=>a8.some ?_)
  ·simp only[aaC,aaE]at c5;exact absurd k c5
  ·simp only[abU,aa6,aaE]at c5 c4
   show((0≤IntKind.i64.wrap (s+1)∧IntKind.i64.wrap (s+1)≤4096∧IntKind.i64.wrap (s+1)≤(l.length:Int)) ∧ ∀ i∈l.take (IntKind.i64.wrap (s+1)).toNat,Form i)∧4097-(IntKind.i64.wrap (s+1)).toNat<4097-s.toNat
   rw[jg adr]
   refine⟨⟨adr,fun i hi=>?_⟩,adr⟩
   rw[show(s+1).toNat=s.toNat+1 by omega,abI,hx]at hi
   rcases aaR.1 hi with hi|hi
   ·exact h2 i hi
   ·obtain rfl:i=x:=by simpa using hi
    exact he c5
 ·simp only[aaE]at c
  have e:s.toNat=l.length:=adr
  rw[e,abV]at h2
  exact⟨adr,h2⟩
end Go.Sp
end
section
namespace Go.Sp
open Go Go.Fw Go.Fx Go.Proofs
structure lw(sz:List gG)(v:ak):Prop where
 near:2≤v.kind → -1048576≤v.x∧v.x≤1048576
 tab:5≤v.kind→(0≤v.table∧v.table<(sz.length:Int)) ∧ ∀ t,sz[v.table.toNat]? = some t→0≤v.row∧v.row<t.rows
structure y_(sz:List gG)(st:Vec bn 32)(cx:List UInt8)(tb:List (List UInt8))(n:Nat):Prop where
 slots:∀ s∈st.l,lw sz s.ptr
 b_:cx.length=n
 tl:tb.length=sz.length
 tab:∀ (i:Nat) (t:gG) (b:List UInt8),sz[i]? = some t→tb[i]? = some b→(b.length:Int)=t.rows*t.wide
structure Env(data:List UInt8)(sz:List gG)(n:Nat):Prop where
 data:data.length≤4096
 few:sz.length≤8
 sz:∀ t∈sz,(1≤t.rows∧t.rows≤64)∧(1≤t.wide∧t.wide≤64)
 b_:n≤65535
structure zd(m:aj)(n:Nat):Prop where
 env:Env m.ae.data m.ae.sizes n
 mem:y_ m.ae.sizes m.ae.bp m.ae.b_ m.ae.ah n
 bk:∀ v∈m.bk.l,lw m.ae.sizes v
theorem lw.plain{sz:List gG}{v:ak}(h:v.kind≤1):lw sz v:=⟨fun k=>by omega,fun k=>by omega⟩
theorem lw.number{sz:List gG}(x:Int):lw sz (ak.mk 1 0 0 x):=lw.plain (by show(1:Int)≤1;omega)
theorem lw.zero{sz:List gG}:lw sz ak.zero:=lw.plain (by show(0:Int)≤1;omega)
theorem jJ{X:Type}{n:Nat}{P:X→Prop}{v:Vec X n}{k:Nat}{x:X}(h:∀ w∈v.l,P w)(hx:P x):∀ w∈(v.set k x).l,P w:=fun w hw=>by
 rcases abW (show w∈v.l.set k x from hw)with h1|rfl
 ·exact h w h1
 ·exact hx
theorem Nx{l:List UInt8}{i n:Int}(h0:0≤i)(hn:0≤n)(h:i+n≤(l.length:Int)):Fx.nj l i (i+n)=some ((l.drop i.toNat).take ((i+n).toNat-i.toNat)):=by
 unfold Fx.nj
 rw[aaJ ⟨h0,adr,h⟩]
theorem qL{l:List UInt8}(h:l.length≤1099511627776):Sh.aM l=some l:=(cK (by simp;omega) (by simp;omega)).trans (by rw[abX])
structure Room(m:aj)(v:ak)(a n:Int):Prop where
 lo:0≤a
 k2:v.kind=2→a+n≤256
 k3:v.kind=3→a+n≤(m.ae.b_.length:Int)
 k4:v.kind=4→a+n≤(m.ae.data.length:Int)
 k5:v.kind≠2→v.kind≠3→v.kind≠4 → ∀ t,m.ae.sizes[v.table.toNat]? = some t→a+n≤t.wide
section
variable {m:aj}{N:Nat}(G:zd m N){v:ak}(hv:lw m.ae.sizes v)(hk:2≤v.kind)
include G hv hk
theorem SS(h2:v.kind≠2)(h3:v.kind≠3)(h4:v.kind≠4):(0≤v.table∧v.table<(m.ae.sizes.length:Int)) ∧ ∀ t,m.ae.sizes[v.table.toNat]? = some t→(0≤v.row∧v.row<t.rows)∧(1≤t.rows∧t.rows≤64)∧(1≤t.wide∧t.wide≤64):=by
 obtain⟨h5,h6⟩:=hv.tab adr
 exact⟨h5,fun t ht=>⟨h6 t ht,G.env.sz t (abb ht)⟩⟩
theorem uH{a n:Int}(ha:a≤1000000000000)(hn:0≤n∧n≤1000000000000):a8 (Sh.eH m v a n) fun b=>b=true→Room m v a n:=by
 unfold Sh.eH
 refine a8.seqm (R:=fun b=>b=true→Room m v a n) (a8.bif (fun c=>?_) fun c=>a8.some (by simp)) fun b hb=>a8.some hb
 simp only[aa6]at c
 have e:IntKind.i64.wrap (a+n)=a+n:=jg adr
 rw[e]
 unfold Sh.pF
 refine a8.bind (a8.bif (fun c2=>a8.some (a8.some ?_)) fun c2=>a8.bif (fun c3=>a8.some (a8.some ?_)) fun c3=>a8.bif (fun c4=>a8.some (a8.some ?_)) fun c4=>?_)
 ·simp only[aa6]at *
  exact fun h=>⟨c,fun _=>h,fun k=>by omega,fun k=>by omega,fun k=>by omega⟩
 ·simp only[aa6,aaE]at *
  exact fun h=>⟨c,fun k=>by omega,fun k=>h,fun k=>by omega,fun _ k=>by omega⟩
 ·simp only[aa6,aaE]at *
  exact fun h=>⟨c,fun k=>by omega,fun k=>by omega,fun k=>h,fun _ _ k=>by omega⟩
 ·simp only[aa6,aaE]at *
  obtain⟨h1,h2⟩:=SS G hv hk c2 c3 c4
  refine a8.bind (a8.get h1.1 h1.2 fun t ht=>a8.some (a8.some fun h=>⟨c,fun k=>by omega,fun k=>by omega,fun k=>by omega,fun _ _ _ u hu=>?_⟩))
  rw[ht]at hu
  cases hu
  simpa using h
omit G hv hk in
theorem sP{a n:Int}(hn:0≤n)(hr:Room m v a n):Def (Sh.eJ m v a n):=by
 unfold Sh.eJ
 refine a8.seqm (R:=fun b=>b=false→v.kind=2) (a8.bif (fun c=>a8.some (by simp)) fun c=>a8.some fun _=>by simpa using c) fun b hb=>?_
 unfold Sh.kF
 refine a8.bif (fun _=>Def.some) fun c=>?_
 have h2:=hr.k2 (hb c)
 have h0:=hr.lo
 refine Def.seq ?_ fun _=>Def.some
 refine a8.loop (fun s:Int×Int=>(a+n-s.1).toNat) (fun s=>0≤s.1∧s.1≤a+n) (fun s hs=>?_) _ ⟨h0,by show a≤a+n;omega⟩
 obtain⟨i,e⟩:=s
 simp only at hs
 show a8 (Sh.gP m a n i e) _
 unfold Sh.gP
 have e1:IntKind.i64.wrap (a+n)=a+n:=jg adr
 rw[e1]
 refine a8.bif (fun c=>?_) fun c=>a8.some trivial
 simp only[aa6]at c
 have e2:Int.tdiv i 8=i/8:=abY hs.1
 have e3:Int.tmod i 8=i%8:=abZ hs.1
 rw[e2,e3,jg (x:=i/8) adr]
 refine a8.seqm (R:=fun _=>True) ?_ fun x _=>a8.some ?_
 ·refine a8.bind (a8.getv adr (by show i/8<32;omega) fun s _=>a8.bif (fun _=>a8.some trivial) fun _=>a8.must (abf adr) (a8.bif (fun _=>a8.some trivial) fun _=>a8.some trivial))
 ·show(0≤IntKind.i64.wrap (i+1)∧IntKind.i64.wrap (i+1)≤a+n)∧(a+n-IntKind.i64.wrap (i+1)).toNat<(a+n-i).toNat
  rw[jg adr]
  omega
theorem JF{a n:Int}(hn:0≤n)(hr:Room m v a n)(h2:v.kind≠2)(h3:v.kind≠3)(h4:v.kind≠4):a8 (Sh.pH m v a n) fun y=>y.2.2.length=n.toNat∧(0≤y.2.1∧y.2.1+n≤(y.1.length:Int))∧y.2.1≤4096∧m.ae.ah[v.table.toNat]? = some y.1:=by
 unfold Sh.pH
 obtain⟨h5,h6⟩:=SS G hv hk h2 h3 h4
 refine a8.bind (a8.get h5.1 h5.2 fun t ht=>a8.bind (a8.get h5.1 (by rw[G.mem.tl];exact h5.2) fun b hb=>?_))
 obtain⟨⟨k1,k2⟩,⟨k3,k4⟩,k5,k6⟩:=h6 t ht
 have hw:=hr.k5 h2 h3 h4 t ht
 have hl:=G.mem.tab _ t b ht hb
 have h0:=hr.lo
 have p1:0≤v.row*t.wide:=Int.mul_nonneg k1 adr
 have p2:(v.row+1)*t.wide≤t.rows*t.wide:=ab0 adr adr
 have p3:(v.row+1)*t.wide=v.row*t.wide+t.wide:=by rw[Int.add_mul,Int.one_mul]
 have p4:t.rows*t.wide≤64*64:=by
  have q1:t.rows*t.wide≤64*t.wide:=ab0 adr adr
  have q2:64*t.wide≤64*64:=adr
  omega
 generalize v.row*t.wide=q at *
 generalize t.rows*t.wide=z at *
 rw[jg (x:=q) adr,jg (x:=q+a) adr,jg (x:=q+a+n) adr]
 rw[Nx adr hn adr]
 refine a8.bind (a8.some (a8.some ⟨?_,⟨by show 0≤q+a;omega,by show q+a+n≤(b.length:Int);omega⟩,by show q+a≤4096;omega,hb⟩))
 show(List.take ((q+a+n).toNat-(q+a).toNat) (List.drop (q+a).toNat b)).length=n.toNat
 rw[abO,abK]
 omega
omit hv in
theorem SL{a n:Int}(hn:0≤n∧n≤1000000000)(hv:lw m.ae.sizes v)(hr:Room m v a n):a8 (Sh.kN m v a n) fun l=>(l.length:Int)=n:=by
 have hc:m.ae.b_.length≤65535:=by have:=G.mem.b_;have:=G.env.b_;omega
 have hd:=G.env.data
 have h0:=hr.lo
 unfold Sh.kN
 refine a8.bif (fun c2=>?_) fun c2=>?_
 ·refine a8.bif (fun c=>?_) fun c3=>a8.bif (fun c=>?_) fun c4=>?_
  ·have k:=hr.k3 (by simpa using c)
   unfold Sh.pG
   rw[jg adr,Nx h0 hn.1 k]
   refine a8.bind (a8.bind (a8.some (a8.some ?_)))
   rw[qL (by rw[abO,abK];omega)]
   refine a8.bind (a8.some (a8.some ?_))
   rw[abO,abK];omega
  ·have k:=hr.k4 (by simpa using c)
   unfold Sh.qG
   rw[jg adr,Nx h0 hn.1 k]
   refine a8.bind (a8.bind (a8.some (a8.some ?_)))
   rw[qL (by rw[abO,abK];omega)]
   refine a8.bind (a8.some (a8.some ?_))
   rw[abO,abK];omega
  ·refine a8.bindm (JF G hv hk hn.1 hr (by simpa using c2) (by simpa using c3) (by simpa using c4)) fun y hy=>?_
   rw[qL adr]
   exact a8.bind (a8.some (a8.some adr))
 ·have h2:=hr.k2 (by simpa using c2)
  obtain⟨k,rfl⟩ : ∃ k:Nat,n=(k:Int):=⟨n.toNat,adr⟩
  rw[Ob 1 adr adr]
  refine a8.bind (a8.some (a8.seqm (R:=fun l=>(l.length:Int)=(k:Int)) ?_ fun l hl=>a8.some hl))
  refine a8.loop (fun s:Int×List UInt8=>((k:Int)-s.1).toNat) (fun s=>(0≤s.1∧s.1≤(k:Int))∧s.2.length=k) (fun s hs=>?_) _ ⟨⟨adr,by show(0:Int)≤(k:Int);omega⟩,by simp⟩
  obtain⟨i,l⟩:=s
  simp only at hs
  obtain⟨hs,hl⟩:=hs
  show a8 (Sh.kL m a (List.replicate k 0) i l) _
  unfold Sh.kL
  refine a8.bif (fun c=>?_) fun c=>a8.some (by show(l.length:Int)=_;omega)
  simp only[aa6,abS]at c
  rw[jg (x:=a+i) adr,abY adr,abZ adr,jg (x:=(a+i)/8) adr]
  refine a8.bind (a8.getv adr (by show(a+i)/8<32;omega) fun s _=>a8.bind (a8.getv adr (by show(a+i)%8<8;omega) fun b _=>a8.bind (a8.get adr adr fun _ _=>a8.some ?_)))
  show((0≤IntKind.i64.wrap (i+1)∧IntKind.i64.wrap (i+1)≤(k:Int))∧(l.set i.toNat b).length=k)∧((k:Int)-IntKind.i64.wrap (i+1)).toNat<((k:Int)-i).toNat
  rw[jg (x:=i+1) adr,abT]
  omega
theorem Tc{a n:Int}{b:Bool}(hn:0≤n∧n≤1000000000)(hr:Room m v a n):Def (Sh.pE m v a n b) :=
 a8.bindm (SL G hk hn hv hr) fun l _=>Def.bind (YJ l b) fun _=>Def.some
abbrev Left(m:aj)(N:Nat)(M:fq):Prop:=y_ m.ae.sizes M.bp M.b_ M.ah N∧M.ah.map List.length=m.ae.ah.map List.length
theorem xG{a:Int}{l:List UInt8}(hl:l.length≤1000000000)(h4:v.kind≠4)(hr:Room m v a (l.length:Int)):a8 (Sh.eY m v a l) fun m'=>Left m N m'.ae:=by
 have hc:m.ae.b_.length≤65535:=by have:=G.mem.b_;have:=G.env.b_;omega
 have h0:=hr.lo
 unfold Sh.eY
 refine a8.bif (fun c2=>?_) fun c2=>?_
 ·refine a8.bif (fun c=>?_) fun c3=>a8.bif (fun c=>absurd (by simpa using c) h4) fun _=>?_
  ·have k:=hr.k3 (by simpa using c)
   unfold Sh.pG
   rw[jg adr,Nx h0 adr k]
   refine a8.bind (a8.bind (a8.some (a8.some ?_)))
   have e:Fx.Ey m.ae.b_ a (a+(l.length:Int)) l=some (put m.ae.b_ a.toNat l):=by
    unfold Fx.Ey
    rw[aaJ ⟨h0,adr,k⟩]
   rw[e]
   exact a8.bind (a8.some (a8.some ⟨⟨G.mem.slots,by show(put m.ae.b_ a.toNat l).length=N;rw[wO adr];exact G.mem.b_,G.mem.tl,G.mem.tab⟩,rfl⟩))
  ·refine a8.bindm (JF G hv hk adr hr (by simpa using c2) (by simpa using c3) h4) fun y hy=>?_
   obtain⟨k1,⟨k2,k3⟩,k4,k5⟩:=hy
   have e:Fx.Ey y.1 y.2.1 (IntKind.i64.wrap (y.2.1+(l.length:Int))) l=some (put y.1 y.2.1.toNat l):=by
    rw[jg adr]
    unfold Fx.Ey
    rw[aaJ ⟨k2,adr,k3⟩]
   rw[e]
   have el:(put y.1 y.2.1.toNat l).length=y.1.length:=wO adr
   have em:(m.ae.ah.set v.table.toNat (put y.1 y.2.1.toNat l)).map List.length=m.ae.ah.map List.length:=by
    apply abr
    intro i
    rw[aby,aby,ab1]
    split
    ·rename_i h
     subst h
     rw[k5,aaJ (aaz.1 k5).1]
     exact congrArg some el
    ·rfl
   refine a8.bind (a8.some (a8.some ⟨⟨G.mem.slots,G.mem.b_,by show(m.ae.ah.set _ _).length=_;rw[abT];exact G.mem.tl,fun i t b ht hb=>?_⟩,em⟩))
   have h1:((m.ae.ah.set v.table.toNat (put y.1 y.2.1.toNat l)).map List.length)[i]? = some b.length:=by rw[aby,hb];rfl
   rw[em,aby]at h1
   obtain⟨b',hb',hlen⟩:=aaI.1 h1
   rw[←hlen]
   exact G.mem.tab i t b' ht hb'
 ·have h2:=hr.k2 (by simpa using c2)
  refine a8.loop (fun s:Vec bn 32×Int=>((l.length:Int)-s.2).toNat) (fun s=>(0≤s.2∧s.2≤(l.length:Int)) ∧ ∀ t∈s.1.l,lw m.ae.sizes t.ptr) (fun s hs=>?_) _ ⟨⟨adr,by show(0:Int)≤_;omega⟩,G.mem.slots⟩
  obtain⟨st,i⟩:=s
  simp only at hs
  obtain⟨hs,hst⟩:=hs
  show a8 (Sh.iU m a l st i) _
  unfold Sh.iU
  refine a8.bif (fun c=>?_) fun c=>a8.some ⟨⟨hst,G.mem.b_,G.mem.tl,G.mem.tab⟩,rfl⟩
  simp only[aa6]at c
  rw[jg (x:=a+i) adr,abY adr,jg (x:=(a+i)/8) adr]
  refine a8.bind (a8.get hs.1 c fun x _=>a8.bind (a8.getv adr (by show(a+i)/8<32;omega) fun s1 _=>?_))
  refine a8.seqm (R:=fun st:Vec bn 32=>∀ t∈st.l,lw m.ae.sizes t.ptr) (a8.bif (fun _=>a8.some (jJ hst lw.zero)) fun _=>a8.some hst) fun st hst=>?_
  unfold Sh.tB
  rw[jg (x:=a+i) adr,abY adr,abZ adr,jg (x:=(a+i)/8) adr]
  have G0:(a+i)/8<32:=adr
  refine a8.bind (a8.getv adr G0 fun s2 k2=>a8.bind (a8.getv adr (by show(a+i)%8<8;omega) fun b _=>a8.bind (a8.getv adr G0 fun s3 k3=>a8.must (abf adr) (a8.bind (a8.getv adr G0 fun s4 k4=>a8.some ?_)))))
  have Lh:∀ t∈(st.set ((a+i)/8).toNat (bn.mk s2.ptr (s2.bytes.set ((a+i)%8).toNat x) s2.mask)).l,lw m.ae.sizes t.ptr:=jJ hst (hst s2 (abb k2))
  refine⟨⟨?_,jJ Lh (Lh s4 (abb k4))⟩,?_⟩
  ·show 0≤IntKind.i64.wrap (i+1)∧IntKind.i64.wrap (i+1)≤(l.length:Int)
   rw[jg adr];omega
  ·show((l.length:Int)-IntKind.i64.wrap (i+1)).toNat<((l.length:Int)-i).toNat
   rw[jg adr];omega
end
end Go.Sp
end
section
namespace Go.Sp
open Go Go.Fw Go.Fx Go.Proofs
abbrev pe(m:aj)(g:Vec ak 11):Prop:=∀ v∈g.l,lw m.ae.sizes v
def xo(m:aj)(s:List Int):Prop:=s=m.bf∨(m.bf.length<64 ∧ ∃ x,s=m.bf ++ [x])
theorem N2{sz:List gG}{v:ak}(hv:lw sz v)(x:Int):a8 (Sh.tC v x) fun r=>r.2=0→lw sz r.1:=by
 unfold Sh.tC
 refine a8.seqm (R:=fun b=>b=false → -1048576≤IntKind.i64.wrap (v.x+x)∧IntKind.i64.wrap (v.x+x)≤1048576) (a8.bif (fun _=>a8.some (by simp)) fun _=>a8.bif (fun _=>a8.some (by simp)) fun _=>a8.bif (fun _=>a8.some (by simp)) fun c=>a8.some ?_) fun b hb=>?_
 ·intro h;simp only[aaE]at *; omega
 unfold Sh.yD
 refine a8.bif (fun _=>a8.some (by simp)) fun c=>a8.some fun _=>⟨fun _=>hb c,hv.tab⟩
theorem RV(a b:ak):Def (Sh.wL a b):=by
 unfold Sh.wL
 refine Def.seq ?_ fun _=>Def.some
 repeat' first|exact Def.some|apply Def.bif
theorem Zp{sz:List gG}{a b:ak}(ha:lw sz a)(hb:lw sz b)(op:Int):a8 (Sh.aGf op a b) fun r=>r.2=0→lw sz r.1:=by
 unfold Sh.aGf
 refine a8.seqm (R:=fun _=>True) (a8.bif (fun _=>a8.bind (a8.some (a8.bif (fun _=>a8.bind (a8.some (a8.some trivial))) fun _=>a8.some trivial))) fun _=>a8.some trivial) fun v _=>a8.bif (fun _=>a8.bindm (N2 ha _) fun r h=>a8.some h) fun _=>?_
 refine a8.seqm (R:=fun _=>True) (a8.bif (fun _=>a8.bind (a8.some (a8.bif (fun _=>a8.bind (a8.some (a8.some trivial))) fun _=>a8.some trivial))) fun _=>a8.some trivial) fun v _=>a8.bif (fun _=>a8.bindm (N2 hb _) fun r h=>a8.some h) fun _=>?_
 refine a8.seqm (R:=fun _=>True) (a8.bif (fun _=>a8.bind (a8.some (a8.bif (fun _=>a8.bind (a8.some (a8.some trivial))) fun _=>a8.some trivial))) fun _=>a8.some trivial) fun v _=>a8.bif (fun _=>a8.bif (fun _=>a8.some (by simp)) fun _=>a8.bindm (N2 ha _) fun r h=>a8.some h) fun _=>?_
 refine a8.seqm (R:=fun _=>True) (a8.bif (fun _=>a8.bindm (RV _ _) fun _ _=>a8.some trivial) fun _=>a8.some trivial) fun v _=>a8.bif (fun _=>a8.bind (a8.some (a8.some fun _=>lw.number _))) fun _=>a8.some (by simp)
section
variable {m:aj}{N:Nat}(G:zd m N){i:b9}(F:Form i)
include G F
theorem fP{P:ak→Prop}{k:Int}(h0:0≤k)(h1:k≤10)(h:∀ v,m.bk.l[k.toNat]? = some v→lw m.ae.sizes v→P v):a8 (Fx.get m.bk.l k) P:=by
 have _:=F
 exact a8.getv h0 (by show k<11;omega) fun v hv=>h v hv (G.bk v (abb hv))
theorem nF{k:Nat}{v:ak}(h:lw m.ae.sizes v):pe m (m.bk.set k v):=by
 have _:=F
 exact jJ G.bk h
theorem yI:a8 (Sh.fD m i) fun v=>lw m.ae.sizes v:=by
 unfold Sh.fD
 exact a8.bif (fun _=>a8.bind (fP G F F.src.1 F.src.2 fun v _ h=>a8.some h)) fun _=>a8.bind (a8.some (a8.some (lw.number _)))
theorem uW:a8 (Sh.eI m i) fun r=>pe m r.2.2.bk:=by
 have vm:∀ {P:ak→Prop},(∀ v,m.bk.l[i.dst.toNat]? = some v→lw m.ae.sizes v→P v)→a8 (Fx.get m.bk.l i.dst) P:=fun h=>fP G F F.dst.1 F.dst.2 h
 have yh:∀ {v:ak},lw m.ae.sizes v→pe m (m.bk.set i.dst.toNat v):=fun h=>nF G F h
 unfold Sh.eI
 refine a8.seqm (R:=fun v=>lw m.ae.sizes v.1∧lw m.ae.sizes v.2) (a8.bind (vm fun v _ h=>a8.bindm (yI G F) fun w hw=>a8.some ⟨h,hw⟩)) fun v hv=>?_
 obtain⟨a,b⟩:=v
 obtain⟨ha,hb⟩:=hv
 refine a8.seqm (R:=fun v=>lw m.ae.sizes v) (a8.bif (fun _=>a8.bind (a8.some (a8.some (lw.number _)))) fun _=>a8.some hb) fun b hb=>?_
 refine a8.seqm (R:=fun v=>lw m.ae.sizes v) (a8.bif (fun _=>?_) fun _=>a8.some ha) fun a ha=>?_
 ·refine a8.seqm (R:=fun _=>True) (a8.bif (fun _=>a8.some trivial) fun _=>a8.some trivial) fun v _=>a8.bif (fun _=>a8.bind (vm fun _ _ _=>a8.some (yh hb))) fun _=>a8.bind (a8.some (a8.some (lw.number _)))
 refine a8.seqm (R:=fun _=>True) (a8.bind (a8.some (a8.bif (fun _=>a8.bind (a8.some (a8.some trivial))) fun _=>a8.some trivial))) fun v _=>a8.bif (fun _=>?_) fun _=>?_
 ·exact a8.bindm (Yu _ _ _ _) fun y _=>a8.seqm (R:=fun g=>pe m g) (a8.bif (fun _=>a8.bind (a8.some (a8.bind (vm fun _ _ _=>a8.some (yh (lw.number _)))))) fun _=>a8.some G.bk) fun g hg=>a8.some hg
 ·refine a8.seqm (R:=fun _=>True) (a8.bif (fun _=>a8.some trivial) fun _=>a8.bif (fun _=>a8.some trivial) fun _=>a8.some trivial) fun v _=>a8.bif (fun _=>a8.some G.bk) fun _=>?_
  refine a8.bindm (Zp ha hb _) fun y hy=>a8.seqm (R:=fun g=>pe m g) (a8.bif (fun c=>a8.bind (vm fun _ _ _=>a8.some (yh (hy (by simpa using c))))) fun _=>a8.some G.bk) fun g hg=>a8.some hg
theorem nE:a8 (Sh.jP m i) fun r=>pe m r.2.2.bk:=by
 unfold Sh.jP
 refine a8.bind (fP G F F.dst.1 F.dst.2 fun a _ _=>a8.seqm (R:=fun _=>True) (a8.bif (fun _=>a8.bind (fP G F F.src.1 F.src.2 fun _ _ _=>a8.some trivial)) fun _=>a8.some trivial) fun v _=>?_)
 refine a8.seqm (R:=fun g=>pe m g) (a8.bind (a8.some (a8.bif (fun _=>a8.some G.bk) fun _=>a8.bif (fun _=>?_) fun _=>?_))) fun g hg=>a8.some hg
 ·exact a8.bindm (V9 _ _ _) fun _ _=>a8.bind (a8.some (a8.bind (fP G F F.dst.1 F.dst.2 fun _ _ _=>a8.some (nF G F (lw.number _)))))
 ·exact a8.bindm (Yc _ _ _) fun _ _=>a8.bind (a8.some (a8.bind (fP G F F.dst.1 F.dst.2 fun _ _ _=>a8.some (nF G F (lw.number _)))))
theorem yV(hd:i.op=21→i.k_≤(m.ae.data.length:Int)):a8 (Sh.fK m i) fun r=>pe m r.2.2.bk:=by
 unfold Sh.fK
 refine a8.bind (a8.some (a8.bind (fP G F F.dst.1 F.dst.2 fun a ka _=>a8.seqm (R:=fun g=>pe m g) (a8.bif (fun c=>?_) fun _=>a8.some (nF G F (lw.number _))) fun g hg=>a8.some hg)))
 have k:i.op=21:=by simpa using c
 have h1:=hd k
 have h2:=F.k_ k
 have h3:=G.env.data
 have Hk:=F.dst
 refine a8.bind (a8.getv Hk.1 (by show i.dst<11;omega) fun x hx=>a8.some (jJ (nF G F (lw.number _)) ⟨fun _=>?_,fun h=>?_⟩))
 ·have hlen:i.dst.toNat<m.bk.l.length:=by rw[m.bk.h];omega
  have e:(m.bk.set i.dst.toNat (ak.mk 1 0 0 i.k_)).l[i.dst.toNat]? = some (ak.mk 1 0 0 i.k_):=by
   show(m.bk.l.set i.dst.toNat _)[i.dst.toNat]? = _
   rw[ab1,aaJ rfl,aaJ hlen]
  have e2:some x=some (ak.mk 1 0 0 i.k_):=hx.symm.trans e
  obtain rfl:=adp e2
  show -1048576≤i.k_∧i.k_≤1048576
  omega
 ·exact absurd (show(5:Int)≤4 from h) adr
theorem N9{v:ak}(hv:lw m.ae.sizes v)(hk:2≤v.kind):IntKind.i64.wrap (v.x+i.off)=v.x+i.off∧v.x+i.off≤1000000000000:=by
 have _:=G
 have:=hv.near hk
 have:=F.off
 exact⟨jg adr,adr⟩
theorem SZ(ho:22≤i.op∧i.op≤25):a8 (Sh.jO m i) fun r=>pe m r.2.2.bk:=by
 have hs:=F.size ho.1 ho.2
 unfold Sh.jO
 refine a8.bind (fP G F F.src.1 F.src.2 fun v _ hv=>a8.bind (a8.some (a8.bif (fun _=>a8.some G.bk) fun c=>?_)))
 have hk:2≤v.kind:=by simpa using c
 obtain⟨e,hn⟩:=N9 G F hv hk
 rw[e]
 refine a8.bindm (uH G hv hk hn ⟨adr,adr⟩) fun b hb=>a8.bif (fun _=>a8.some G.bk) fun cb=>?_
 have R:=hb (by simpa using cb)
 have h0:=R.lo
 have slot:v.kind=2→i.size=8 → ∀ {P:bn→Prop},(∀ s,lw m.ae.sizes s.ptr→P s)→a8 (Fx.get m.ae.bp.l (IntKind.i64.wrap (Int.tdiv (v.x+i.off) 8))) P:=fun k1 k2 P h=>by
  have:=R.k2 k1
  rw[abY h0,jg adr]
  exact a8.getv adr (by show(v.x+i.off)/8<32;omega) fun s hs=>h s (G.mem.slots s (abb hs))
 refine a8.seqm (R:=fun b=>b=true→v.kind=2∧i.size=8) (a8.bif (fun c1=>a8.bif (fun _=>a8.bif (fun c2=>a8.bif (fun _=>?_) fun _=>a8.some (by simp)) fun _=>a8.some (by simp)) fun _=>a8.some (by simp)) fun _=>a8.some (by simp)) fun b hb=>?_
 ·have k1:v.kind=2:=by simpa using c1
  have k2:i.size=8:=by simpa using c2
  exact a8.bind (slot k1 k2 fun s _=>a8.bind (a8.some (a8.some fun _=>⟨k1,k2⟩)))
 unfold Sh.nF
 rw[e]
 refine a8.bif (fun c=>?_) fun c=>?_
 ·obtain⟨k1,k2⟩:=hb c
  exact a8.bind (slot k1 k2 fun s hs=>a8.bind (fP G F F.dst.1 F.dst.2 fun _ _ _=>a8.some (nF G F hs)))
 ·refine a8.bindm (sP adr R) fun y _=>a8.seqm (R:=fun g=>pe m g) (a8.bif (fun _=>?_) fun _=>a8.some G.bk) fun g hg=>a8.some hg
  exact a8.bindm (Tc G hv hk ⟨adr,adr⟩ R) fun _ _=>a8.bind (a8.some (a8.bind (fP G F F.dst.1 F.dst.2 fun _ _ _=>a8.some (nF G F (lw.number _)))))
theorem pC:Left m N m.ae:=by
 have _:=F
 exact⟨G.mem,rfl⟩
theorem II(ho:22≤i.op∧i.op≤25):a8 (Sh.hT m i) fun r=>Left m N r.2.2.ae:=by
 have hs:=F.size ho.1 ho.2
 unfold Sh.hT
 refine a8.seqm (R:=fun v=>lw m.ae.sizes v.1∧lw m.ae.sizes v.2) (a8.bind (fP G F F.dst.1 F.dst.2 fun v _ h=>a8.bindm (yI G F) fun w hw=>a8.some ⟨h,hw⟩)) fun v hv=>?_
 obtain⟨a,b⟩:=v
 obtain⟨ha,hb⟩:=hv
 simp only at ha hb
 refine a8.seqm (R:=fun v=>v=false→2≤a.kind) (a8.bind (a8.some (a8.bif (fun _=>a8.some (by simp)) fun c=>a8.some fun _=>by simpa using c))) fun v hv=>?_
 unfold Sh.lO
 refine a8.bif (fun _=>a8.some (pC G F)) fun c=>a8.bif (fun _=>a8.some (pC G F)) fun c4=>?_
 have hk:=hv c
 have h4:a.kind≠4:=by simpa using c4
 obtain⟨e,hn⟩:=N9 G F ha hk
 rw[e]
 refine a8.bindm (uH G ha hk hn ⟨adr,adr⟩) fun b' hb'=>a8.bif (fun _=>a8.some (pC G F)) fun cb=>?_
 have R:=hb' (by simpa using cb)
 have h0:=R.lo
 refine a8.bind (a8.some (a8.bif (fun _=>?_) fun _=>?_))
 ·refine a8.bindm (S5 _ hs.1 hs.2) fun l hl=>a8.bindm (xG G ha hk adr h4 (by rw[hl];exact R)) fun m' hm=>a8.some hm
 ·refine a8.seqm (R:=fun b=>b=false→a.kind=2∧i.size=8) (a8.bif (fun _=>a8.some (by simp)) fun c1=>a8.bif (fun _=>a8.some (by simp)) fun c2=>a8.some fun _=>⟨by simpa using c1,by simpa using c2⟩) fun v hv=>?_
  unfold Sh.lP
  rw[e]
  refine a8.bif (fun _=>a8.some (pC G F)) fun c=>?_
  obtain⟨k1,k2⟩:=hv c
  have:=R.k2 k1
  rw[abY h0,jg adr]
  exact a8.bind (a8.getv adr (by show(a.x+i.off)/8<32;omega) fun s _=>a8.some ⟨⟨jJ G.mem.slots hb,G.mem.b_,G.mem.tl,G.mem.tab⟩,rfl⟩)
theorem Xb(x:Int):Def (Sh.kY m i x):=by
 unfold Sh.kY
 refine a8.bind (fP G F F.src.1 F.src.2 fun v _ hv=>?_)
 refine Def.bif Def.some (Def.bif Def.some (Def.bif Def.some (Def.bif Def.some (a8.bind (fP G F adr adr fun _ _ _=>Def.seq (Def.bif Def.some Def.some) fun _=>Def.seq (Def.bif Def.some Def.some) fun _=>Def.bif Def.some Def.some)))))
theorem SK(ho:22≤i.op∧i.op≤25):a8 (Sh.jL m i) fun r=>pe m r.2.2.bk∧Left m N r.2.2.ae:=by
 have hs:=F.size ho.1 ho.2
 have same:pe m m.bk∧Left m N m.ae:=⟨G.bk,pC G F⟩
 unfold Sh.jL
 refine a8.bind (fP G F F.dst.1 F.dst.2 fun a _ ha=>?_)
 refine a8.seqm (R:=fun v=>v=false→2≤a.kind) (a8.bind (a8.some (a8.bif (fun _=>a8.some (by simp)) fun c=>?_))) fun v hv=>?_
 ·have hk:2≤a.kind:=by simpa using c
  exact a8.bind (fP G F F.src.1 F.src.2 fun _ _ _=>a8.bind (a8.some (a8.bif (fun _=>a8.some (by simp)) fun _=>a8.bif (fun _=>a8.bind (fP G F adr adr fun _ _ _=>a8.bind (a8.some (a8.some fun _=>hk)))) fun _=>a8.some fun _=>hk)))
 unfold Sh.nC
 refine a8.bif (fun _=>a8.some same) fun c=>a8.bif (fun _=>a8.some same) fun c4=>?_
 have hk:=hv c
 have h4:a.kind≠4:=by simpa using c4
 obtain⟨e,hn⟩:=N9 G F ha hk
 rw[e]
 refine a8.bindm (uH G ha hk hn ⟨adr,adr⟩) fun b' hb'=>a8.bif (fun _=>a8.some same) fun cb=>?_
 have R:=hb' (by simpa using cb)
 refine a8.bindm (sP adr R) fun y _=>a8.bif (fun _=>a8.some same) fun _=>a8.bindm (Tc G ha hk ⟨adr,adr⟩ R) fun x _=>a8.bindm (Xb G F x) fun z _=>?_
 refine a8.bindm (S5 _ hs.1 hs.2) fun l hl=>a8.bindm (xG G ha hk adr h4 (by rw[hl];exact R)) fun m' hm=>?_
 refine a8.seqm (R:=fun g=>pe m g) (a8.bif (fun _=>a8.bind (a8.some (a8.bind (fP G F adr adr fun _ _ _=>a8.some (nF G F (lw.number _)))))) fun _=>a8.bif (fun _=>a8.bind (a8.some (a8.bind (fP G F F.src.1 F.src.2 fun _ _ _=>a8.some (nF G F (lw.number _)))))) fun _=>a8.some G.bk) fun g hg=>a8.some ⟨hg,hm⟩
theorem Sm:Def (Sh.jN m i):=by
 have _:=G
 have _:=F
 unfold Sh.jN;exact Def.bif Def.some Def.some
theorem Jr:Def (Sh.gX m i):=by
 unfold Sh.gX
 refine a8.seqm (R:=fun _=>True) (a8.bind (fP G F F.dst.1 F.dst.2 fun v _ h=>a8.bindm (yI G F) fun w hw=>a8.some trivial)) fun v _=>?_
 obtain⟨a,b⟩:=v
 refine Def.seq (Def.seq (Def.bind Def.some fun _=>Def.bif (Def.bind Def.some fun _=>Def.some) Def.some) fun _=>Def.bif (Def.bind (Ia _ _ _ _) fun _=>Def.some) (Def.seq (Def.bif Def.some (Def.bif Def.some Def.some)) fun _=>Def.bif Def.some (Def.seq (Def.bind (RV _ _) fun _=>Def.bif Def.some Def.some) fun _ =>
  Def.bif (Def.seq (Def.seq (Def.bif Def.some Def.some) fun _=>Def.bif Def.some Def.some) fun _=>Def.bind (Ia _ _ _ _) fun _=>Def.some) (Def.seq ?_ fun _=>Def.bif Def.some Def.some)))) fun _=>Def.bif Def.some Def.some
 repeat' first|exact Def.some|apply Def.bif
theorem Ib:Def (Sh.hS m i):=by
 unfold Sh.hS
 exact a8.bind (fP G F adr adr fun _ _ _=>a8.bind (a8.some (Def.bif Def.some Def.some)))
end
end Go.Sp
end
section
namespace Go.Sp
open Go Go.Fw Go.Fx Go.Proofs
structure Asks(l:List Int):Prop where
 len:l.length=5
 len2:∀ j:Nat,j<5→(l[j]? = some 2∨l[j]? = some 3) → ∃ k:Nat,j<k∧k<5∧l[k]? = some 4
structure Piece(m:aj)(p:ak)(n:Int)(wr:Prop):Prop where
 ptr:2≤p.kind
 ok:lw m.ae.sizes p
 room:Room m p p.x n
 few:0≤n∧n≤65535
 wr:wr→p.kind≠4
def Handed(m:aj)(l:List Int)(v:Vec Int 6)(j:Nat):Prop :=
 (l[j]? = some 2∨l[j]? = some 3) → ∃ p q,m.bk.l[j+1]? = some p∧(∃ k:Nat,k<5∧l[k]? = some 4∧m.bk.l[k+1]? = some q)∧v.l[j+1]? = some q.x∧Piece m p q.x (l[j]? = some 3)
section
variable {m:aj}{N:Nat}(G:zd m N)
include G
theorem qZ{P:ak→Prop}{k:Int}(h0:0≤k)(h1:k≤10)(h:∀ v,m.bk.l[k.toNat]? = some v→lw m.ae.sizes v→P v):a8 (Fx.get m.bk.l k) P :=
 a8.getv h0 (by show k<11;omega) fun v hv=>h v hv (G.bk v (abb hv))
theorem Xm{l:List Int}(hl:Asks l):a8 (Sh.kX m l) fun r=>r.2=true → ∀ j,j<5→Handed m l r.1 j:=by
 unfold Sh.kX
 refine a8.seqm (R:=fun _=>∀ (j:Nat) p,j<5→l[j]? = some 4→m.bk.l[j+1]? = some p→0≤p.x∧p.x≤65535) ?_ fun _ PQ=>?_
 ·refine a8.loop (fun s:Int=>5-s.toNat) (fun s=>(0≤s∧s≤5) ∧ ∀ (j:Nat) p,(j:Int)<s→l[j]? = some 4→m.bk.l[j+1]? = some p→0≤p.x∧p.x≤65535) (fun s hs=>?_) 0 ⟨adr,fun j p h=>by omega⟩
  obtain⟨hs,hI⟩:=hs
  show a8 (Sh.lM m l s) _
  unfold Sh.lM
  rw[hl.len]
  refine a8.bif (fun c=>?_) fun c=>a8.some fun j p h=>hI j p (by simp only[aaE]at c;omega)
  simp only[aa6]at c
  rw[jg (x:=s+1) adr]
  refine a8.bind (a8.get hs.1 (by rw[hl.len];exact c) fun a ha=>a8.bind (qZ G adr adr fun p hp hv=>?_))
  refine a8.seqm (R:=fun b=>b=false→a=4→0≤p.x∧p.x≤65535) (a8.bif (fun c1=>?_) fun c1=>a8.bif (fun _=>?_) fun c2=>a8.some fun _ k=>?_) fun b hb=>?_
  ·simp only[aa6]at c1
   exact a8.bind (a8.some (a8.bif (fun _=>a8.some fun _ k=>by omega) fun _=>a8.bif (fun _=>a8.bif (fun _=>a8.some fun _ k=>by omega) fun _=>a8.some fun _ k=>by omega) fun _=>a8.some fun _ k=>by omega))
  ·refine a8.bind (a8.some (a8.bif (fun _=>a8.some (by simp)) fun _=>a8.bif (fun _=>a8.some (by simp)) fun c3=>a8.some fun h _=>?_))
   simp only[aaE]at c3 h;omega
  ·simp only[aaE]at c2;exact absurd k c2
  ·unfold Sh.lJ
   rw[jg (x:=s+1) adr]
   refine a8.bif (fun _=>a8.some (by simp)) fun cb=>a8.some ⟨⟨adr,fun j q hj h4 hq=>?_⟩,by show 5-(s+1).toNat<5-s.toNat;omega⟩
   by_cases e:(j:Int)<s
   ·exact hI j q e h4 hq
   ·have ej:j=s.toNat:=adr
    subst ej
    rw[ha]at h4
    rw[show s.toNat+1=(s+1).toNat by omega,hp]at hq
    cases hq
    exact hb cb (adp h4)
 ·unfold Sh.lI
  refine a8.seqm (R:=fun v=>∀ j,j<5→Handed m l v j) ?_ fun v hv=>a8.some fun _=>hv
  refine a8.loop (fun s:Vec Int 6×Int=>5-s.2.toNat) (fun s=>(0≤s.2∧s.2≤5) ∧ ∀ j:Nat,(j:Int)<s.2→Handed m l s.1 j) (fun s hs=>?_) _ ⟨by show(0:Int)≤0∧(0:Int)≤5;omega,fun j h=>by have:(j:Int)<0:=h;omega⟩
  obtain⟨v,s⟩:=s
  obtain⟨hs,hI⟩:=hs
  simp only at hs hI
  show a8 (Sh.hR m l v s) _
  unfold Sh.hR
  rw[hl.len]
  refine a8.bif (fun c=>?_) fun c=>a8.some fun j h=>hI j (by simp only[aaE]at c;omega)
  simp only[aa6]at c
  refine a8.seqm (R:=fun u:Vec Int 6=>∀ j:Nat,(j:Int)<s+1→Handed m l u j) (a8.bind (a8.get hs.1 (by rw[hl.len];exact c) fun a ha=>?_)) fun u hu=>?_
  ·refine a8.seqm (R:=fun b=>(b=true→a≠2∧a≠3)∧(b=false→a=2∨a=3)) (a8.bif (fun c1=>a8.some ?_) fun c1=>a8.some ?_) fun b hb=>?_
   ·simp only[aaC,aaE,aa6,abU]at *; omega
   ·simp only[aaC,aaE,aa6,abU]at *
    exact⟨fun h=>(by cases h),fun _=>.inl c1⟩
   have old:∀ u:Vec Int 6,(∀ j:Nat,(j:Int)<s→u.l[j+1]? = v.l[j+1]?)→Handed m l u s.toNat → ∀ j:Nat,(j:Int)<s+1→Handed m l u j:=fun u h1 h2 j hj=>by
    by_cases e:(j:Int)<s
    ·intro h
     obtain⟨p,q,k1,k2,k3,k4⟩:=hI j e h
     exact⟨p,q,k1,k2,(h1 j e).trans k3,k4⟩
    ·have ej:j=s.toNat:=adr
     rw[ej];exact h2
   unfold Sh.lK
   refine a8.bif (fun cb=>a8.some (old v (fun _ _=>rfl) fun h=>?_)) fun cb=>?_
   ·have:=hb.1 cb
    rw[ha]at h
    rcases h with h|h<;>have:=adp h<;>omega
   have h23:=hb.2 cb
   obtain⟨K,hK1,hK2,hK3⟩:=hl.len2 s.toNat adr (by rw[ha];rcases h23 with rfl|rfl<;>simp)
   rw[jg (x:=s+1) adr]
   refine a8.seqm (R:=fun k:Int=>(0≤k∧k<5)∧l[k.toNat]? = some 4) ?_ fun k hk=>?_
   ·refine a8.loop (fun t:Int=>((K:Int)-t).toNat) (fun t=>s+1≤t∧t≤(K:Int)) (fun t ht=>?_) _ ⟨adr,adr⟩
    show a8 (Sh.lN l t) _
    unfold Sh.lN
    refine a8.bind (a8.get adr (by rw[hl.len];omega) fun b hb'=>a8.bif (fun c4=>a8.some ?_) fun c4=>a8.some ?_)
    ·have ne:t≠(K:Int):=fun e=>by
      rw[e,abE,hK3]at hb'
      have:=adp hb'
      simp only[aaC,aaE]at c4
      exact c4 this.symm
     show(s+1≤IntKind.i64.wrap (t+1)∧IntKind.i64.wrap (t+1)≤(K:Int))∧((K:Int)-IntKind.i64.wrap (t+1)).toNat<((K:Int)-t).toNat
     rw[jg adr];omega
    ·simp only[abU,aa6]at c4
     exact⟨⟨adr,adr⟩,by rw[hb',c4]⟩
   unfold Sh.lL
   rw[jg (x:=s+1) adr,jg (x:=k+1) adr]
   refine a8.bind (qZ G adr adr fun p hp hv=>a8.bind (qZ G adr adr fun q hq hqv=>a8.bind (a8.getv adr (by show s+1<6;omega) fun _ _=>?_)))
   have hx:=PQ k.toNat q adr hk.2 (by rw[show k.toNat+1=(k+1).toNat by omega];exact hq)
   refine a8.seqm (R:=fun b=>b=false→2≤p.kind∧Room m p p.x q.x) (a8.bind (a8.some (a8.bif (fun _=>a8.some (by simp)) fun c1=>?_))) fun b hb=>?_
   ·have hkk:2≤p.kind:=by simpa using c1
    have:=hv.near hkk
    exact a8.bindm (uH G hv hkk adr ⟨adr,adr⟩) fun b hb=>a8.some fun h=>⟨hkk,hb (by simpa using h)⟩
   unfold Sh.kQ
   rw[jg (x:=s+1) adr]
   refine a8.bif (fun _=>a8.some (by simp)) fun cb=>?_
   obtain⟨hkk,R⟩:=hb cb
   have oH:∀ j:Nat,(j:Int)<s→(v.set (s+1).toNat q.x).l[j+1]? = v.l[j+1]?:=fun j hj=>by
    show(v.l.set (s+1).toNat q.x)[j+1]? = _
    rw[ab1,aaK adr]
   have hnew:(v.set (s+1).toNat q.x).l[s.toNat+1]? = some q.x:=by
    show(v.l.set (s+1).toNat q.x)[s.toNat+1]? = _
    rw[ab1,aaJ adr,aaJ (by rw[v.h];omega)]
   have Ut:∃ k:Nat,k<5∧l[k]? = some 4∧m.bk.l[k+1]? = some q:=⟨k.toNat,adr,hk.2,by rw[show k.toNat+1=(k+1).toNat by omega];exact hq⟩
   have Ur:m.bk.l[s.toNat+1]? = some p:=by rw[show s.toNat+1=(s+1).toNat by omega];exact hp
   refine a8.bif (fun c3=>a8.bif (fun _=>a8.some (by simp)) fun c4=>a8.some (old _ oH fun _=>⟨p,q,Ur,Ut,hnew,hkk,hv,R,hx,fun _=>by simpa using c4⟩)) fun c3=>?_
   refine a8.bindm (sP hx.1 R) fun y _=>a8.bif (fun _=>a8.some (by simp)) fun _=>a8.some (old _ oH fun _=>⟨p,q,Ur,Ut,hnew,hkk,hv,R,hx,fun h=>?_⟩)
   rw[ha]at h
   simp only[aaE]at c3
   exact absurd (adp h) c3
  ·unfold Sh.qV
   refine a8.some ⟨⟨?_,fun j hj=>hu j ?_⟩,?_⟩
   ·show 0≤IntKind.i64.wrap (s+1)∧IntKind.i64.wrap (s+1)≤5
    rw[jg adr];omega
   ·have:(j:Int)<IntKind.i64.wrap (s+1):=hj
    rw[jg adr]at this;exact this
   ·show 5-(IntKind.i64.wrap (s+1)).toNat<5-s.toNat
    rw[jg adr];omega
end
theorem Xj(l:List UInt8)(hl:l.length≤1000000000)(x:Int):Def (Sh.aGa l x):=by
 unfold Sh.aGa
 refine Def.seq ?_ fun _=>Def.some
 refine a8.loop (fun s:Int×Int=>((l.length:Int)-s.2).toNat) (fun s=>0≤s.2∧s.2≤2000000000) (fun s hs=>?_) _ ⟨by show(0:Int)≤0;omega,by show(0:Int)≤2000000000;omega⟩
 obtain⟨a,i⟩:=s
 simp only at hs
 show a8 (Sh.xQ l a i) _
 unfold Sh.xQ
 refine a8.bif (fun c=>?_) fun c=>a8.some trivial
 simp only[aa6]at c
 rw[jg (x:=i+1) adr]
 refine a8.seqm (R:=fun _=>True) (a8.bind (a8.get hs.1 c fun _ _=>a8.seqm (R:=fun _=>True) (a8.bif (fun c1=>a8.bind (a8.get adr (by simpa using c1) fun _ _=>a8.some trivial)) fun _=>a8.some trivial) fun v _=>?_)) fun v _=>a8.some ?_
 ·unfold Sh.aDp
  exact a8.bif (fun _=>a8.some trivial) fun _=>a8.some trivial
 ·show(0≤IntKind.i64.wrap (i+2)∧IntKind.i64.wrap (i+2)≤2000000000)∧((l.length:Int)-IntKind.i64.wrap (i+2)).toNat<((l.length:Int)-i).toNat
  rw[jg adr];omega
end Go.Sp
end
section
namespace Go.Sp
open Go Go.Fw Go.Fx Go.Proofs
theorem FK:Asks [2,4,1,0,0]:=⟨rfl,fun j hj h=>by
 match j,hj with
 | 0,_=>exact⟨1,by decide,by decide,rfl⟩
 | 1,_=>simp at h
 | 2,_=>simp at h
 | 3,_=>simp at h
 | 4,_=>simp at h⟩
theorem JV:Asks [3,2,4,0,0]:=⟨rfl,fun j hj h=>by
 match j,hj with
 | 0,_=>exact⟨2,by decide,by decide,rfl⟩
 | 1,_=>exact⟨2,by decide,by decide,rfl⟩
 | 2,_=>simp at h
 | 3,_=>simp at h
 | 4,_=>simp at h⟩
theorem JW:Asks [3,1,4,0,0]:=⟨rfl,fun j hj h=>by
 match j,hj with
 | 0,_=>exact⟨2,by decide,by decide,rfl⟩
 | 1,_=>simp at h
 | 2,_=>simp at h
 | 3,_=>simp at h
 | 4,_=>simp at h⟩
theorem JX:Asks [2,2,4,0,0]:=⟨rfl,fun j hj h=>by
 match j,hj with
 | 0,_=>exact⟨2,by decide,by decide,rfl⟩
 | 1,_=>exact⟨2,by decide,by decide,rfl⟩
 | 2,_=>simp at h
 | 3,_=>simp at h
 | 4,_=>simp at h⟩
theorem JY:Asks [1,0,0,0,0]:=⟨rfl,fun j hj h=>by
 match j,hj with
 | 0,_=>simp at h
 | 1,_=>simp at h
 | 2,_=>simp at h
 | 3,_=>simp at h
 | 4,_=>simp at h⟩
theorem FM:Asks [1,1,0,0,0]:=⟨rfl,fun j hj h=>by
 match j,hj with
 | 0,_=>simp at h
 | 1,_=>simp at h
 | 2,_=>simp at h
 | 3,_=>simp at h
 | 4,_=>simp at h⟩
def AA(x:Int):List Int :=
 if x=1 then [2,4,1,0,0]else if x=2 then [3,2,4,0,0]else if x=3 then [3,1,4,0,0]else if x=4 then [2,2,4,0,0]else if x=5 then [2,4,1,0,0]else if x=6 then [1,0,0,0,0]else [1,1,0,0,0]
theorem Zo(x:Int):a8 (Sh.vW x) fun r=>r.2=true→r.1.args=AA x∧Asks (AA x):=by
 unfold Sh.vW AA
 refine a8.bif (fun c=>?_) fun c1=>a8.bif (fun c=>?_) fun c2=>a8.bif (fun c=>?_) fun c3=>a8.bif (fun c=>?_) fun c4=>a8.bif (fun c=>?_) fun c5=>a8.bif (fun c=>?_) fun c6=>a8.bif (fun c=>?_) fun c7=>a8.bif (fun c=>?_) fun c8=>a8.some (by simp)
 all_goals simp only[aa6]at c
 all_goals subst c
 ·exact a8.some fun _=>⟨rfl,FK⟩
 ·exact a8.some fun _=>⟨rfl,JV⟩
 ·exact a8.some fun _=>⟨rfl,JW⟩
 ·exact a8.some fun _=>⟨rfl,JX⟩
 ·exact a8.some fun _=>⟨rfl,FK⟩
 ·exact a8.some fun _=>⟨rfl,JY⟩
 ·exact a8.some fun _=>⟨rfl,FM⟩
 ·exact a8.some fun _=>⟨rfl,FM⟩
section
variable {m:aj}{N:Nat}(G:zd m N)
include G
theorem rU{r:Int}(h0:0≤r)(h1:r≤10){p:ak}{n:Int}{wr:Prop}(hp:m.bk.l[r.toNat]? = some p)(P:Piece m p n wr):a8 (Sh.dB m r n) fun l=>(l.length:Int)=n:=by
 have e:Fx.get m.bk.l r=some p:=by unfold Fx.get;rw[aaJ h0,hp]
 unfold Sh.dB
 rw[e]
 have:=P.few
 exact a8.bind (a8.some (a8.bind (a8.some (a8.bindm (SL G P.ptr ⟨adr,adr⟩ P.ok P.room) fun l hl=>a8.some hl))))
structure Fz(m:aj)(N:Nat)(v0:ak)(st:Vec bn 32)(cx:List UInt8)(tb:List (List UInt8))(sn:List Int):Prop where
 val:lw m.ae.sizes v0
 mem:y_ m.ae.sizes st cx tb N
 tabs:tb.map List.length=m.ae.ah.map List.length
 bf:xo m sn
theorem SQ{i:b9}:a8 (Sh.jM m i) fun r=>pe m r.2.2.bk∧Left m N r.2.2.ae∧xo m r.2.2.bf:=by
 have same:pe m m.bk∧Left m N m.ae∧xo m m.bf:=⟨G.bk,⟨G.mem,rfl⟩,.inl rfl⟩
 have keep:∀ {v0:ak},lw m.ae.sizes v0→Fz m N v0 m.ae.bp m.ae.b_ m.ae.ah m.bf:=fun h=>⟨h,G.mem,rfl,.inl rfl⟩
 unfold Sh.jM
 refine a8.bindm (Zo i.k_) fun sg hsg=>a8.bif (fun _=>a8.some same) fun c1=>?_
 obtain⟨ea,hA⟩:=hsg (by simpa using c1)
 rw[ea]
 refine a8.bindm (Xm G hA) fun q hq=>a8.bif (fun _=>a8.some same) fun c2=>a8.bind (a8.some ?_)
 have H:=hq (by simpa using c2)
 refine a8.bind (qZ G adr adr fun r1 h1 ok1=>a8.bind (qZ G adr adr fun r2 h2 ok2=>a8.bind (qZ G adr adr fun r3 h3 ok3=>?_)))
 have BZ:∀ {k:Nat} {n:Int} {P:Int→Prop},k<6→q.1.l[k]? = some n→P n→a8 (Fx.get q.1.l (k:Int)) P:=fun {k n P} hk h hP=>a8.getv adr adr fun x hx=>by
  rw[abE,h]at hx;cases hx;exact hP
 have num:∀ x:Int,lw m.ae.sizes (ak.mk 1 0 0 x):=fun x=>lw.number x
 refine a8.seqm (R:=fun v=>Fz m N v.1 v.2.1 v.2.2.1 v.2.2.2.1 v.2.2.2.2) ?_ fun v hv=>?_
 ·refine a8.bif (fun c=>?_) fun _=>a8.bif (fun c=>?_) fun _=>a8.bif (fun c=>?_) fun _=>a8.bif (fun c=>?_) fun _=>a8.bif (fun c=>?_) fun _=>a8.bif (fun c=>?_) fun _=>a8.bif (fun c=>?_) fun _=>a8.bif (fun c=>?_) fun _=>a8.some (keep (num 0))
  all_goals simp only[aa6]at c
  all_goals rw[c]at H
  ·obtain⟨p,n,k1,kq,k2,k3⟩:=H 0 adr (.inl rfl)
   refine a8.bind (BZ (k:=1) adr k2 (a8.bindm (rU G adr adr k1 k3) fun l hl=>?_))
   have:=k3.few
   exact a8.bindm (Xj l adr _) fun y _=>a8.some (keep (num y))
  ·obtain⟨p,n,k1,kq,k2,k3⟩:=H 0 adr (.inr rfl)
   obtain⟨p',n',Qx,UB,Qy,Qz⟩:=H 1 adr (.inl rfl)
   obtain⟨k,hk,hk4,hkq⟩:=kq
   obtain⟨k',hk',PH,K7⟩:=UB
   have uq:∀ k:Nat,k<5→([3,2,4,0,0]:List Int)[k]? = some 4→k=2:=by decide
   obtain rfl:=uq k hk hk4
   obtain rfl:=uq k' hk' PH
   obtain rfl:n=n':=by rw[hkq]at K7;exact adp K7
   obtain rfl:r1=p:=by
    have:m.bk.l[1]? = some r1:=h1
    rw[this]at k1;exact adp k1
   have:=k3.few
   refine a8.bind (qZ G adr adr fun QL ET _=>?_)
   obtain rfl:QL=r1:=by rw[h1]at ET;exact(adp ET).symm
   refine a8.bind (BZ (k:=2) adr Qy (a8.bindm (rU G adr adr Qx Qz) fun l hl=>?_))
   exact a8.bindm (xG G k3.ok k3.ptr adr (k3.wr rfl) (by rw[hl];exact k3.room)) fun m' hm=>a8.some ⟨num 0,hm.1,hm.2,.inl rfl⟩
  ·obtain⟨p,n,k1,kq,k2,k3⟩:=H 0 adr (.inr rfl)
   obtain rfl:r1=p:=by
    have:m.bk.l[1]? = some r1:=h1
    rw[this]at k1;exact adp k1
   have hf:=k3.few
   refine a8.bind (BZ (k:=1) adr k2 ?_)
   obtain⟨z,hz⟩ : ∃ z:Nat,n.x=(z:Int):=⟨n.x.toNat,adr⟩
   rw[hz,Ob 1 adr adr]
   refine a8.bind (a8.some (a8.seqm (R:=fun l=>l.length=z) ?_ fun l hl=>?_))
   ·refine a8.loop (fun s:List UInt8×Int=>((z:Int)-s.2).toNat) (fun s=>(0≤s.2∧s.2≤(z:Int))∧s.1.length=z) (fun s hs=>?_) _ ⟨⟨adr,by show(0:Int)≤(z:Int);omega⟩,by simp⟩
    obtain⟨l,i⟩:=s
    simp only at hs
    obtain⟨hs,hl⟩:=hs
    show a8 (Sh.iS r2 (List.replicate z 0) l i) _
    unfold Sh.iS
    refine a8.bif (fun c=>?_) fun c=>a8.some hl
    simp only[aa6,abS]at c
    refine a8.bind (a8.get hs.1 adr fun _ _=>a8.some ?_)
    show((0≤IntKind.i64.wrap (i+1)∧IntKind.i64.wrap (i+1)≤(z:Int))∧(l.set i.toNat _).length=z)∧((z:Int)-IntKind.i64.wrap (i+1)).toNat<((z:Int)-i).toNat
    rw[jg adr,abT]
    omega
   ·unfold Sh.sS
    refine a8.bind (qZ G adr adr fun QL ET _=>?_)
    obtain rfl:QL=r1:=by rw[h1]at ET;exact(adp ET).symm
    exact a8.bindm (xG G k3.ok k3.ptr adr (k3.wr rfl) (by rw[hl,←hz];exact k3.room)) fun m' hm=>a8.some ⟨num 0,hm.1,hm.2,.inl rfl⟩
  ·obtain⟨p,n,k1,kq,k2,k3⟩:=H 0 adr (.inl rfl)
   obtain⟨p',n',Qx,UB,Qy,Qz⟩:=H 1 adr (.inl rfl)
   exact a8.bind (BZ (k:=1) adr k2 (a8.bind (BZ (k:=2) adr Qy (a8.bindm (rU G adr adr k1 k3) fun l hl=>a8.bindm (rU G adr adr Qx Qz) fun l' hl'=>a8.bind (a8.bind (a8.some (a8.some (a8.some (keep (num _))))))))))
  ·obtain⟨p,n,k1,kq,k2,k3⟩:=H 0 adr (.inl rfl)
   exact a8.bind (BZ (k:=1) adr k2 (a8.bindm (rU G adr adr k1 k3) fun l hl=>a8.bind (a8.bind (a8.some (a8.some (a8.some (keep (num _))))))))
  ·refine a8.bif (fun _=>a8.some (keep (num _))) fun c=>?_
   have G5:m.bf.length<64:=by simp only[aaE]at c;omega
   rw[cK (bytes:=8) (l:=m.bf) (m:=[r1.x]) (by simp;omega) (by simp;omega)]
   exact a8.bind (a8.some (a8.some ⟨num 0,G.mem,rfl,.inr ⟨G5,r1.x,rfl⟩⟩))
  ·refine a8.seqm (R:=fun b=>b=false→0≤r1.x∧r1.x<(m.ae.sizes.length:Int)) (a8.bif (fun _=>a8.some (by simp)) fun c=>a8.some ?_) fun b hb=>?_
   ·intro h;simp only[aaE]at *; omega
   unfold Sh.nD
   refine a8.bif (fun _=>a8.some same) fun c=>?_
   have hr:=hb c
   refine a8.seqm (R:=fun b=>b=true→0≤r2.x ∧ ∀ t,m.ae.sizes[r1.x.toNat]? = some t→r2.x<t.rows) (a8.bif (fun c=>a8.bind (a8.get hr.1 hr.2 fun t ht=>a8.some fun h=>?_)) fun c=>a8.some (by simp)) fun b hb=>?_
   ·simp only[aa6]at c h
    refine⟨c,fun u hu=>?_⟩
    rw[ht]at hu;cases hu;exact h
   ·unfold Sh.nE
    refine a8.bif (fun c=>a8.some (keep ⟨fun _=>?_,fun _=>⟨hr,fun t ht=>⟨(hb c).1,(hb c).2 t ht⟩⟩⟩)) fun _=>a8.some (keep (num _))
    show(-1048576:Int)≤0∧(0:Int)≤1048576
    omega
  ·exact a8.bind (a8.some (a8.some (keep (num _))))
 ·obtain⟨v0,st,cx,tb,sn⟩:=v
  obtain⟨e1,e2,e3,e4⟩:=hv
  simp only at e1 e2 e3 e4
  show a8 (Sh.iR m v0 st cx tb sn) _
  unfold Sh.iR
  refine a8.bind (qZ G adr adr fun _ _ _=>a8.seqm (R:=fun g=>pe m g) ?_ fun g hg=>a8.some ⟨hg,⟨e2,e3⟩,e4⟩)
  refine a8.loop (fun s:Vec ak 11×Int=>(6-s.2).toNat) (fun s=>(0≤s.2∧s.2≤6)∧pe m s.1) (fun s hs=>?_) _ ⟨by show(0:Int)≤1∧(1:Int)≤6;omega,jJ G.bk e1⟩
  obtain⟨g,i⟩:=s
  simp only at hs
  obtain⟨hs,hg⟩:=hs
  show a8 (Sh.iT g i) _
  unfold Sh.iT
  refine a8.bif (fun c=>?_) fun c=>a8.some hg
  simp only[aa6]at c
  refine a8.bind (a8.getv hs.1 (by show i<11;omega) fun _ _=>a8.some ⟨⟨?_,jJ hg lw.zero⟩,?_⟩)
  ·show 0≤IntKind.i64.wrap (i+1)∧IntKind.i64.wrap (i+1)≤6
   rw[jg adr];omega
  ·show(6-IntKind.i64.wrap (i+1)).toNat<(6-i).toNat
   rw[jg adr];omega
end
end Go.Sp
end
section
namespace Go.Sp
open Go Go.Fw Go.Fx Go.Proofs
theorem RY{l:List (List UInt8)}(hl:l.length≤1099511627776)(he:∀ t∈l,t.length≤1099511627776):Sh.iH l=some l:=by
 unfold Sh.iH
 have e1:=wL (γ:=List (List UInt8)⊕List (List UInt8)) (body:=fun(v:List (List UInt8)×Int)=>match v with|(a,b)=>Sh.nW l a b) l id (fun T i=>(T,i)) (fun T=>inl T) adr
  (fun i hi T hT=>by
   have ha:Fx.app 24 T [id l[i]]=some (T ++ [id l[i]]):=cK (by simp;omega) (by simp;omega)
   simp only[Sh.nW,bV,hi,decide_true,abA,aX hi,aaS,qL (he _ (abz hi))]
   exact(congrArg (fun o=>Option.bind o _) ha).trans rfl) (fun T=>by simp[Sh.nW])
 rw[List.map_id]at e1
 exact bK e1 rfl
def ku(m:aj):bj:=⟨m.bk,m.ae.bp,m.ae.b_,m.ae.ah,m.bf,m.at_,m.steps,m.done⟩
structure Whole(m:aj)(N:Nat):Prop where
 sound:zd m N
 code:∀ i∈m.code,Form i∧(i.op=21→i.k_≤(m.ae.data.length:Int))
 few:m.code.length≤4096
 dq:m.dq.length=m.code.length+1
 G1:∀ k v,Fx.jy m.cg k=some v→0≤v∧v<(m.code.length:Int)
 at_:0≤m.at_∧m.at_<(m.code.length:Int)
 bf:m.bf.length≤64
section
variable {m:aj}{N:Nat}(W:Whole m N)
include W
theorem S8:∀ t∈m.ae.ah,t.length≤4096:=fun b hb=>by
 obtain⟨i,hi,rfl⟩:=ab2.1 hb
 have hi':i<m.ae.sizes.length:=by have:=W.sound.mem.tl;omega
 have h:=W.sound.mem.tab i _ _ (aa9 hi') (aa9 hi)
 obtain⟨⟨a1,a2⟩,a3,a4⟩:=W.sound.env.sz _ (abz hi')
 have q1:(m.ae.sizes[i]).rows*(m.ae.sizes[i]).wide≤64*(m.ae.sizes[i]).wide:=ab0 adr adr
 omega
theorem GV:m.ae.ah.length≤8:=by have:=W.sound.mem.tl;have:=W.sound.env.few;omega
theorem xN:Sh.iH m.ae.ah=some m.ae.ah :=
 RY (by have:=GV W;omega) fun t ht=>by have:=S8 W t ht;omega
theorem FC:Sh.aM m.ae.b_=some m.ae.b_:=qL (by have:=W.sound.mem.b_;have:=W.sound.env.b_;omega)
theorem xM:Sh.bH m.bf=some m.bf:=wA (by have:=W.bf;omega)
theorem sT:Sh.bG m=some (ku m):=by
 unfold Sh.bG
 rw[FC W,xN W,xM W];rfl
theorem HC:y8 ⟨m.ae.b_,m.ae.ah⟩:=⟨by have:=W.sound.mem.b_;have:=W.sound.env.b_;show m.ae.b_.length≤65535;omega,GV W,fun t ht=>by have:=S8 W t ht;omega⟩
theorem XE(h:0≤m.steps∧m.steps≤4294967296):iW (ku m):=by
 have:=W.at_;have:=W.few
 exact⟨by show 0≤m.at_∧m.at_≤4095;omega,h,HC W⟩
theorem wX:jl (ku m):=by
 obtain⟨h1,h2,h3⟩:=HC W
 have:=W.bf
 exact⟨by show m.ae.b_.length≤_;simp only at h1;omega,by show m.ae.ah.length≤_;simp only at h2;omega,fun t ht=>by have:=h3 t ht;omega,by show m.bf.length≤_;omega⟩
end
structure Next(m m':aj)(N:Nat):Prop where
 whole:Whole m' N
 data:m'.ae.data=m.ae.data
 sizes:m'.ae.sizes=m.ae.sizes
 code:m'.code=m.code
 dq:m'.dq=m.dq
 G1:m'.cg=m.cg
 pI:m.done=false
 steps:m'.steps=IntKind.i64.wrap (m.steps+1)
 tabs:m'.ae.ah.map List.length=m.ae.ah.map List.length
 bf:xo m m'.bf
section
variable {m:aj}{N:Nat}(W:Whole m N){i:b9}(hi:i∈m.code)
include W hi
theorem YO:a8 (Sh.mY m i) fun e=>e≠0:=by
 have G:=W.sound
 obtain⟨F,Ot⟩:=W.code i hi
 unfold Sh.mY
 rw[FC W,xN W,xM W]
 refine a8.bind (a8.some (a8.bind (a8.some (a8.bind (a8.some ?_)))))
 refine a8.seqm (R:=fun _=>True) ?_ fun v _=>?_
 ·refine a8.seqm (R:=Sum.elim (fun _=>True) (Sum.elim (fun _=>True) (Sum.elim (fun _=>True) (Sum.elim (fun _=>22≤i.op∧i.op≤25) (Sum.elim (fun _=>22≤i.op∧i.op≤25) (Sum.elim (fun _=>22≤i.op∧i.op≤25) fun _=>True)))))) ?_ fun v hv=>?_
  ·refine a8.bif (fun _=>a8.some trivial) fun c1=>a8.bif (fun _=>a8.some trivial) fun c2=>a8.bif (fun _=>a8.some trivial) fun c3=>a8.bif (fun c=>a8.some ?_) fun c4=>a8.bif (fun c=>a8.some ?_) fun c5=>a8.bif (fun c=>a8.some ?_) fun c6=>?_
   ·simp only[aa6,aaE]at *; exact⟨adr,adr⟩
   ·simp only[aa6,aaE]at *; exact⟨adr,adr⟩
   ·simp only[aa6,aaE]at *; exact⟨adr,adr⟩
   ·repeat' first|exact a8.some trivial|(apply a8.bif<;>intro _)
  ·rcases v with _|_|_|_|_|_|_|_|_|_
   ·exact a8.bindm (uW G F) fun _ _=>a8.some trivial
   ·exact a8.bindm (nE G F) fun _ _=>a8.some trivial
   ·exact a8.bindm (yV G F Ot) fun _ _=>a8.some trivial
   ·exact a8.bindm (SZ G F hv) fun _ _=>a8.some trivial
   ·exact a8.bindm (II G F hv) fun _ _=>a8.some trivial
   ·exact a8.bindm (SK G F hv) fun _ _=>a8.some trivial
   ·exact a8.bindm (Sm G F) fun _ _=>a8.some trivial
   ·exact a8.bindm (Jr G F) fun _ _=>a8.some trivial
   ·exact a8.bindm (SQ G) fun _ _=>a8.some trivial
   ·exact a8.bindm (Ib G F) fun _ _=>a8.some trivial
 ·obtain⟨v1,v2,v3,v4,v5,v6,v7⟩:=v
  exact a8.bif (fun c=>a8.some (by simpa using c)) fun _=>a8.some adr
end
theorem YE{m:aj}{N:Nat}(W:Whole m N):a8 (Sh.bA m) fun r=>r.1=0→Next m r.2 N:=by
 have G:=W.sound
 unfold Sh.bA
 refine a8.bif (fun _=>a8.some fun h=>absurd (show(4:Int)=0 from h) adr) fun cd=>?_
 refine a8.bind (a8.get W.at_.1 W.at_.2 fun i hii=>?_)
 have hi:=abb hii
 obtain⟨F,Ot⟩:=W.code i hi
 refine a8.seqm (R:=fun _=>True) (a8.bif (fun _=>a8.some trivial) fun _=>a8.some trivial) fun v _=>?_
 refine a8.seqm (R:=fun _=>True) (a8.bif (fun _=>a8.bif (fun _=>a8.some trivial) fun _=>a8.some trivial) fun _=>a8.some trivial) fun v _=>?_
 unfold Sh.nB
 refine a8.bif (fun _=>a8.bindm (YO W hi) fun e he=>a8.some fun h=>absurd h he) fun _=>?_
 refine a8.seqm (R:=fun v=>y_ m.ae.sizes v.1 v.2.1 v.2.2.1 N∧v.2.2.1.map List.length=m.ae.ah.map List.length∧pe m v.2.2.2.1∧xo m v.2.2.2.2.1) ?_ fun v hv=>?_
 ·have same:y_ m.ae.sizes m.ae.bp m.ae.b_ m.ae.ah N∧m.ae.ah.map List.length=m.ae.ah.map List.length∧pe m m.bk∧xo m m.bf:=⟨G.mem,rfl,G.bk,.inl rfl⟩
  refine a8.seqm (R:=Sum.elim (fun _=>True) (Sum.elim (fun _=>True) (Sum.elim (fun _=>True) (Sum.elim (fun _=>22≤i.op∧i.op≤25) (Sum.elim (fun _=>22≤i.op∧i.op≤25) (Sum.elim (fun _=>22≤i.op∧i.op≤25) fun _=>True)))))) ?_ fun v hv=>?_
  ·refine a8.bif (fun _=>a8.some trivial) fun c1=>a8.bif (fun _=>a8.some trivial) fun c2=>a8.bif (fun _=>a8.some trivial) fun c3=>a8.bif (fun c=>a8.some ?_) fun c4=>a8.bif (fun c=>a8.some ?_) fun c5=>a8.bif (fun c=>a8.some ?_) fun c6=>?_
   ·simp only[aa6,aaE]at *; exact⟨adr,adr⟩
   ·simp only[aa6,aaE]at *; exact⟨adr,adr⟩
   ·simp only[aa6,aaE]at *; exact⟨adr,adr⟩
   ·repeat' first|exact a8.some trivial|(apply a8.bif<;>intro _)
  ·rcases v with _|_|_|_|_|_|_|_|_|_
   ·exact a8.bindm (uW G F) fun _ h=>a8.some ⟨G.mem,rfl,h,.inl rfl⟩
   ·exact a8.bindm (nE G F) fun _ h=>a8.some ⟨G.mem,rfl,h,.inl rfl⟩
   ·exact a8.bindm (yV G F Ot) fun _ h=>a8.some ⟨G.mem,rfl,h,.inl rfl⟩
   ·exact a8.bindm (SZ G F hv) fun _ h=>a8.some ⟨G.mem,rfl,h,.inl rfl⟩
   ·exact a8.bindm (II G F hv) fun _ h=>a8.some ⟨h.1,h.2,G.bk,.inl rfl⟩
   ·exact a8.bindm (SK G F hv) fun _ h=>a8.some ⟨h.2.1,h.2.2,h.1,.inl rfl⟩
   ·exact a8.bindm (Sm G F) fun _ _=>a8.some same
   ·exact a8.bindm (Jr G F) fun _ _=>a8.some same
   ·exact a8.bindm (SQ G) fun _ h=>a8.some ⟨h.2.1.1,h.2.1.2,h.1,h.2.2⟩
   ·exact a8.bindm (Ib G F) fun _ _=>a8.some same
 ·obtain⟨st,cx,tb,rg,sn,dn,jp,er⟩:=v
  obtain⟨k1,k2,k3,k4⟩:=hv
  simp only at k1 k2 k3 k4
  have Dk:sn.length≤64:=by
   rcases k4 with rfl|⟨h,x,rfl⟩
   ·exact W.bf
   ·simp;omega
  have next:∀ (a s:Int) (d:Bool),0≤a∧a<(m.code.length:Int)→s=IntKind.i64.wrap (m.steps+1)→Next m (aj.mk (fq.mk st cx tb m.ae.data m.ae.sizes) m.code m.dq m.cg rg sn a s d) N:=fun a s d ha hs =>
   ⟨⟨⟨G.env,k1,k3⟩,W.code,W.few,W.dq,W.G1,ha,Dk⟩,rfl,rfl,rfl,rfl,rfl,cd,hs,k2,k4⟩
  show a8 (Sh.iQ m st cx tb rg sn dn jp er) _
  unfold Sh.iQ
  refine a8.bif (fun c=>a8.some fun h=>absurd (show er=0 from h) (by simpa using c)) fun _=>a8.bif (fun _=>a8.some fun _=>next _ _ _ W.at_ rfl) fun _=>?_
  have ha:=W.at_;have hf:=W.few
  rw[jg (x:=m.at_+1) adr]
  refine a8.bind (a8.get adr (by rw[W.dq];omega) fun u hu=>a8.bif (fun _=>a8.some fun h=>absurd (show(89:Int)=0 from h) adr) fun c=>a8.some fun _=>next _ _ _ ?_ rfl)
  cases hb:Fx.jy m.cg (IntKind.i64.wrap (u+jp))with
  | none=>rw[hb]at c;cases c
  | some v=>exact W.G1 _ v hb
theorem XT{m m':aj}{N:Nat}(W:Whole m N)(h:Next m m' N):Jj (ku m) (ku m'):=by
 have e:=h.tabs
 have el:m'.ae.ah.length=m.ae.ah.length:=by have:=congrArg List.length e;simpa using this
 refine⟨h.pI,h.steps,?_,el.symm,fun i _ hi hk=>?_,?_,?_,fun i _ hi hk=>?_⟩
 ·show m.ae.b_.length=m'.ae.b_.length
  rw[W.sound.mem.b_,h.whole.sound.mem.b_]
 ·have:(m'.ae.ah.map List.length)[i]? = (m.ae.ah.map List.length)[i]?:=by rw[e]
  rw[aby,aby]at this
  have h1:i<m.ae.ah.length:=hi
  have h2:i<m'.ae.ah.length:=hk
  rw[aa9 h1,aa9 h2]at this
  exact(adp this).symm
 ·show m.bf.length≤m'.bf.length
  rcases h.bf with k|⟨_,x,k⟩<;>rw[k]<;>simp
 ·show m'.bf.length≤m.bf.length+1
  rcases h.bf with k|⟨_,x,k⟩<;>rw[k]<;>simp
 ·show m.bf[i]=m'.bf[i]
  have h1:i<m.bf.length:=hi
  have:m'.bf[i]? = m.bf[i]?:=by
   rcases h.bf with k|⟨_,x,k⟩<;>rw[k]
   rw[abk h1]
  have h2:i<m'.bf.length:=hk
  rw[aa9 h1,aa9 h2]at this
  exact(adp this).symm
end Go.Sp
end
section
namespace Go.Sp
open Go Go.Fw Go.Fx Go.Proofs
theorem XY{l:List b9}(hl:l.length≤4096):a8 (Sh.aAc l) fun u=>u.length=l.length+1:=by
 unfold Sh.aAc
 refine a8.seqm (R:=fun u=>u.length=l.length+1) ?_ fun u hu=>a8.some hu
 refine a8.loop (fun s:Int×List Int×Int=>((l.length:Int)-s.1).toNat) (fun s=>(0≤s.1∧s.1≤(l.length:Int))∧(s.2.1.length:Int)=s.1+1) (fun s hs=>?_) _ ⟨by show(0:Int)≤0∧(0:Int)≤(l.length:Int);omega,by show(([0]:List Int).length:Int)=0+1;rfl⟩
 obtain⟨i,u,a⟩:=s
 simp only at hs
 obtain⟨hs,hu⟩:=hs
 show a8 (Sh.tL l i u a) _
 unfold Sh.tL
 refine a8.bif (fun c=>?_) fun c=>a8.some ?_
 ·simp only[aa6]at c
  have wd:∀ x,Def (Sh.FI x):=fun x=>by unfold Sh.FI;exact Def.seq (Def.bif Def.some Def.some) fun _=>Def.some
  refine a8.bind (a8.get hs.1 c fun x _=>a8.seqm (R:=fun _=>True) (a8.bindm (wd _) fun y _=>a8.bif (fun _=>a8.some trivial) fun _=>a8.some trivial) fun v _=>?_)
  unfold Sh.yA
  rw[cK (bytes:=8) (l:=u) (m:=[v]) (by simp;omega) (by simp;omega)]
  refine a8.bind (a8.some (a8.some ?_))
  show((0≤IntKind.i64.wrap (i+1)∧IntKind.i64.wrap (i+1)≤(l.length:Int))∧((u ++ [v]).length:Int)=IntKind.i64.wrap (i+1)+1)∧((l.length:Int)-IntKind.i64.wrap (i+1)).toNat<((l.length:Int)-i).toNat
  rw[jg adr]
  simp
  omega
 ·simp only[aaE]at c
  show u.length=_
  omega
theorem XS {P:Int → Prop} {l:List (Int × Int)} {a x:Int} (h:∀ e ∈ l,P e.2) (hx:P x):∀ e ∈ Fx.kz l a x,P e.2:=by
  induction l with
  | nil => intro e he; obtain rfl : e = (a, x) := by simpa [Fx.kz] using he
           exact hx
  | cons b l ih =>
    obtain ⟨b,y⟩:=b
    intro e he
    unfold Fx.kz at he
    split at he
    · rcases aaY.1 he with rfl | he
      · exact hx
      · exact h e (aaZ _ he)
    · rcases aaY.1 he with rfl | he
      · exact h _ (aa3 ..)
      · exact ih (fun e he=>h e (aaZ _ he)) e he
theorem W_{l:List (Int×Int)}{a:Int}{n:Nat}{v:Int}(h:Fx.je l a=some (n,v)):∃ e∈l,e.2=v:=by
 induction l generalizing n with
 | nil=>cases h
 | cons b l ih =>
  obtain⟨b,y⟩:=b
  unfold Fx.je at h
  split at h
  ·cases h;exact⟨_,aa3 ..,rfl⟩
  ·obtain⟨⟨n',v'⟩,k1,k2⟩:=aaI.1 h
   cases k2
   obtain⟨e,he,rfl⟩:=ih k1
   exact⟨e,aaZ _ he,rfl⟩
theorem XP{P:Int→Prop}{l:List (Int×Int)}(h:∀ e∈l,P e.2){a v:Int}(hg:Fx.jy l a=some v):P v:=by
 unfold Fx.jy at hg
 obtain⟨⟨n,v'⟩,k1,k2⟩:=aaI.1 hg
 cases k2
 obtain⟨e,he,k⟩:=W_ k1
 have:=h e he
 rw[k]at this;exact this
def AB(u:List Int):Nat→List (Int×Int)
 | 0=>[]
 | n+1=>Fx.kz (AB u n) (u.getD n 0) (n:Int)
theorem Ir(u:List Int):∀ n,∀ e∈AB u n,0≤e.2∧e.2<(n:Int)
 | 0=>by simp[AB]
 | n+1=>XS (P:=fun v=>0≤v∧v<((n+1:Nat):Int)) (fun e he=>by have:=Ir u n e he;omega) adr
structure Made(p:fh):Prop where
 data:p.data.length≤4096
 hi:p.hi≤65535
 few:p.ah.length≤8
 sz:∀ t∈p.ah,(1≤t.rows∧t.rows≤64)∧(1≤t.wide∧t.wide≤64)
 some:0<p.code.length
 len:p.code.length≤4096
 code:∀ i∈p.code,Form i∧(i.op=21→i.k_≤(p.data.length:Int))
theorem GN{X:Type}{P:X→Prop}{l:List X}{s:Int}{x:X}(h0:0≤s)(hx:l[s.toNat]? = some x)(h:∀ i∈l.take s.toNat,P i)(hp:P x):∀ i∈l.take (s+1).toNat,P i:=fun i hi=>by
 rw[show(s+1).toNat=s.toNat+1 by omega,abI,hx]at hi
 rcases aaR.1 hi with hi|hi
 ·exact h i hi
 ·obtain rfl:i=x:=by simpa using hi
  exact hp
theorem YQ(p:fh):a8 (Sh.GH p) fun b=>b=true→Made p:=by
 unfold Sh.GH
 refine a8.seqm (R:=fun b=>b=false→(p.data.length≤4096∧p.hi≤65535∧p.ah.length≤8∧0<p.code.length)) ?_ fun b hb=>?_
 ·refine a8.bif (fun _=>a8.some (by simp)) fun _=>a8.bif (fun _=>a8.some (by simp)) fun _=>a8.bif (fun _=>a8.some (by simp)) fun c1=>a8.bif (fun _=>a8.some (by simp)) fun c2=>a8.bif (fun _=>a8.some (by simp)) fun c3=>a8.some fun h=>?_
  simp only[aaE]at *
  omega
 unfold Sh.Gx
 refine a8.bif (fun _=>a8.some (by simp)) fun c=>?_
 obtain⟨h1,h2,h3,h4⟩:=hb c
 refine a8.seqm (R:=fun _=>∀ t∈p.ah,(1≤t.rows∧t.rows≤64)∧(1≤t.wide∧t.wide≤64)) ?_ fun _ hsz=>?_
 ·refine a8.loop (fun s:Int=>((p.ah.length:Int)-s).toNat) (fun s=>(0≤s∧s≤(p.ah.length:Int)) ∧ ∀ t∈p.ah.take s.toNat,(1≤t.rows∧t.rows≤64)∧(1≤t.wide∧t.wide≤64)) (fun s hs=>?_) 0 ⟨adr,by simp⟩
  obtain⟨hs,hI⟩:=hs
  show a8 (Sh.FG p s) _
  unfold Sh.FG
  refine a8.bif (fun c=>?_) fun c=>a8.some ?_
  ·simp only[aa6]at c
   refine a8.bind (a8.get hs.1 c fun t ht=>a8.seqm (R:=fun b=>b=false→(1≤t.rows∧t.rows≤64)∧(1≤t.wide∧t.wide≤64)) ?_ fun b hb=>?_)
   ·refine a8.bif (fun _=>a8.some (by simp)) fun c1=>a8.bif (fun _=>a8.some (by simp)) fun c2=>a8.bif (fun _=>a8.some (by simp)) fun c3=>a8.some fun h=>?_
    simp only[aaE]at *
    omega
   ·unfold Sh.FD
    rw[jg (x:=s+1) adr]
    exact a8.bif (fun _=>a8.some (by simp)) fun cb=>a8.some ⟨⟨adr,GN hs.1 ht hI (hb cb)⟩,by show((p.ah.length:Int)-(s+1)).toNat<((p.ah.length:Int)-s).toNat;omega⟩
  ·simp only[aaE]at c
   rw[show s.toNat=p.ah.length by omega,abV]at hI
   exact hI
 ·unfold Sh.Gy
  refine a8.bindm (Xq p.code) fun r hr=>a8.bif (fun _=>a8.some (by simp)) fun c=>?_
  obtain⟨hlen,hform⟩:=hr (by simpa using c)
  refine a8.seqm (R:=fun _=>∀ i∈p.code,i.op=21→i.k_≤(p.data.length:Int)) ?_ fun _ hd=>a8.some fun _=>⟨h1,h2,h3,hsz,h4,hlen,fun i hi=>⟨hform i hi,hd i hi⟩⟩
  refine a8.loop (fun s:Int=>((p.code.length:Int)-s).toNat) (fun s=>(0≤s∧s≤(p.code.length:Int)) ∧ ∀ i∈p.code.take s.toNat,i.op=21→i.k_≤(p.data.length:Int)) (fun s hs=>?_) 0 ⟨adr,by simp⟩
  obtain⟨hs,hI⟩:=hs
  show a8 (Sh.aAy p s) _
  unfold Sh.aAy
  refine a8.bif (fun c=>?_) fun c=>a8.some ?_
  ·simp only[aa6]at c
   refine a8.bind (a8.get hs.1 c fun t ht=>a8.seqm (R:=fun b=>b=false→t.op=21→t.k_≤(p.data.length:Int)) (a8.bif (fun _=>a8.some fun h _=>?_) fun c2=>a8.some fun _ k=>?_) fun b hb=>?_)
   ·simp only[aaE]at h;omega
   ·simp only[aaE]at c2;exact absurd k c2
   ·unfold Sh.aAw
    rw[jg (x:=s+1) adr]
    exact a8.bif (fun _=>a8.some (by simp)) fun cb=>a8.some ⟨⟨adr,GN hs.1 ht hI (hb cb)⟩,by show((p.code.length:Int)-(s+1)).toNat<((p.code.length:Int)-s).toNat;omega⟩
  ·simp only[aaE]at c
   rw[show s.toNat=p.code.length by omega,abV]at hI
   exact hI
structure Fits(p:fh)(x:fj):Prop where
 b_:x.b_.length≤65535
 tl:x.ah.length=p.ah.length
 tab:∀ (i:Nat) (t:gG) (b:List UInt8),p.ah[i]? = some t→x.ah[i]? = some b→(b.length:Int)=t.rows*t.wide
theorem YI{p:fh}(x:fj)(M:Made p):a8 (Sh.aD1 p x) fun b=>b=true→Fits p x:=by
 have h3:=M.few
 have h2:=M.hi
 unfold Sh.aD1
 refine a8.seqm (R:=fun b=>b=false→(x.b_.length≤65535∧x.ah.length=p.ah.length)) ?_ fun b hb=>?_
 ·refine a8.bif (fun _=>a8.some (by simp)) fun _=>a8.bif (fun _=>a8.some (by simp)) fun c1=>a8.some fun h=>?_
  simp only[aaE,abU,aa6]at *
  omega
 unfold Sh.Gw
 refine a8.bif (fun _=>a8.some (by simp)) fun c=>?_
 obtain⟨h1,h4⟩:=hb c
 refine a8.seqm (R:=fun _=>∀ (i:Nat) (t:gG) (b:List UInt8),i<p.ah.length→p.ah[i]? = some t→x.ah[i]? = some b→(b.length:Int)=t.rows*t.wide) ?_ fun _ ht=>a8.some fun _=>⟨h1,h4,fun i t b k1 k2=>ht i t b (aaz.1 k1).1 k1 k2⟩
 refine a8.loop (fun s:Int=>((p.ah.length:Int)-s).toNat) (fun s=>(0≤s∧s≤(p.ah.length:Int)) ∧ ∀ (i:Nat) (t:gG) (b:List UInt8),(i:Int)<s→p.ah[i]? = some t→x.ah[i]? = some b→(b.length:Int)=t.rows*t.wide) (fun s hs=>?_) 0 ⟨adr,fun i t b h=>by omega⟩
 obtain⟨hs,hI⟩:=hs
 show a8 (Sh.FC p x s) _
 unfold Sh.FC
 refine a8.bif (fun c=>?_) fun c=>a8.some fun i t b hi=>hI i t b (by simp only[aaE]at c;omega)
 simp only[aa6]at c
 refine a8.bind (a8.get hs.1 c fun t ht=>a8.bind (a8.get hs.1 adr fun b hb=>a8.bif (fun _=>a8.some (by simp)) fun c2=>a8.some ?_))
 obtain⟨⟨a1,a2⟩,a3,a4⟩:=M.sz t (abb ht)
 have q1:t.rows*t.wide≤64*t.wide:=ab0 adr adr
 have q0:0≤t.rows*t.wide:=Int.mul_nonneg adr adr
 have e:(b.length:Int)=t.rows*t.wide:=by
  rw[jg (x:=t.rows*t.wide) adr]at c2
  simpa using c2
 show((0≤IntKind.i64.wrap (s+1)∧IntKind.i64.wrap (s+1)≤(p.ah.length:Int)) ∧ ∀ (i:Nat) (t:gG) (b:List UInt8),(i:Int)<IntKind.i64.wrap (s+1)→p.ah[i]? = some t→x.ah[i]? = some b→(b.length:Int)=t.rows*t.wide)∧((p.ah.length:Int)-IntKind.i64.wrap (s+1)).toNat<((p.ah.length:Int)-s).toNat
 rw[jg (x:=s+1) adr]
 refine⟨⟨adr,fun i t' b' hi k1 k2=>?_⟩,adr⟩
 by_cases e':(i:Int)<s
 ·exact hI i t' b' e' k1 k2
 ·obtain rfl:i=s.toNat:=adr
  rw[ht]at k1;rw[hb]at k2
  cases k1;cases k2
  exact e
def xh(p:fh)(x:fj)(u:List Int):aj :=
 ⟨⟨(tZ x).bp,x.b_,x.ah,p.data,p.ah⟩,p.code,u,AB u p.code.length,(tZ x).bk,[],0,0,false⟩
theorem RN{p:fh}{x:fj}{u:List Int}(M:Made p)(F:Fits p x)(hu:u.length=p.code.length+1):Whole (xh p x u) x.b_.length:=by
 have hc:=F.b_
 refine⟨⟨⟨M.data,M.few,M.sz,F.b_⟩,⟨fun s hs=>?_,rfl,F.tl,F.tab⟩,?_⟩,M.code,M.len,hu,fun k v hk=>XP (P:=fun v=>0≤v∧v<(p.code.length:Int)) (Ir u _) hk,?_,aaF _⟩
 ·obtain rfl:s=bn.zero:=ab3 hs
  exact lw.zero
 ·refine jJ (jJ (jJ (fun v hv=>?_) ⟨fun _=>?_,fun h=>?_⟩) (lw.number _)) ⟨fun _=>?_,fun h=>?_⟩
  ·obtain rfl:v=ak.zero:=ab3 hv
   exact lw.zero
  ·show(-1048576:Int)≤0∧(0:Int)≤1048576;omega
  ·exact absurd (show(5:Int)≤3 from h) adr
  ·show(-1048576:Int)≤256∧(256:Int)≤1048576;omega
  ·exact absurd (show(5:Int)≤2 from h) adr
 ·have:=M.some
  show(0:Int)≤0∧(0:Int)<(p.code.length:Int)
  omega
theorem ZA(p:fh)(x:fj):(∃ a,(a=inl ()∨a=inr (inl ())) ∧ ∀ γ:Type,Sh.mQ (γ:=γ) p x=some (inl a)) ∨
  ∃ u,Made p∧Fits p x∧u.length=p.code.length+1 ∧ ∀ γ:Type,Sh.mQ (γ:=γ) p x=some (inl (inr (inr (xh p x u)))):=by
 obtain⟨b,eb,hb⟩:=YQ p
 cases b with
 | false =>
  left
  refine⟨inl (),.inl rfl,fun γ=>?_⟩
  unfold Sh.mQ
  rw[eb];rfl
 | true =>
  have M:=hb rfl
  obtain⟨b,ef,hf⟩:=YI x M
  cases b with
  | false =>
   left
   refine⟨inr (inl ()),.inr rfl,fun γ=>?_⟩
   unfold Sh.mQ
   rw[eb,aaS,ef];rfl
  | true =>
   right
   have F:=hf rfl
   obtain⟨u,eu,hu⟩:=XY M.len
   refine⟨u,M,F,hu,fun γ=>?_⟩
   have l1:=M.len;have l2:=M.few;have l3:=M.data;have l4:=F.b_;have l5:=F.tl
   have e1:Sh.fR p.code=some p.code:=(cK (by simp;omega) (by simp;omega)).trans (by rw[abX])
   have e2:Sh.eE p.ah=some p.ah:=(cK (by simp;omega) (by simp;omega)).trans (by rw[abX])
   have e3:Sh.iH x.ah=some x.ah:=RY adr fun t ht=>by
    obtain⟨i,hi,rfl⟩:=ab2.1 ht
    have hi':i<p.ah.length:=adr
    have h:=F.tab i _ _ (aa9 hi') (aa9 hi)
    obtain⟨⟨a1,a2⟩,a3,a4⟩:=M.sz _ (abz hi')
    have q1:(p.ah[i]).rows*(p.ah[i]).wide≤64*(p.ah[i]).wide:=ab0 adr adr
    omega
   have e4:Sh.aM x.b_=some x.b_:=qL adr
   have e5:Sh.aM p.data=some p.data:=qL adr
   have e6:Fx.loop (fun(v:List (Int×Int)×Int)=>match v with|(HT,HU)=>Sh.qF (γ:=γ) p.code u HT HU) ([],0)=some (inl (AB u p.code.length)):=by
    obtain⟨o,e,rfl⟩:=bY (body:=fun(v:List (Int×Int)×Int)=>match v with|(HT,HU)=>Sh.qF (γ:=γ) p.code u HT HU) p.code.length (fun i T=>(T,(i:Int))) (fun i T=>T=AB u i) (fun o=>o=inl (AB u p.code.length))
     (fun i T hi hT=>.inl ⟨Fx.kz T (u.getD i 0) (i:Int),by
      have hg:Fx.get u (i:Int)=some (u.getD i 0):=by rw[aX (show i<u.length by omega)];simp[List.getD,aa9 (show i<u.length by omega)]
      simp only[Sh.qF,bV,hi,decide_true,abA,hg,aaS,ij hi adr],by rw[hT];rfl⟩)
     (fun T hT=>⟨_,by simp only[Sh.qF,bV,ab4,decide_false,abC];rfl,by rw[hT]⟩) p.code.length 0 [] adr rfl
    exact e
   unfold Sh.mQ
   rw[eb,aaS,ef,aaS,e1,aaS,eu,aaS]
   simp only[abB,abC,aR,Sh.Ii]
   rw[e4,aaS,e3,aaS,e5,aaS,e2,aaS]
   refine bK e6 ?_
   rfl
end Go.Sp
end
section
namespace Go.Sp
open Go Go.Fw Go.Fx Go.Proofs
noncomputable def L8(m:aj):aj:=match Sh.bA m with
 | some (_,m')=>m'
 | none=>m
noncomputable def codeOf(m:aj):Int:=match Sh.bA m with
 | some (e,_)=>e
 | none=>0
noncomputable def fV(m:aj):Nat→aj
 | 0=>m
 | k+1=>L8 (fV m k)
def Goes(m:aj)(k:Nat):Prop:=∀ j,j<k→codeOf (fV m j)=0
theorem wY{m:aj}{N:Nat}(W:Whole m N):Sh.bA m=some (codeOf m,L8 m)∧(codeOf m=0→Next m (L8 m) N):=by
 obtain⟨⟨e,m'⟩,h1,h2⟩:=YE W
 unfold codeOf L8
 rw[h1]
 exact⟨rfl,h2⟩
structure Fixed(v m:aj):Prop where
 data:m.ae.data=v.ae.data
 sizes:m.ae.sizes=v.ae.sizes
 code:m.code=v.code
 dq:m.dq=v.dq
 G1:m.cg=v.cg
abbrev ED(v:aj)(st:Vec bn 32)(cx:List UInt8)(tb:List (List UInt8))(rg:Vec ak 11)(sn:List Int)(a s:Int)(d:Bool):aj :=
 aj.mk (fq.mk st cx tb v.ae.data v.ae.sizes) v.code v.dq v.cg rg sn a s d
theorem qY{v m:aj}(h:Fixed v m):ED v m.ae.bp m.ae.b_ m.ae.ah m.bk m.bf m.at_ m.steps m.done=m:=by
 unfold ED
 rw[←h.data,←h.sizes,←h.code,←h.dq,←h.G1]
section
variable {m:aj}{N:Nat}(W:Whole m N)
include W
theorem kB{k:Nat}(hk:Goes m k):Whole (fV m k) N∧Fixed m (fV m k):=by
 induction k with
 | zero=>exact⟨W,⟨rfl,rfl,rfl,rfl,rfl⟩⟩
 | succ k ih =>
  obtain⟨w,f⟩:=ih fun j hj=>hk j adr
  have n:=(wY w).2 (hk k adr)
  exact⟨n.whole,n.data.trans f.data,n.sizes.trans f.sizes,n.code.trans f.code,n.dq.trans f.dq,n.G1.trans f.G1⟩
theorem nJ{k:Nat}(hk:Goes m (k+1)):Sh.bA (fV m k)=some (0,fV m (k+1))∧Next (fV m k) (fV m (k+1)) N:=by
 obtain⟨w,f⟩:=kB W (k:=k) fun j hj=>hk j adr
 have e:=hk k adr
 have s:=wY w
 rw[e]at s
 exact⟨s.1,s.2 rfl⟩
theorem Wb(h0:m.steps=0){k:Nat}(hk:Goes m k)(hn:k≤1000000000):(fV m k).steps=(k:Int):=by
 induction k with
 | zero=>exact h0
 | succ k ih =>
  have e:=ih (fun j hj=>hk j adr) adr
  have n:=(nJ W hk).2.steps
  rw[e,jg adr]at n
  rw[n];omega
theorem IG(h0:m.steps=0){k:Nat}(hk:Goes m k)(hn:k≤65536):iW (ku (fV m k))∧jl (ku (fV m k)):=by
 obtain⟨w,f⟩:=kB W hk
 have e:=Wb W h0 hk adr
 exact⟨XE w (by rw[e];omega),wX w⟩
end
theorem Goes.mono{m:aj}{k j:Nat}(h:Goes m k)(hj:j≤k):Goes m j:=fun i hi=>h i adr
noncomputable def qm(m:aj)(j:Nat):dD:=jW (ku (fV m j)) (ku (fV m (j+1)))
noncomputable def cq(m:aj)(n:Nat):List dD:=(List.range n).map (qm m)
theorem gV(m:aj)(n:Nat):(cq m n).length=n:=by simp[cq]
theorem Sr{m:aj}{n i:Nat}(hi:i<(cq m n).length):(cq m n)[i]=qm m i:=by simp[cq]
theorem V1(m:aj)(n:Nat):cq m (n+1)=cq m n ++ [qm m n]:=by simp[cq,abn]
theorem RL{m:aj}{n k:Nat}(h:k≤n):(cq m n).take k=cq m k:=by
 simp only[cq,←ab5,List.take_range,ab6 h]
section
variable {m:aj}{N:Nat}(W:Whole m N)(h0:m.steps=0)
include W h0
theorem uB{k:Nat}(hk:Goes m (k+1))(hn:k+1≤65536):Sh.eM (ku (fV m k)) (ku (fV m (k+1)))=some (qm m k,0)∧vv (qm m k)∧Sh.bP (ku (fV m k)) (qm m k)=some (ku (fV m (k+1)),0):=by
 obtain⟨p1,s1⟩:=IG W h0 (hk.mono (ab7 _)) adr
 obtain⟨p2,s2⟩:=IG W h0 hk hn
 have b:=XT (kB W (hk.mono (ab7 _))).1 (nJ W hk).2
 have L:=WW p1 p2 b
 refine⟨(WA s1 s2).1 p1 p2 b,L,?_⟩
 have A:=(rE (x:=ku (fV m k)) (m:=qm m k) s1 L.small).ok p1 (vF p1 p2 b) (Iw p1 p2 b)
 rw[A]
 exact congrArg (fun y=>some (y,(0:Int))) (Jw p1 p2 b)
end
end Go.Sp
end
section
namespace Go.Sp
open Go Go.Fw Go.Fx Go.Proofs
structure Ends(m:aj)(lim:Int)(n:Nat)(e:Int):Prop where
 go:Goes m n
 le:(n:Int)≤lim∨n=0
 fin:((n:Int)<lim∧(fV m n).done=false∧codeOf (fV m n)=e∧e≠0)∨((fV m n).done=true∧e=0)∨(¬ (n:Int)<lim∧(fV m n).done=false∧e=88)
section
variable {m:aj}{N:Nat}(W:Whole m N)(h0:m.steps=0){lim:Int}(hlim:lim≤65536)
include W h0 hlim
theorem Wh(x:fj)(x2:Int)(E3:lim=if 65536<x2 then 65536 else x2){j:Nat}(hj:Goes m j)(hle:(j:Int)≤lim∨j=0) :
  a8 (Sh.tY x2 m x (ku (fV m j)) (cq m j) 0 (fV m j).ae.bp (fV m j).ae.b_ (fV m j).ae.ah (fV m j).bk (fV m j).bf (fV m j).at_ (fV m j).steps (fV m j).done (j:Int)) fun o =>
   ((j:Int)<lim∧(fV m j).done=false∧codeOf (fV m j)=0∧o = .inl (ku (fV m (j+1)),cq m (j+1),0,(fV m (j+1)).ae.bp,(fV m (j+1)).ae.b_,(fV m (j+1)).ae.ah,(fV m (j+1)).bk,(fV m (j+1)).bf,(fV m (j+1)).at_,(fV m (j+1)).steps,(fV m (j+1)).done,((j+1:Nat):Int))) ∨
   (∃ e,Ends m lim j e∧e≠0∧e=codeOf (fV m j)∧o = .inr (.inr (⟨x,cq m j,e⟩,0))) ∨
   (((¬ (j:Int)<lim∧(fV m j).done=false)∨(fV m j).done=true)∧o = .inr (.inl (ku (fV m j),cq m j,0,(fV m j).ae.bp,(fV m j).ae.b_,(fV m j).ae.ah,(fV m j).bk,(fV m j).bf,(fV m j).at_,(fV m j).steps,(fV m j).done))):=by
 obtain⟨w,f⟩:=kB W hj
 unfold Sh.tY
 rw[←E3]
 refine a8.seqm (R:=fun b=>b=true↔((j:Int)<lim∧(fV m j).done=false)) (a8.bif (fun c=>a8.some ?_) fun c=>a8.some ?_) fun b hb=>?_
 ·simp only[aa6]at c
  show(!(fV m j).done)=true↔_
  simp[c]
 ·simp only[aaE]at c
  simp[c]
 unfold Sh.yU
 refine a8.bif (fun c=>?_) fun c=>?_
 ·obtain⟨k1,k2⟩:=hb.1 c
  have rb:=qY f
  unfold ED at rb
  rw[rb,(wY w).1]
  refine a8.bind (a8.some (a8.bif (fun c2=>a8.some (.inr (.inl ⟨codeOf (fV m j),⟨hj,hle,.inl ⟨k1,k2,rfl,by simpa using c2⟩⟩,by simpa using c2,rfl,rfl⟩))) fun c2=>?_))
  have e:codeOf (fV m j)=0:=by simpa using c2
  have hj':Goes m (j+1):=fun i hi=>by
   by_cases q:i<j
   ·exact hj i q
   ·rw[show i=j by omega];exact e
  obtain⟨w',f'⟩:=kB W hj'
  have MD:=qY f'
  unfold ED at MD
  show a8 (Option.bind (Sh.bG _) _) _
  rw[show L8 (fV m j)=fV m (j+1)from rfl,MD,sT w']
  obtain⟨d1,d2,d3⟩:=uB W h0 hj' adr
  refine a8.bind (a8.some ?_)
  rw[d1]
  refine a8.bind (a8.some ?_)
  rw[cK (bytes:=120) (l:=cq m j) (m:=[(qm m j,(0:Int)).1]) (by rw[gV];simp;omega) (by rw[gV];simp;omega)]
  refine a8.bind (a8.some (a8.some (.inl ⟨k1,k2,e,?_⟩)))
  rw[e,jg (x:=(j:Int)+1) adr,V1]
  rfl
 ·refine a8.some (.inr (.inr ⟨?_,rfl⟩))
  cases k:(fV m j).done with
  | true=>exact .inr rfl
  | false=>exact .inl ⟨fun h=>(by rw[hb.2 ⟨h,k⟩]at c;cases c),rfl⟩
theorem XX(hd:m.done=false)(x:fj)(x2:Int)(E3:lim=if 65536<x2 then 65536 else x2) :
  a8 (Sh.tW x2 m (ku m) x 0) fun r=>∃ n e,Ends m lim n e∧r=(⟨x,cq m n,e⟩,0):=by
 unfold Sh.tW
 refine a8.seqm (R:=fun v=>∃ j,Goes m j∧((j:Int)≤lim∨j=0)∧((¬ (j:Int)<lim∧(fV m j).done=false)∨(fV m j).done=true)∧v=(ku (fV m j),cq m j,0,(fV m j).ae.bp,(fV m j).ae.b_,(fV m j).ae.ah,(fV m j).bk,(fV m j).bf,(fV m j).at_,(fV m j).steps,(fV m j).done)) ?_ fun v hv=>?_
 ·refine a8.loop (fun s:bj×List dD×Int×Vec bn 32×List UInt8×List (List UInt8)×Vec ak 11×List Int×Int×Int×Bool×Int=>(65536-s.2.2.2.2.2.2.2.2.2.2.2).toNat) (fun s=>∃ j:Nat,Goes m j∧((j:Int)≤lim∨j=0)∧s=(ku (fV m j),cq m j,0,(fV m j).ae.bp,(fV m j).ae.b_,(fV m j).ae.ah,(fV m j).bk,(fV m j).bf,(fV m j).at_,(fV m j).steps,(fV m j).done,(j:Int))) (fun s hs=>?_) _ ⟨0,fun j hj=>by omega,.inr rfl,rfl⟩
  obtain⟨j,hj,hle,rfl⟩:=hs
  refine(Wh W h0 hlim x x2 E3 hj hle).mono fun o ho=>?_
  rcases ho with⟨k1,k2,k3,rfl⟩|⟨e,k1,k2,k3,rfl⟩|⟨k1,rfl⟩
  ·refine⟨⟨j+1,fun i hi=>?_,.inl adr,rfl⟩,by show(65536-((j+1:Nat):Int)).toNat<(65536-(j:Int)).toNat;omega⟩
   by_cases q:i<j
   ·exact hj i q
   ·rw[show i=j by omega];exact k3
  ·exact⟨j,e,k1,rfl⟩
  ·exact⟨j,hj,hle,k1,rfl⟩
 ·obtain⟨j,hj,hle,hf,rfl⟩:=hv
  show a8 (Sh.tX x (ku (fV m j)) (cq m j) 0 _ _ _ _ _ _ _ _) _
  unfold Sh.tX
  show a8 (Fx.seq (bif !(fV m j).done then some (inl 88)else some (inl 0)) _) _
  rcases hf with⟨k1,k2⟩|k2
  ·rw[k2]
   exact a8.some ⟨j,88,⟨hj,hle,.inr (.inr ⟨k1,k2,rfl⟩)⟩,rfl⟩
  ·rw[k2]
   exact a8.some ⟨j,0,⟨hj,hle,.inr (.inl ⟨k2,rfl⟩)⟩,rfl⟩
end
theorem Y5{p:fh}{x:fj}{u:List Int}(M:Made p)(F:Fits p x)(hu:u.length=p.code.length+1)(hN:∀ γ:Type,Sh.mQ (γ:=γ) p x=some (inl (inr (inr (xh p x u)))))(x2:Int) :
  ∃ n e,Ends (xh p x u) (if 65536<x2 then 65536 else x2) n e∧Sh.tF p x x2=some (⟨x,cq (xh p x u) n,e⟩,0):=by
 have W:=RN M F hu
 have S:=wX W
 obtain⟨r,e,n,e',h1,rfl⟩:=XX W rfl (lim:=if 65536<x2 then 65536 else x2) (by split<;>omega) rfl x x2 rfl
 refine⟨n,e',h1,?_⟩
 unfold Sh.tF
 refine bK (hN _) ?_
 show Sh.tV x2 (xh p x u)=_
 unfold Sh.tV
 rw[sT W,aaS]
 have ec:Sh.cU (ku (xh p x u)).b_=some x.b_:=qK (by have:=F.b_;show x.b_.length≤_;omega)
 rw[ec,aaS,sU S,aaS]
 exact e
end Go.Sp
end
section
namespace Go.Sp
open Go Go.Fw Go.Fx Go.Proofs
theorem Wi{s:bj}(h:jl s):Sh.tH s s=some true:=by
 have h1:=h.ah
 have h2:=h.bf
 have e3:Sh.uG s s true=some (inl true):=by
  unfold Sh.uG
  rw[abA,abf rfl]
  exact bK (bK (pass (g:=inl ()) s.bf.length adr (fun i hi=>by simp[Sh.zF,hi,aX hi]) (by simp[Sh.zF])) rfl) rfl
 have e2:Sh.uF s s true=some (inl true):=by
  unfold Sh.uF
  rw[abA,abf rfl]
  exact bK (bK (pass (g:=inl ()) s.ah.length adr (fun i hi=>by simp[Sh.zE,hi,aX hi,aR,Sh.zC]) (by simp[Sh.zE])) rfl) e3
 unfold Sh.tH
 simp only[decide_true,abA,aR,e2,Sh.zD]
section
variable {m:aj}{N:Nat}(W:Whole m N)(h0:m.steps=0)
include W h0
omit h0 in
theorem SY{β:Type}{i:Nat}(hg:Goes m i) :
  (bif (decide (0≤(i:Int)-1))then((Sh.bA (aj.mk (fq.mk (fV m (i-1)).ae.bp (fV m (i-1)).ae.b_ (fV m (i-1)).ae.ah m.ae.data m.ae.sizes) m.code m.dq m.cg (fV m (i-1)).bk (fV m (i-1)).bf (fV m (i-1)).at_ (fV m (i-1)).steps (fV m (i-1)).done)).bind fun y=>(bif (!decide (y.1=0))then(some (inl (y.2.ae.bp,y.2.ae.b_,y.2.ae.ah,y.2.bk,y.2.bf,y.2.at_,y.2.steps,y.2.done,true)))else((Sh.bG (aj.mk (fq.mk y.2.ae.bp y.2.ae.b_ y.2.ae.ah m.ae.data m.ae.sizes) m.code m.dq m.cg y.2.bk y.2.bf y.2.at_ y.2.steps y.2.done)).bind fun z=>((Sh.tH (ku (fV m i)) z).bind fun b=>(some (inl (y.2.ae.bp,y.2.ae.b_,y.2.ae.ah,y.2.bk,y.2.bf,y.2.at_,y.2.steps,y.2.done,(!b))))))))else(some (inl ((fV m (i-1)).ae.bp,(fV m (i-1)).ae.b_,(fV m (i-1)).ae.ah,(fV m (i-1)).bk,(fV m (i-1)).bf,(fV m (i-1)).at_,(fV m (i-1)).steps,(fV m (i-1)).done,false))):Option ((Vec bn 32×List UInt8×List (List UInt8)×Vec ak 11×List Int×Int×Int×Bool×Bool)⊕β)) =
   some (inl ((fV m i).ae.bp,(fV m i).ae.b_,(fV m i).ae.ah,(fV m i).bk,(fV m i).bf,(fV m i).at_,(fV m i).steps,(fV m i).done,false)):=by
 cases i with
 | zero=>rfl
 | succ k =>
  obtain⟨w,f⟩:=kB W (hg.mono (ab7 k))
  obtain⟨w',f'⟩:=kB W hg
  have rb:=qY f
  have MD:=qY f'
  unfold ED at rb MD
  rw[abf adr,abA]
  simp only[ab8]
  rw[rb,(nJ W hg).1,aaS]
  simp only[decide_true,abB,abC]
  rw[MD,sT w',aaS,Wi (wX w')]
  rfl
theorem VT{x:fj}{E:Int}{n i:Nat}(hn:n≤65536)(hg:Goes m n)(hi:i<n) :
  Sh.eR m ⟨x,cq m n,E⟩ (ku (fV m i)) ((i:Int)-1) (fV m (i-1)).ae.bp (fV m (i-1)).ae.b_ (fV m (i-1)).ae.ah (fV m (i-1)).bk (fV m (i-1)).bf (fV m (i-1)).at_ (fV m (i-1)).steps (fV m (i-1)).done (i:Int) =
   some (.inl (ku (fV m (i+1)),(i:Int),(fV m i).ae.bp,(fV m i).ae.b_,(fV m i).ae.ah,(fV m i).bk,(fV m i).bf,(fV m i).at_,(fV m i).steps,(fV m i).done,((i+1:Nat):Int))):=by
 have hl:i<(cq m n).length:=by rw[gV];exact hi
 unfold Sh.eR
 rw[abf (by show(i:Int)<((cq m n).length:Int);omega),abA]
 show(Option.bind (Fx.get (cq m n) (i:Int)) _)=_
 rw[aX hl,aaS]
 refine bK (bK (SY W (hg.mono (Nat.le_of_lt hi))) rfl) ?_
 show Sh.pS (ku (fV m i)) (i:Int) (cq m n)[i] (IntKind.i64.wrap ((i:Int)-1+1)) _ _ _ _ _ _ _ _=_
 unfold Sh.pS
 rw[Sr,(uB W h0 (hg.mono (show i+1≤n by omega)) adr).2.2,aaS,jg adr,jg adr,show(i:Int)-1+1=(i:Int) by omega]
 rfl
noncomputable def mV(m:aj):Int:=bif m.done then 0 else bif decide (codeOf m=0)then 88 else codeOf m
omit h0 in
theorem Zt:∃ m',Sh.aD4 m=some (mV m,m'):=by
 unfold Sh.aD4 mV
 rw[sT W,aaS]
 show ∃ m',(bif m.done then _ else _)=_
 cases m.done with
 | true=>exact⟨m,rfl⟩
 | false =>
  rw[(wY W).1]
  by_cases c:codeOf m=0
  ·rw[abC,aaS,abf c];exact⟨_,rfl⟩
  ·rw[abC,aaS,abg c];exact⟨_,rfl⟩
theorem WT{x:fj}{E:Int}{n:Nat}(hx:BK x)(hb:ku m=tZ x)(hn:n≤65536)(hg:Goes m n)(hE:E=mV (fV m n)∨(mV (fV m n)≠0∧E=88))(h88:n=65536→mV (fV m n)≠0→E=88) :
  Sh.nZ ⟨x,cq m n,E⟩ m ⟨x,cq m n,E⟩=some (0,0):=by
 obtain⟨w,f⟩:=kB W hg
 have rb:=qY f
 unfold ED at rb
 have hm1:((cq m n).length:Int)=(n:Int):=by rw[gV]
 have L:Fx.loop (fun(v:bj×Int×Vec bn 32×List UInt8×List (List UInt8)×Vec ak 11×List Int×Int×Int×Bool×Int)=>match v with|(ym,yn,yo,yp,yq,yr,yu,yv,yw,yx,yy)=>Sh.eR m ⟨x,cq m n,E⟩ ym yn yo yp yq yr yu yv yw yx yy) (ku m,(-1),m.ae.bp,m.ae.b_,m.ae.ah,m.bk,m.bf,m.at_,m.steps,m.done,0) =
   some (.inl (ku (fV m n),(n:Int)-1,(fV m (n-1)).ae.bp,(fV m (n-1)).ae.b_,(fV m (n-1)).ae.ah,(fV m (n-1)).bk,(fV m (n-1)).bf,(fV m (n-1)).at_,(fV m (n-1)).steps,(fV m (n-1)).done)):=by
  obtain⟨o,e,rfl⟩:=bY (body:=fun(v:bj×Int×Vec bn 32×List UInt8×List (List UInt8)×Vec ak 11×List Int×Int×Int×Bool×Int)=>match v with|(ym,yn,yo,yp,yq,yr,yu,yv,yw,yx,yy)=>Sh.eR m ⟨x,cq m n,E⟩ ym yn yo yp yq yr yu yv yw yx yy) n
   (fun i (_:Unit)=>(ku (fV m i),(i:Int)-1,(fV m (i-1)).ae.bp,(fV m (i-1)).ae.b_,(fV m (i-1)).ae.ah,(fV m (i-1)).bk,(fV m (i-1)).bf,(fV m (i-1)).at_,(fV m (i-1)).steps,(fV m (i-1)).done,(i:Int))) (fun _ _=>True)
   (fun o=>o = .inl (ku (fV m n),(n:Int)-1,(fV m (n-1)).ae.bp,(fV m (n-1)).ae.b_,(fV m (n-1)).ae.ah,(fV m (n-1)).bk,(fV m (n-1)).bf,(fV m (n-1)).at_,(fV m (n-1)).steps,(fV m (n-1)).done))
   (fun i a hi _=>.inl ⟨(),by
    show Sh.eR m ⟨x,cq m n,E⟩ _ _ _ _ _ _ _ _ _ _ _=_
    rw[VT W h0 hn hg hi]
    simp only[ab8]
    rw[show((i+1:Nat):Int)-1=(i:Int) by omega],trivial⟩)
   (fun a _=>⟨_,by
    show Sh.eR m ⟨x,cq m n,E⟩ _ _ _ _ _ _ _ _ _ _ _=_
    unfold Sh.eR
    rw[abg (by show ¬ (n:Int)<((cq m n).length:Int);omega)]
    rfl,rfl⟩) n 0 () adr trivial
  exact e
 unfold Sh.nZ
 show Fx.seq (Option.bind (Sh.qI x) _) _=_
 rw[Sl hx,aaS,←hb]
 refine bK (bK L (bK (bK (SY W hg) rfl) rfl)) ?_
 show Sh.pT ⟨x,cq m n,E⟩ m (IntKind.i64.wrap ((n:Int)-1+1)) _ _ _ _ _ _ _ _=_
 unfold Sh.pT
 obtain⟨m',e⟩:=Zt w
 rw[rb,e,aaS]
 have key:∃ v,Fx.seq (Fx.seq (bif (!decide ((mV (fV m n),m').1=0))then(some (inl (decide ((((⟨x,cq m n,E⟩ : du).cj).length:Int)=65536))))else(some (inl false)):Option (Bool⊕(Int⊕(Int×Int)))) fun Fp=>Sh.aBq (mV (fV m n),m') Fp) (fun Fo=>Sh.pU ⟨x,cq m n,E⟩ Fo)=Sh.pU ⟨x,cq m n,E⟩ v∧(v=mV (fV m n)∨(v=88∧n=65536∧mV (fV m n)≠0)):=by
  by_cases c:mV (fV m n)=0
  ·refine⟨mV (fV m n),?_,.inl rfl⟩
   rw[show(mV (fV m n),m').1=mV (fV m n)from rfl,abf c];rfl
  ·rw[show(mV (fV m n),m').1=mV (fV m n)from rfl,abg c]
   by_cases c2:n=65536
   ·refine⟨88,?_,.inr ⟨rfl,c2,c⟩⟩
    rw[show decide ((((⟨x,cq m n,E⟩ : du).cj).length:Int)=65536)=true from abf (by show((cq m n).length:Int)=_;omega)];rfl
   ·refine⟨mV (fV m n),?_,.inl rfl⟩
    rw[show decide ((((⟨x,cq m n,E⟩ : du).cj).length:Int)=65536)=false from abg (by show ¬ ((cq m n).length:Int)=_;omega)];rfl
 obtain⟨v,e2,hv⟩:=key
 rw[e2]
 unfold Sh.pU
 show Fx.seq (bif (!decide (E=v))then(bif (decide (v=0))then(some (inl true))else(some (inl (!decide (E=88)))))else(some (inl false))) _=_
 by_cases c:E=v
 ·rw[abf c];rfl
 ·rw[abg c]
  have h:v≠0∧E=88:=by
   rcases hv with rfl|⟨rfl,k1,k2⟩
   ·rcases hE with rfl|h
    ·exact absurd rfl c
    ·exact h
   ·exact absurd (h88 k1 k2) c
  rw[abg h.1,abf h.2];rfl
end
end Go.Sp
end
section
namespace Go.Sp
open Go Go.Fw Go.Fx Go.Proofs
theorem YK{r:du}(h:Gl r){k:Nat}(hk:k≤r.cj.length):Sh.kV r (k:Int)=some (m_ r k,0):=by
 have hlen:=h.ms.len
 have hsl:Fx.nj r.cj 0 (k:Int)=some (r.cj.take k):=by
  unfold Fx.nj
  rw[aaJ adr];simp
 unfold Sh.kV
 rw[dL,abf adr]
 have e0:(bif decide ((k:Int)<(r.cj.length:Int))then some (inl 88)else some (inl r.end_):Option (Int⊕(du×Int)))=some (.inl (m_ r k).end_):=by
  by_cases g:k<r.cj.length
  ·rw[abf adr];simp[m_,g]
  ·rw[abg adr];simp[m_,g]
 simp only[aaS,abB,abC]
 refine bK e0 ?_
 simp only[Fx.fin,Sh.yS]
 have hc:Sh.fW (bj.mk (⟨List.replicate 11 ak.zero,rfl⟩ : Vec ak 11) (⟨List.replicate 32 bn.zero,rfl⟩ : Vec bn 32) r.iz.b_ r.iz.ah [] 0 0 false)=some (bj.mk (⟨List.replicate 11 ak.zero,rfl⟩ : Vec ak 11) (⟨List.replicate 32 bn.zero,rfl⟩ : Vec bn 32) r.iz.b_ r.iz.ah [] 0 0 false):=sU ⟨h.inp.b_,h.inp.ah,h.inp.each,by simp⟩
 rw[hc,aaS,hsl]
 simp only[aaS]
 obtain⟨g,hg,e⟩:=bY (body:=fun(v:du×Int)=>match v with|(a,b)=>Sh.hI (r.cj.take k) a b) (r.cj.take k).length (fun i T=>(⟨⟨r.iz.b_,r.iz.ah⟩,T,(m_ r k).end_⟩,(i:Int))) (fun i T=>T=(r.cj.take k).take i) (fun g=>g = .inl (m_ r k))
  (fun i T hi hT=>.inl ⟨T ++ [(r.cj.take k)[i]],by
   have hl:T.length≤i:=by rw[hT];simp;omega
   have hi':i<k:=by simp at hi;omega
   have hm:=h.ms.mark _ (ab9 (abz hi))
   have e2:Fx.app 120 T [(r.cj.take k)[i]]=some (T ++ [(r.cj.take k)[i]]):=cK (by simp;omega) (by simp;omega)
   simp only[Sh.hI,bV,hi,decide_true,abA,aX hi,aaS,WC hm,e2,ij hi (by simp;omega)],by
   rw[hT,abI (l:=r.cj.take k),aa9 hi];rfl⟩)
  (fun T hT=>⟨.inl (m_ r k),by rw[abV]at hT;subst hT;simp[Sh.hI,m_],rfl⟩) (r.cj.take k).length 0 [] adr rfl
 subst e
 exact bK hg rfl
theorem YZ{r:du}(h:Gl r)(g:y8 r.iz){k:Nat}(hk:k≤r.cj.length){s:bj}(ha:after r.cj (tZ r.iz) k = .inl s):Sh.jF r (k:Int)=some (s,0,0):=by
 have hb:=pV h.inp
 have hbs:(tZ r.iz).bf.length=0:=rfl
 obtain⟨q,hq⟩:=Yf h.ms hb hbs hk k 0 (tZ r.iz) adr rfl
 unfold Sh.jF
 rw[dL,abf adr]
 simp only[aaS,abB,abC,(pX r.iz).true g,aR,Sh.tS,Sl h.inp]
 refine bK hq ?_
 rw[ha]
 rfl
section
variable {m:aj}{N:Nat}(W:Whole m N)(h0:m.steps=0)
include W h0
theorem Ic{n:Nat}(hg:Goes m n)(hn:n≤65536):A_ (cq m n):=by
 refine⟨by rw[gV];omega,fun q hq=>?_⟩
 obtain⟨j,hj,rfl⟩:=aaW.1 hq
 have hj':j<n:=aaO.1 hj
 exact(uB W h0 (hg.mono (show j+1≤n by omega)) adr).2.1
theorem Xk{x:fj}(hx:BK x)(hb:ku m=tZ x){n:Nat}(hg:Goes m n)(hn:n≤65536):∀ k,k≤n→after (cq m n) (tZ x) k = .inl (ku (fV m k)):=by
 intro k
 induction k with
 | zero=>intro _;rw[←hb];rfl
 | succ k ih =>
  intro hk
  have hl:k<(cq m n).length:=by rw[gV];omega
  obtain⟨y,e,a1,a3⟩:=RF (Ic W h0 hg hn) (pV hx) rfl hl (ih adr)
  rw[Sr,(uB W h0 (hg.mono hk) adr).2.2]at a1
  cases a1
  rw[a3];rfl
omit h0 in
theorem WM{n k:Nat}(hg:Goes m n)(hk:k≤n)(hn:n≤65536) :
  Fx.loop (fun(v:Vec bn 32×List UInt8×List (List UInt8)×Vec ak 11×List Int×Int×Int×Bool×Int)=>match v with|(Eb,Ec,Ed,Ee,Eg,Eh,Ei,Ej,Ek)=>Sh.cG m (k:Int) Eb Ec Ed Ee Eg Eh Ei Ej Ek) (m.ae.bp,m.ae.b_,m.ae.ah,m.bk,m.bf,m.at_,m.steps,m.done,0) =
   some (.inl ((fV m k).ae.bp,(fV m k).ae.b_,(fV m k).ae.ah,(fV m k).bk,(fV m k).bf,(fV m k).at_,(fV m k).steps,(fV m k).done)):=by
 obtain⟨o,e,rfl⟩:=bY (body:=fun(v:Vec bn 32×List UInt8×List (List UInt8)×Vec ak 11×List Int×Int×Int×Bool×Int)=>match v with|(Eb,Ec,Ed,Ee,Eg,Eh,Ei,Ej,Ek)=>Sh.cG m (k:Int) Eb Ec Ed Ee Eg Eh Ei Ej Ek) k
  (fun i (_:Unit)=>((fV m i).ae.bp,(fV m i).ae.b_,(fV m i).ae.ah,(fV m i).bk,(fV m i).bf,(fV m i).at_,(fV m i).steps,(fV m i).done,(i:Int))) (fun _ _=>True)
  (fun o=>o = .inl ((fV m k).ae.bp,(fV m k).ae.b_,(fV m k).ae.ah,(fV m k).bk,(fV m k).bf,(fV m k).at_,(fV m k).steps,(fV m k).done))
  (fun i a hi _=>.inl ⟨(),by
   obtain⟨w,f⟩:=kB W (hg.mono (show i≤n by omega))
   have rb:=qY f
   unfold ED at rb
   show Sh.cG m (k:Int) _ _ _ _ _ _ _ _ _=_
   unfold Sh.cG
   rw[abf adr,abA,rb,(nJ W (hg.mono (show i+1≤n by omega))).1,aaS,jg adr]
   rfl,trivial⟩)
  (fun a _=>⟨_,by
   show Sh.cG m (k:Int) _ _ _ _ _ _ _ _ _=_
   unfold Sh.cG
   rw[abg adr]
   rfl,rfl⟩) k 0 () adr trivial
 exact e
omit h0 in
theorem Zn{lim:Int}(hlim:lim≤65536){n:Nat}{e:Int}(E:Ends m lim n e):∃ o m',Sh.kM m lim=some (o,e,m'):=by
 have hn:n≤65536:=by rcases E.le with h|h<;>omega
 unfold Sh.kM
 have h:=bY (body:=fun(v:Vec bn 32×List UInt8×List (List UInt8)×Vec ak 11×List Int×Int×Int×Bool×Int)=>match v with|(QX,QY,QZ,Q0,Q5,Q6,Q7,Q8,Q9)=>Sh.dS m lim QX QY QZ Q0 Q5 Q6 Q7 Q8 Q9) n
  (fun i (_:Unit)=>((fV m i).ae.bp,(fV m i).ae.b_,(fV m i).ae.ah,(fV m i).bk,(fV m i).bf,(fV m i).at_,(fV m i).steps,(fV m i).done,(i:Int))) (fun _ _=>True) (fun o=>∃ p m',o=(p,e,m'))
  (fun i a hi _=>.inl ⟨(),by
   obtain⟨w,f⟩:=kB W (E.go.mono (show i≤n by omega))
   have rb:=qY f
   unfold ED at rb
   have nx:=nJ W (E.go.mono (show i+1≤n by omega))
   show Sh.dS m lim _ _ _ _ _ _ _ _ _=_
   unfold Sh.dS
   have hi2:(i:Int)<lim:=by rcases E.le with h|h<;>omega
   rw[nx.2.pI,abC,abg adr,abC]
   have UL:=rb
   rw[nx.2.pI]at UL
   rw[UL,nx.1,aaS,jg (x:=(i:Int)+1) adr]
   rfl,trivial⟩)
  (fun a _=>by
   obtain⟨w,f⟩:=kB W E.go
   have rb:=qY f
   unfold ED at rb
   show ∃ g,Sh.dS m lim _ _ _ _ _ _ _ _ _=_∧_
   unfold Sh.dS
   rcases E.fin with⟨k1,k2,k3,k4⟩|⟨k1,k2⟩|⟨k1,k2,k3⟩
   ·rw[k2,abC,abg adr,abC]
    rw[k2]at rb
    rw[rb,(wY w).1,aaS,k3]
    refine⟨_,by rw[abg k4];rfl,_,_,rfl⟩
   ·rw[k1,abA]
    have hr:a8 (Fx.get (fV m n).bk.l 0) fun _=>True:=a8.getv adr (by decide) fun _ _=>trivial
    obtain⟨v,hv,_⟩:=hr
    rw[hv,aaS,FC w,aaS,xN w,aaS,xM w,aaS,k2]
    exact⟨_,rfl,_,_,rfl⟩
   ·rw[k2,abC,abf adr,abA,k3]
    exact⟨_,rfl,_,_,rfl⟩) n 0 () adr trivial
 obtain⟨g,hg,p,m',rfl⟩:=h
 exact⟨p,m',hg⟩
end
theorem XD(a:Int){n:Nat}(h0:0<n)(hn:n≤65536):∃ k:Nat,k≤n∧Int.tmod (IntKind.i64.wrap (IntKind.i64.wrap (Int.tmod a (IntKind.i64.wrap ((n:Int)+1))+(n:Int))+1)) (IntKind.i64.wrap ((n:Int)+1))=(k:Int):=by
 rw[jg (x:=(n:Int)+1) adr]
 have h1:Int.tmod a ((n:Int)+1)<(n:Int)+1:=Int.tmod_lt_of_pos a adr
 have h2 : -((n:Int)+1)<Int.tmod a ((n:Int)+1):=by
  have e:=Int.neg_tmod a ((n:Int)+1)
  have:=Int.tmod_lt_of_pos (-a) (show 0<(n:Int)+1 by omega)
  omega
 rw[jg (x:=Int.tmod a ((n:Int)+1)+(n:Int)) adr,jg (x:=Int.tmod a ((n:Int)+1)+(n:Int)+1) adr]
 generalize Int.tmod a ((n:Int)+1)=q at *
 have e3:=abZ (a:=q+n+1) (b:=(n:Int)+1) adr
 have e4:=Int.emod_nonneg (q+n+1) (show(n:Int)+1≠0 by omega)
 have e5:=Int.emod_lt_of_pos (q+n+1) (show 0<(n:Int)+1 by omega)
 refine⟨((q+n+1)%((n:Int)+1)).toNat,adr,by rw[e3];omega⟩
theorem BX(p:fh)(x:fj)(most a:Int):Sh.sC p x most a=some true:=by
 unfold Sh.sC
 simp only[Sh.cE,aaS,abB,abC]
 rcases ZA p x with⟨b,hb,hN⟩|⟨u,M,F,hu,hN⟩
 ·rcases hb with rfl|rfl
  ·have e:Sh.tF p x most=some (⟨⟨[],[]⟩,[],0⟩,1):=bK (hN _) rfl
   rw[e,aaS]
   exact bK (hN _) rfl
  ·have e:Sh.tF p x most=some (⟨⟨[],[]⟩,[],0⟩,3):=bK (hN _) rfl
   rw[e,aaS]
   exact bK (hN _) rfl
 have W:=RN M F hu
 have h0:(xh p x u).steps=0:=rfl
 have hb:ku (xh p x u)=tZ x:=rfl
 obtain⟨n,e,E,hT⟩:=Y5 M F hu hN most
 have hlim:(if 65536<most then 65536 else most)≤65536:=by split<;>omega
 have hn:n≤65536:=by rcases E.le with h|h<;>omega
 have G:=E.go
 have IO:y8 x:=HC W
 have LI:BK x:=⟨by have:=IO.1;omega,by have:=IO.2.1;omega,fun t ht=>by have:=IO.2.2 t ht;omega⟩
 generalize xh p x u=m at *
 have Lm:((cq m n).length:Int)=(n:Int):=by rw[gV]
 -- any head of the run is taken
 have TE:∀ (k:Nat) (E':Int),k≤n→(E' = mV (fV m k)∨(mV (fV m k)≠0∧E' = 88))→(k=65536→mV (fV m k)≠0→E' = 88)→Sh.iI p ⟨x,cq m k,E'⟩=some (0,0):=fun k E' hk h1 h2=>by
  unfold Sh.iI
  rw[abg (by show ¬ (65536:Int)<((cq m k).length:Int);rw[gV];omega),abC]
  refine bK (hN _) ?_
  show Sh.nZ ⟨x,cq m k,E'⟩ m ⟨x,cq m k,E'⟩=_
  exact WT W h0 LI hb adr (G.mono hk) h1 h2
 have full:Sh.iI p ⟨x,cq m n,e⟩=some (0,0):=by
  refine TE n e (aah _) ?_ ?_
  ·rcases E.fin with⟨k1,k2,k3,k4⟩|⟨k1,k2⟩|⟨k1,k2,k3⟩
   ·left;unfold mV;rw[k2,k3,abg k4];rfl
   ·left;unfold mV;rw[k1,k2];rfl
   ·right
    refine⟨?_,k3⟩
    unfold mV;rw[k2]
    by_cases c:codeOf (fV m n)=0
    ·rw[abf c];show(88:Int)≠0;omega
    ·rw[abg c];exact c
  ·intro k1 k2
   rcases E.fin with⟨k3,_⟩|⟨k3,k4⟩|⟨_,_,k3⟩
   ·omega
   ·exact absurd (by unfold mV;rw[k3];rfl) k2
   ·exact k3
 rw[hT,aaS]
 refine bK (hN _) ?_
 show Sh.kH p x most a (⟨x,cq m n,e⟩,0) m=_
 unfold Sh.kH
 refine bK (o:=.inl false) rfl ?_
 show Sh.kI p x most a (⟨x,cq m n,e⟩,0) m false=_
 unfold Sh.kI
 rw[abC]
 show Option.bind (Sh.iI p ⟨x,cq m n,e⟩) _=_
 rw[full,aaS]
 refine bK (o:=.inl false) ?_ ?_
 ·show(bif (decide (most<((cq m n).length:Int)))then(some (inl (decide (0<((cq m n).length:Int)))))else(some (inl false)):Option (Bool⊕Bool))=_
  rw[Lm]
  by_cases c:most<(n:Int)
  ·have:n=0:=by
    rcases E.le with h|h
    ·split at h<;>omega
    ·exact h
   rw[abf c,abg adr];rfl
  ·rw[abg c];rfl
 show Sh.iL p x most a (⟨x,cq m n,e⟩,0) m false=_
 unfold Sh.iL
 rw[abC]
 have pl:∃ k:Nat,k≤n∧(bif (decide (0<(((⟨x,cq m n,e⟩ : du),(0:Int)).1.cj.length:Int)))then(Fx.must (decide ((IntKind.i64.wrap ((((⟨x,cq m n,e⟩ : du),(0:Int)).1.cj.length:Int)+1))≠0)) (Fx.must (decide ((IntKind.i64.wrap ((((⟨x,cq m n,e⟩ : du),(0:Int)).1.cj.length:Int)+1))≠0)) (some (inl (Int.tmod (IntKind.i64.wrap ((IntKind.i64.wrap ((Int.tmod a (IntKind.i64.wrap ((((⟨x,cq m n,e⟩ : du),(0:Int)).1.cj.length:Int)+1)))+(((⟨x,cq m n,e⟩ : du),(0:Int)).1.cj.length:Int)))+1)) (IntKind.i64.wrap ((((⟨x,cq m n,e⟩ : du),(0:Int)).1.cj.length:Int)+1)))))))else(some (inl 0)):Option (Int⊕Bool))=some (.inl (k:Int)):=by
  show ∃ k:Nat,k≤n∧(bif (decide (0<((cq m n).length:Int)))then(Fx.must (decide ((IntKind.i64.wrap (((cq m n).length:Int)+1))≠0)) (Fx.must (decide ((IntKind.i64.wrap (((cq m n).length:Int)+1))≠0)) (some (inl (Int.tmod (IntKind.i64.wrap ((IntKind.i64.wrap ((Int.tmod a (IntKind.i64.wrap (((cq m n).length:Int)+1)))+((cq m n).length:Int)))+1)) (IntKind.i64.wrap (((cq m n).length:Int)+1)))))))else(some (inl 0)):Option (Int⊕Bool))=some (.inl (k:Int))
  rw[Lm]
  by_cases c:0<n
  ·obtain⟨k,hk,ek⟩:=XD a c hn
   have ne:decide (IntKind.i64.wrap ((n:Int)+1)≠0)=true:=abf (by rw[jg adr];omega)
   refine⟨k,hk,?_⟩
   rw[abf adr,abA,ne,ek];rfl
  ·exact⟨0,adr,by rw[abg adr];rfl⟩
 obtain⟨k,hk,ek⟩:=pl
 refine bK ek ?_
 show Sh.iM p x most (⟨x,cq m n,e⟩,0) m (k:Int)=_
 have LP:Gl ⟨x,cq m n,e⟩:=⟨LI,Ic W h0 G hn⟩
 have kl:k≤(cq m n).length:=by rw[gV];exact hk
 unfold Sh.iM
 show Option.bind (Sh.kV ⟨x,cq m n,e⟩ (k:Int)) _=_
 rw[YK LP kl,aaS]
 have hd:Sh.iI p (m_ ⟨x,cq m n,e⟩ k)=some (0,0):=by
  by_cases c:k<n
  ·have eh:m_ ⟨x,cq m n,e⟩ k=⟨x,cq m k,88⟩:=by
    show(⟨x,(cq m n).take k,if k<(cq m n).length then 88 else e⟩ : du)=_
    rw[RL hk,gV,aaJ c]
   rw[eh]
   have nd:=(nJ W (G.mono (show k+1≤n by omega))).2.pI
   have ec:mV (fV m k)=88:=by unfold mV;rw[nd,G k c];rfl
   exact TE k 88 hk (.inl ec.symm) fun _ _=>rfl
  ·obtain rfl:k=n:=adr
   have eh:m_ ⟨x,cq m k,e⟩ k=⟨x,cq m k,e⟩:=by
    show(⟨x,(cq m k).take k,if k<(cq m k).length then 88 else e⟩ : du)=_
    rw[RL (aah _),gV,aaK (ab4 _)]
   rw[eh];exact full
 show Option.bind (Sh.iI p (m_ ⟨x,cq m n,e⟩ k)) _=_
 rw[hd,aaS]
 refine bK (o:=.inl false) rfl ?_
 show Sh.iN p x most (⟨x,cq m n,e⟩,0) m (k:Int) false=_
 unfold Sh.iN
 rw[abC]
 refine bK (WM W G hk hn) ?_
 show Sh.iO p x most (⟨x,cq m n,e⟩,0) m (k:Int) _ _ _ _ _ _ _ _=_
 unfold Sh.iO
 show Option.bind (Sh.jF ⟨x,cq m n,e⟩ (k:Int)) _=_
 rw[YZ LP IO kl (Xk W h0 LI hb G hn k hk),aaS]
 obtain⟨w,f⟩:=kB W (G.mono hk)
 have rb:=qY f
 unfold ED at rb
 refine bK (o:=.inl false) ?_ ?_
 ·show Option.bind (Sh.bG _) _=_
  rw[rb,sT w,aaS,fE (wX w)];rfl
 show Sh.iP p x most (⟨x,cq m n,e⟩,0) false=_
 unfold Sh.iP
 rw[abC]
 refine bK (hN _) ?_
 show Sh.iK most (⟨x,cq m n,e⟩,0) m=_
 unfold Sh.iK
 have el:(bif (decide (65536<most))then(some (inl 65536))else(some (inl most)):Option (Int⊕Bool))=some (.inl (if 65536<most then 65536 else most)):=by
  by_cases c:65536<most
  ·rw[abf c,aaJ c];rfl
  ·rw[abg c,aaK c];rfl
 refine bK el ?_
 obtain⟨o,m',hr⟩:=Zn W hlim E
 show Option.bind (Sh.kM m _) _=_
 rw[hr,aaS]
 refine bK (o:=.inl true) ?_ rfl
 show(bif (decide (e=e))then(some (inl (decide (((cq m n).length:Int)≤65536))))else(some (inl false)):Option (Bool⊕Bool))=_
 rw[abf rfl,abA,Lm,abf adr]
end Go.Sp
end
section
namespace Go.Fw
open Go.ChangeShapes Go.WideShapes Go.ChangeAt Go.RowKit Go.Fx
structure RD(P:Program):Prop where
 UN:SF P 27 [(3,0),(3,1),(23,2),(24,3),(25,4)]
 UD:P.underlying 24=some (.slice 205)
 UE:P.underlying 25=some (.slice 101)
 MG:SF P 205 [(3,0),(3,1)]
 MF:SF P 101 [(3,0),(4,1),(4,2),(3,3),(3,4),(3,5),(3,6),(3,7)]
 cells:(P.cellsOf 24,P.cellsOf 25,P.cellsOf 27,P.cellsOf 101,P.cellsOf 205)=(1,1,5,8,2)
section
variable {H:Type}{enc:TypeId×Value→H}{P:Program}{W:World}{B:DataW H→Nat}{BA:List (DataW H)→Nat}
variable (hB:x5 B BA)(R:Gn P)(S:RD P)
include hB R S
theorem YV:Opn enc P W B 205 (X:=gG) Eq (fun _=>1) (fun _=>True):=by
 intro fuel cs x h
 obtain⟨xs,n,hx,hl,hn,hf⟩:=iK S.MG h
 have hc:=R.cells
 have hd:=S.cells
 simp only[Prod.mk.injEq]at hc hd
 match xs,hn with
 | [y0,y1],_ =>
  obtain⟨a0,_,e0,rfl,b0,o0⟩:=eV hB R.i3 _ _ _ (hf 0 3 0 rfl)
  obtain⟨a1,_,e1,rfl,b1,o1⟩:=eV hB R.i3 _ _ _ (hf 1 3 1 rfl)
  have hcs:=qo e0 (o':=1) adr (qo e1 (o':=2) adr (iL adr))
  exact⟨⟨a0,a1⟩,⟨a0,a1⟩,hcs,rfl,hB.one _,trivial⟩
theorem YU:Opn enc P W B 101 (X:=b9) Eq (fun _=>1) (fun _=>True):=by
 intro fuel cs x h
 obtain⟨xs,n,hx,hl,hn,hf⟩:=iK S.MF h
 have hc:=R.cells
 have hd:=S.cells
 simp only[Prod.mk.injEq]at hc hd
 match xs,hn with
 | [y0,y1,y2,y3,y4,y5,y6,y7],_ =>
  obtain⟨a0,_,e0,rfl,b0,o0⟩:=eV hB R.i3 _ _ _ (hf 0 3 0 rfl)
  obtain⟨a1,e1⟩:=wN R.b4 (hf 1 4 1 rfl)
  obtain⟨a2,e2⟩:=wN R.b4 (hf 2 4 2 rfl)
  obtain⟨a3,_,e3,rfl,b3,o3⟩:=eV hB R.i3 _ _ _ (hf 3 3 3 rfl)
  obtain⟨a4,_,e4,rfl,b4,o4⟩:=eV hB R.i3 _ _ _ (hf 4 3 4 rfl)
  obtain⟨a5,_,e5,rfl,b5,o5⟩:=eV hB R.i3 _ _ _ (hf 5 3 5 rfl)
  obtain⟨a6,_,e6,rfl,b6,o6⟩:=eV hB R.i3 _ _ _ (hf 6 3 6 rfl)
  obtain⟨a7,_,e7,rfl,b7,o7⟩:=eV hB R.i3 _ _ _ (hf 7 3 7 rfl)
  have hcs:=qo e0 (o':=1) adr (qo e1 (o':=2) adr (qo e2 (o':=3) adr (qo e3 (o':=4) adr (qo e4 (o':=5) adr (qo e5 (o':=6) adr (qo e6 (o':=7) adr (qo e7 (o':=8) adr (iL adr))))))))
  exact⟨⟨a0,a1,a2,a3,a4,a5,a6,a7⟩,⟨a0,a1,a2,a3,a4,a5,a6,a7⟩,hcs,rfl,hB.one _,trivial⟩
theorem zw:Opn enc P W B 27 (oa (gw [] W)) (fun p=>MJ p.data) (fun _=>True):=by
 intro fuel cs x h
 obtain⟨xs,n,hx,hl,hn,hf⟩:=iK S.UN h
 have hc:=R.cells
 have hd:=S.cells
 simp only[Prod.mk.injEq]at hc hd
 match xs,hn with
 | [y0,y1,y2,y3,y4],_ =>
  obtain⟨a0,_,e0,rfl,b0,o0⟩:=eV hB R.i3 _ _ _ (hf 0 3 0 rfl)
  obtain⟨a1,_,e1,rfl,b1,o1⟩:=eV hB R.i3 _ _ _ (hf 1 3 1 rfl)
  obtain⟨a2,q2,e2,r2,b2,o2⟩:=lW hB R _ _ _ (hf 2 23 2 rfl)
  obtain⟨a3,q3,e3,r3,b3,o3⟩:=pH hB S.UD (by rw[hd.2.2.2.2];rfl) (YV hB R S) _ _ _ (hf 3 24 3 rfl)
  obtain⟨a4,q4,e4,r4,b4,o4⟩:=pH hB S.UE (by rw[hd.2.2.2.1];rfl) (YU hB R S) _ _ _ (hf 4 25 4 rfl)
  have hcs:=qo e0 (o':=1) adr (qo e1 (o':=2) adr (qo e2 (o':=3) adr (qo e3 (o':=4) adr (qo e4 (o':=5) adr (iL adr)))))
  refine⟨⟨a0,a1,a2,a3,a4⟩,⟨a0,a1,q2,q3,q4⟩,hcs,⟨a2,a3,a4,rfl,r2,r3,r4⟩,?_,trivial⟩
  have:=hB.agg ([y0,y1,y2,y3,y4].map (·.1))
  rw[←hx]at this
  simp only[abp,abq,hB.cons,hB.nil]at this
  show MJ q2≤_
  omega
end
end Go.Fw
end
