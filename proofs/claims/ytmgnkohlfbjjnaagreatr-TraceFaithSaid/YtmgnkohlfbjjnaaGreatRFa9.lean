/- Ground for the claim TraceFaith. -/
import Derived.Test.YtmgnkohlfbjjnaaGreatRFa8
set_option linter.unusedVariables false
set_option linter.unusedSimpArgs false
open Sum
section
namespace Go.Sp
open Go Go.Fw Go.Fx Go.Proofs
def mem(x:bj):List (List UInt8):=x.b_::x.ah
structure ze(x:bj)(m:dD):Prop where
 bk:∀ t∈m.bk,x.bk.l[t.reg.toNat]? = some t.old
 slots:∀ t∈m.slots,x.bp.l[t.slot.toNat]? = some t.old
 dE:∀ p∈m.dE,oz (fun p=>p.old) (mem x) p
theorem tE{X:Type}{l:List X}{P:X→Prop}:(∀ i,i<l.length → ∀ h:i<l.length,P l[i]) ↔ ∀ t∈l,P t:=by
 constructor
 ·intro h t ht
  obtain⟨i,hi,rfl⟩:=ab2.1 ht
  exact h i hi hi
 ·intro h i _ hi
  exact h _ (abz hi)
theorem nD{X:Type}{n:Nat}(v:Vec X n){i:Int}(h0:0≤i)(h1:i<(n:Int)):∃ x,Fx.get v.l i=some x∧v.l[i.toNat]? = some x:=by
 obtain⟨x,hx⟩:=v.get (i:=i.toNat) adr
 exact⟨x,by unfold Fx.get;rw[aaJ h0,hx],hx⟩
theorem Ye(x:bj){t:Int}(ht : -1≤t):(∃ b,(mem x)[(t+1).toNat]? = some b∧Sh.rT x t=some (b,true))∨((mem x)[(t+1).toNat]? = none∧Sh.rT x t=some ([],false)):=by
 unfold Sh.rT
 by_cases c:t<0
 ·left
  have:t = -1:=adr
  subst this
  exact⟨x.b_,rfl,rfl⟩
 ·have e:(t+1).toNat=t.toNat+1:=adr
  by_cases c2:t<(x.ah.length:Int)
  ·left
   have hk:t.toNat<x.ah.length:=adr
   refine⟨x.ah[t.toNat],by rw[e];simp[mem,hk],?_⟩
   rw[abg c,abf c2]
   have:Fx.get x.ah t=some x.ah[t.toNat]:=by unfold Fx.get;rw[aaJ adr];exact aa9 hk
   simp[this]
  ·right
   refine⟨by rw[e];simp[mem];omega,?_⟩
   rw[abg c,abg c2];rfl
theorem Ii{b o:List UInt8}{f:Int}(h0:0≤f)(h1:f+(o.length:Int)≤65535):IntKind.i64.wrap (f+(o.length:Int))=f+(o.length:Int)∧(f.toNat+o.length≤b.length→Fx.nj b f (f+(o.length:Int))=some ((b.drop f.toNat).take o.length)):=by
 refine⟨jg adr,fun h=>?_⟩
 unfold Fx.nj
 rw[aaJ adr]
 congr 2
 omega
theorem R_{x:bj}{m:dD}(hm:pz m)(hp:mS m):qf (Sh.xB x m) (ze x m∧x.at_=m.at_):=by
 obtain⟨h1,h2,h3,h4⟩:=hm
 unfold Sh.xB
 obtain⟨g,e,c⟩:=scan (body:=fun Q_=>Sh.uC x m Q_) (ok:=inl ()) (bad:=inr false) m.bk.length (fun i=>∀ h:i<m.bk.length,x.bk.l[(m.bk[i]).reg.toNat]? = some (m.bk[i]).old) adr (fun i hi=>by
  obtain⟨r1,r2,_⟩:=hp.reg _ (abz hi)
  obtain⟨y,e1,e2⟩:=nD x.bk r1 adr
  simp only[Sh.uC,bV,hi,decide_true,abA,aX hi,aaS,e1]
  by_cases c:y=(m.bk[i]).old
  ·exact .inl ⟨fun _=>by rw[e2,c],by rw[abf c];rfl⟩
  ·exact .inr ⟨fun h=>c (adp (e2.symm.trans (h trivial))),by rw[abg c];rfl⟩) (by simp[Sh.uC])
 rw[e]
 rcases c with⟨rfl,c1⟩|⟨rfl,c1⟩
 case inr=>exact kC fun k=>c1 fun i hi h=>k.1.bk _ (abz h)
 simp only[aR,Sh.yY]
 obtain⟨g,e,c⟩:=scan (body:=fun Rb=>Sh.uD x m Rb) (ok:=inl ()) (bad:=inr false) m.slots.length (fun i=>∀ h:i<m.slots.length,x.bp.l[(m.slots[i]).slot.toNat]? = some (m.slots[i]).old) adr (fun i hi=>by
  obtain⟨r1,r2,_⟩:=hp.slot _ (abz hi)
  obtain⟨y,e1,e2⟩:=nD x.bp r1 adr
  simp only[Sh.uD,bV,hi,decide_true,abA,aX hi,aaS,e1]
  by_cases c:y=(m.slots[i]).old
  ·exact .inl ⟨fun _=>by rw[e2,c],by rw[abf c];rfl⟩
  ·exact .inr ⟨fun h=>c (adp (e2.symm.trans (h trivial))),by rw[abg c];rfl⟩) (by simp[Sh.uD])
 rw[e]
 rcases c with⟨rfl,c2⟩|⟨rfl,c2⟩
 case inr=>exact kC fun k=>c2 fun i hi h=>k.1.slots _ (abz h)
 simp only[aR,Sh.yZ]
 obtain⟨g,e,c⟩:=scan (body:=fun M5=>Sh.uE x m M5) (ok:=inl ()) (bad:=inr false) m.dE.length (fun i=>∀ h:i<m.dE.length,oz (fun p=>p.old) (mem x) m.dE[i]) adr (fun i hi=>by
  have q:=hp.piece _ (abz hi)
  refine(?_:(oz (fun p=>p.old) (mem x) m.dE[i]∧_)∨(¬ oz (fun p=>p.old) (mem x) m.dE[i]∧_)).imp (fun a=>⟨fun _=>a.1,a.2⟩) (fun a=>⟨fun h=>a.1 (h hi),a.2⟩)
  have q1:=q.lo;have q2:=q.nh;have q3:=q.top
  simp only[Sh.uE,bV,hi,decide_true,abA,aX hi,aaS]
  generalize m.dE[i]=p at *
  rcases Ye x q1 with⟨b,e1,e2⟩|⟨e1,e2⟩
  ·obtain⟨w1,w2⟩:=Ii (b:=b) (o:=p.old) q2 q3
   simp only[e2,aaS,abB,abC,w1]
   by_cases c:p.from_.toNat+p.old.length≤b.length
   ·rw[abg adr,w2 c]
    simp only[abC,aaS,aR,Sh.yX,Sh.uB]
    by_cases c':(b.drop p.from_.toNat).take p.old.length=p.old
    ·rw[abf c']
     exact .inl ⟨⟨b,e1,c,c'⟩,rfl⟩
    ·rw[abg c']
     refine .inr ⟨fun h=>?_,rfl⟩
     obtain⟨b',k1,k2,k3⟩:=h
     cases e1.symm.trans k1
     exact c' k3
   ·rw[abf adr]
    refine .inr ⟨fun h=>?_,rfl⟩
    obtain⟨b',k1,k2,k3⟩:=h
    cases e1.symm.trans k1
    exact c k2
  ·simp only[e2,aaS,abD,abA,aR,Sh.uB]
   refine .inr ⟨fun h=>?_,by first|rfl|trivial⟩
   obtain⟨b',k1,k2,k3⟩:=h
   cases e1.symm.trans k1) (by simp[Sh.uE])
 rw[e]
 rcases c with⟨rfl,c3⟩|⟨rfl,c3⟩
 case inr=>exact kC fun k=>c3 fun i hi h=>k.1.dE _ (abz h)
 simp only[aR,Sh.zA]
 refine⟨_,rfl,?_⟩
 rw[decide_eq_true_iff]
 exact⟨fun h=>⟨⟨tE.1 c1,tE.1 c2,tE.1 c3⟩,h⟩,fun h=>h.2⟩
end Go.Sp
end
section
namespace Go.Sp
open Go Go.Fw Go.Fx Go.Proofs
theorem nI{σ γ X S:Type}{body:σ→Option (σ⊕γ)}(l:List X)(f:S→X→S)(st:S→Int→σ)(g:S→γ)(I:S→Prop)(s0:S)(h0:I s0)(hn:l.length≤4611686018427387904)
  (h:∀ (i:Nat) (hi:i<l.length) s,I s→body (st s (i:Int))=some (.inl (st (f s l[i]) (IntKind.i64.wrap ((i:Int)+1))))∧I (f s l[i])) (h':∀ s,I s→body (st s (l.length:Int))=some (.inr (g s))):Fx.loop body (st s0 0)=some (g (l.foldl f s0))∧I (l.foldl f s0):=by
 obtain⟨o,e,rfl,hI⟩:=bY (body:=body) l.length (fun i s=>st s (i:Int)) (fun i s=>s=(l.take i).foldl f s0∧I s) (fun o=>o=g (l.foldl f s0)∧I (l.foldl f s0)) (fun i s hi hs=>.inl ⟨f s l[i],by
   rw[(h i hi s hs.2).1,ij hi hn],by
   refine⟨?_,(h i hi s hs.2).2⟩
   rw[abI,aa9 hi,adl,←hs.1];rfl⟩) (fun s hs=>⟨_,h' s hs.2,by
   rw[abV]at hs;rw[←hs.1];exact⟨rfl,hs.2⟩⟩) l.length 0 s0 adr ⟨by simp,h0⟩
 exact⟨e,hI⟩
def D8{X Y:Type}{n:Nat}(key:Y→Nat)(val:Y→X)(v:Vec X n)(T:List Y):Vec X n:=T.foldl (fun v t=>v.set (key t) (val t)) v
theorem mW{X Y:Type}{n:Nat}{key:Y→Nat}{val:Y→X}(T:List Y):∀ v:Vec X n,(D8 key val v T).l=qq key val v.l T:=by
 induction T with
 | nil=>intro v;rfl
 | cons t T ih=>intro v;exact ih (v.set (key t) (val t))
def zH(x:bj)(m:dD):List (List UInt8):=o8 (fun p=>p.new) (mem x) m.dE
def xk(x:bj)(m:dD)(bf:List Int)(a s:Int)(d:Bool):bj :=
 ⟨D8 (fun t:dU=>t.reg.toNat) (fun t=>t.new) x.bk m.bk,D8 (fun t:eo=>t.slot.toNat) (fun t=>t.new) x.bp m.slots,pk (zH x m) 0,(zH x m).tail,bf,a,s,d⟩
theorem qK{l:List UInt8}(h:l.length≤1099511627776):Sh.cU l=some l:=by
 unfold Sh.cU;rw[cK (by simp;omega) (by simp;omega)];rfl
theorem wA{l:List Int}(h:l.length≤1099511627776):Sh.bH l=some l:=by
 unfold Sh.bH;rw[cK (by simp;omega) (by simp;omega)];rfl
theorem Yz{l:List (List UInt8)}(h:l.length≤1099511627776):Sh.fH l=some l:=by
 unfold Sh.fH;rw[cK (by simp;omega) (by simp;omega)];rfl
theorem sU{x:bj}(h:jl x):Sh.fW x=some x:=by
 have h1:=h.ah
 obtain⟨g,hg,e⟩:=bY (body:=fun(v:Nat×Int)=>match v with|(QA,QW)=>Sh.mF x.ah QA QW) x.ah.length (fun i (a:Unit)=>(i,(i:Int))) (fun i a=>True) (fun g=>g = .inl x.ah.length)
  (fun i a hi _=>.inl ⟨(),by
   simp only[Sh.mF,bV,hi,decide_true,abA,aX hi,aaS,abE,aah,Fx.must,qK (h.each _ (abz hi)),ij hi adr],trivial⟩)
  (fun a _=>⟨inl x.ah.length,by simp[Sh.mF],rfl⟩) x.ah.length 0 () adr trivial
 subst e
 unfold Sh.fW
 rw[qK h.b_,aaS,Yz h.ah,aaS]
 refine bK hg ?_
 simp only[Fx.fin,Sh.vQ,wA h.bf,aaS,aah,decide_true,Fx.must,abA]
section
variable {M:List (List UInt8)}{p:cu}
theorem XH(hr:kj M p):kp p<M.length:=by
 obtain⟨b,h1,_⟩:=hr;exact(aaz.1 h1).1
theorem H6(hr:kj M p):fp p+wd p≤(pk M (kp p)).length:=by
 obtain⟨b,h1,h2⟩:=hr;rw[N5 h1];exact h2
theorem ZD{γ:Type}(hp:x8 p)(hr:kj M p):(bif decide (p.table<0)then some (inl (0,true))else bif decide (p.table<((List.tail M).length:Int))then(Fx.get (List.tail M) p.table).bind fun _=>some (inl (p.table.toNat+1,true))else Fx.must false none:Option ((Nat×Bool)⊕γ))=some (inl (kp p,true)):=by
 have h1:=hp.lo
 have h2:=XH hr
 by_cases c:p.table<0
 ·have e:kp p=0:=by simp only[kp];omega
  rw[abf c,e];rfl
 ·have e:kp p=p.table.toNat+1:=by simp only[kp];omega
  have ht:p.table.toNat<M.tail.length:=by simp only[List.length_tail];omega
  have:Fx.get M.tail p.table=some M.tail[p.table.toNat]:=by unfold Fx.get;rw[aaJ adr];exact aa9 ht
  rw[abg c,abf adr,this,e];rfl
theorem ZY(hp:x8 p)(hr:kj M p):∃ y,Fx.nj (pk M (kp p)) p.from_ ((pk M (kp p)).length:Int)=some y:=by
 have h1:=hp.nh
 have h2:=H6 hr
 have h3:fp p=p.from_.toNat:=rfl
 unfold Fx.nj
 rw[aaJ adr]
 exact⟨_,rfl⟩
theorem ZC{v:List UInt8}(hp:x8 p)(hr:kj M p)(hv:v.length=wd p):Fx.IX (pk M (kp p)) p.from_ v=some (put (pk M (kp p)) (fp p) v):=by
 have h1:=hp.nh
 have h2:=H6 hr
 have h3:fp p=p.from_.toNat:=rfl
 unfold Fx.IX
 rw[aaJ adr]
end
theorem sJ(b:List UInt8)(f:Nat):put b f []=b:=by simp[put]
def to(m:dD)(o:Bool):dD:=bif o then turn m else m
section
variable {x:bj}{m:dD}(hx:jl x)(hm:pz m)(hp:mS m)(hr:∀ p∈m.dE,kj (mem x) p)
include hx hm hp hr
theorem Nz:Sh.rS x m=some (xk x m x.bf m.next x.steps x.done):=by
 obtain⟨h1,h2,h3,h4⟩:=hm
 unfold Sh.rS
 rw[sU hx,aaS]
 have e1:=(nI (body:=fun(v:Vec ak 11×List Int×Int)=>match v with|(Rf,Rh,Ri)=>Sh.mC m Rf Rh Ri) m.bk (fun v (t:dU)=>v.set t.reg.toNat t.new) (fun v i=>(v,x.bf,i)) (fun v=>inl (v,x.bf)) (fun _=>True) x.bk trivial adr
  (fun i hi v _=>⟨by
   obtain⟨r1,r2,_⟩:=hp.reg _ (abz hi)
   obtain⟨y,e,_⟩:=nD v r1 adr
   simp only[Sh.mC,bV,hi,decide_true,abA,aX hi,aaS,e],trivial⟩) (fun v _=>by simp[Sh.mC])).1
 refine bK e1 ?_
 simp only[Fx.fin,Sh.vN]
 have e2:=(nI (body:=fun(v:Vec bn 32×List Int×Int)=>match v with|(MS,MU,MV)=>Sh.mD m MS MU MV) m.slots (fun v (t:eo)=>v.set t.slot.toNat t.new) (fun v i=>(v,x.bf,i)) (fun v=>inl (v,x.bf)) (fun _=>True) x.bp trivial adr
  (fun i hi v _=>⟨by
   obtain⟨r1,r2,_⟩:=hp.slot _ (abz hi)
   obtain⟨y,e,_⟩:=nD v r1 adr
   simp only[Sh.mD,bV,hi,decide_true,abA,aX hi,aaS,e],trivial⟩) (fun v _=>by simp[Sh.mD])).1
 refine bK e2 ?_
 simp only[Fx.fin,Sh.vO]
 have e3:=(nI (body:=fun(v:List (List UInt8)×Int)=>match v with|(LV,M9)=>Sh.mE m LV M9) m.dE (zI (fun p=>p.new)) (fun M i=>(M,i)) (fun M=>inl M) (fun M=>M.map List.length=(mem x).map List.length) (mem x) rfl adr
  (fun i hi M hM=>by
   have hq:=hp.piece _ (abz hi)
   have hro:kj M m.dE[i]:=(hr _ (abz hi)).shape hM.symm
   refine⟨?_,(sI hro hq.eq).trans hM⟩
   obtain⟨y,ey⟩:=ZY hq hro
   simp only[Sh.mE,bV,hi,decide_true,abA,aX hi,aaS]
   refine bK (ZD hq hro) ?_
   simp only[Fx.fin,Sh.vM,ey,ZC hq hro hq.eq,aaS]
   rfl) (fun M _=>by simp[Sh.mE])).1
 refine bK e3 ?_
 rfl
end
end Go.Sp
end
section
namespace Go.Sp
open Go Go.Fw Go.Fx Go.Proofs
def kA:bj:=⟨⟨List.replicate 11 ak.zero,rfl⟩,⟨List.replicate 32 bn.zero,rfl⟩,[],[],[],0,0,false⟩
structure Jl(x:bj)(m:dD):Prop where
 done:x.done=false
 at_:x.at_=m.at_
 steps:x.steps≠4294967296
 st:ze x m
def applied(x:bj)(m:dD):bj:=xk x m (x.bf++m.bf) m.next (x.steps+1) m.done
structure vk(o:Option (bj×Int))(x:bj)(m:dD)(C:Prop)(y:bj):Prop where
 arg:¬ iW x→o=some (kA,1)
 mark:iW x → ¬ mS m→o=some (kA,230)
 from_:iW x→mS m → ¬ C→o=some (kA,231)
 ok:iW x→mS m→C→o=some (y,0)
theorem WO{x:bj}{m:dD}(hm:pz m):(¬ iW x→Sh.nO x m=some 1)∧(iW x → ¬ mS m→Sh.nO x m=some 230)∧(iW x→mS m→Sh.nO x m=some 0):=by
 unfold Sh.nO
 refine⟨fun h=>?_,fun h k=>?_,fun h k=>?_⟩
 ·rw[(jX x).false h];rfl
 ·rw[(jX x).true h,aaS,(sV hm).false k];rfl
 ·rw[(jX x).true h,aaS,(sV hm).true k];rfl
theorem ze.room{x:bj}{m:dD}(h:ze x m):∀ p∈m.dE,kj (mem x) p:=fun p hp=>(h.dE p hp).room rfl
section
variable {x:bj}{m:dD}(hx:jl x)(hm:pz m)
include hx hm
theorem rE:vk (Sh.bP x m) x m (Jl x m) (applied x m):=by
 obtain⟨r1,r2,r3⟩:=WO (x:=x) hm
 have hs:=hx.bf
 have hms:=hm.2.2.2
 refine⟨fun h=>?_,fun h k=>?_,fun h k c=>?_,fun h k c=>?_⟩
 ·unfold Sh.bP;rw[r1 h];rfl
 ·unfold Sh.bP;rw[r2 h k];rfl
 ·unfold Sh.bP
  rw[r3 h k]
  simp only[aaS,decide_true,abB,abC]
  cases c1:x.done
  case true=>rfl
  simp only[abC]
  by_cases c2:x.steps=4294967296
  ·rw[abf c2];rfl
  rw[abg c2]
  have c3:¬ (ze x m∧x.at_=m.at_):=fun e=>c ⟨c1,e.2,c2,e.1⟩
  rw[(R_ hm k).false c3];rfl
 ·unfold Sh.bP
  rw[r3 h k]
  simp only[aaS,decide_true,abB,abC]
  rw[c.done,abg c.steps,(R_ hm k).true ⟨c.st,c.at_⟩]
  simp only[abC,aaS,abB,aR,Sh.wY,Nz hx hm k c.st.room]
  have ha:Fx.app 8 x.bf m.bf=some (x.bf++m.bf):=cK adr adr
  have hw:IntKind.i64.wrap (x.steps+1)=x.steps+1:=jg (by have:=h.2.1;omega)
  simp only[xk,ha,aaS,hw]
  rfl
end
theorem vk.same{o o':Option (bj×Int)}{x:bj}{m:dD}{C:Prop}{y:bj}(h:vk o x m C y)(h':vk o' x m C y):o=o' ∧ ((∃ e,o=some (kA,e)∧e≠0)∨(o=some (y,0)∧iW x∧mS m∧C)):=by
 by_cases c1:iW x
 case neg=>rw[h.arg c1,h'.arg c1];exact⟨rfl,.inl ⟨1,rfl,by decide⟩⟩
 by_cases c2:mS m
 case neg=>rw[h.mark c1 c2,h'.mark c1 c2];exact⟨rfl,.inl ⟨230,rfl,by decide⟩⟩
 by_cases c3:C
 case neg=>rw[h.from_ c1 c2 c3,h'.from_ c1 c2 c3];exact⟨rfl,.inl ⟨231,rfl,by decide⟩⟩
 rw[h.ok c1 c2 c3,h'.ok c1 c2 c3]
 exact⟨rfl,.inr ⟨rfl,c1,c2,c3⟩⟩
end Go.Sp
end
section
namespace Go.Sp
open Go Go.Fw Go.Fx Go.Proofs
theorem YS(x:bj):0<(mem x).length:=by simp[mem]
theorem YY{M:List (List UInt8)}(h:0<M.length):pk M 0::M.tail=M:=by
 cases M with
 | nil=>simp at h
 | cons a M=>rfl
section
variable {x:bj}{m:dD}(hp:mS m)
include hp
theorem qS:∀ p∈m.dE,p.new.length=wd p:=fun p h=>(hp.piece p h).eq
theorem pN(hr:∀ p∈m.dE,kj (mem x) p):(zH x m).map List.length=(mem x).map List.length:=qU hr (qS hp)
theorem GX(hr:∀ p∈m.dE,kj (mem x) p):0<(zH x m).length:=by
 have:=congrArg List.length (pN hp hr)
 simp only[abM]at this
 rw[this];exact YS x
theorem tL(hr:∀ p∈m.dE,kj (mem x) p)(l:List Int)(a s:Int)(d:Bool):mem (xk x m l a s d)=zH x m:=YY (GX hp hr)
theorem Jv(hr:∀ p∈m.dE,kj (mem x) p)(l:List Int)(a s:Int)(d:Bool):(xk x m l a s d).b_.length=x.b_.length∧(xk x m l a s d).ah.map List.length=x.ah.map List.length:=by
 have h:=pN hp hr
 rw[←tL hp hr l a s d]at h
 simp only[mem,abp,List.cons.injEq]at h
 exact h
theorem nL(hr:∀ p∈m.dE,kj (mem x) p)(l:List Int)(a s:Int)(d:Bool)(h:jl x)(hl:l.length≤1099511627776):jl (xk x m l a s d):=by
 obtain⟨e1,e2⟩:=Jv hp hr l a s d
 have e3:(xk x m l a s d).ah.length=x.ah.length:=by simpa using congrArg List.length e2
 refine⟨by rw[e1];exact h.b_,by rw[e3];exact h.ah,fun t ht=>?_,hl⟩
 have:t.length∈(xk x m l a s d).ah.map List.length:=List.mem_map_of_mem ht
 rw[e2]at this
 obtain⟨u,hu,e⟩:=aaW.1 this
 rw[←e];exact h.each u hu
end
end Go.Sp
end
