/- Ground for the claim TraceSends. -/
import Derived.Deep.Slices
import Derived.Test.YtmgnkohlfbjjnaaGreatRSe12
set_option linter.unusedVariables false
set_option linter.unusedSimpArgs false
open Sum
section
namespace Go.Fw
open Go.ChangeShapes Go.WideShapes Go.ChangeAt Go.RowKit Go.Fx
section
variable {H:Type}{enc:TypeId×Value→H}{P:Program}{W:World}
structure yo(B:DataW H→Nat)(BA:List (DataW H)→Nat):Prop where
 nil:BA []=0
 cons:∀ d r,BA (d::r)=B d+BA r
 slice:∀ es sp,BA es+1≤B (.slice es sp)
 agg:∀ ps,BA ps+1≤B (.agg ps)
 one:∀ d,1≤B d
theorem yo.append{B:DataW H→Nat}{BA:List (DataW H)→Nat}(h:yo B BA)(l m:List (DataW H)):BA (l++m)=BA l+BA m:=by
 induction l with
 | nil=>simp[h.nil]
 | cons d l ih=>rw[aag,h.cons,h.cons,ih];omega
def Opn(enc:TypeId×Value→H)(P:Program)(W:World)(B:DataW H→Nat)(t:TypeId){X Q:Type}[du X](rel:X→Q→Prop)(sz:Q→Nat)(ok:Q→Prop):Prop :=
 ∀ (fuel:Nat) (cs:List Value) (x:DataW H×List MemPlace),DataW.trod enc P W 0 (fun _=>true) true fuel t cs=some x → ∃ (y:X) (q:Q),cs=du.enc y∧rel y q∧sz q≤B x.1∧ok q
theorem TU{a:Addr}{v:Value}(h:W.cell? a=some v):a.spot=none:=by
 unfold World.cell? at h
 cases hs:a.spot with
 | none=>rfl
 | some k =>
  rw[hs]at h
  split at h<;>simp at h
theorem Tn{X:Type}[du X]{b off:Nat}{l:List X}{x:X}(h:i_ W b off (encs l))(k:i_ W b (off+l.length*du.sz X) (du.enc x)):i_ W b off (encs (l ++ [x])):=by
 intro j v hj
 rw[dY,wB]at hj
 by_cases hl:j<(encs l).length
 ·rw[aaZ hl]at hj;exact h j v hj
 ·rw[aa0 ac_]at hj
  rw[dN]at hl hj
  have:=k _ _ hj
  rwa [show off+l.length*du.sz X+(j-l.length*du.sz X)=off+j by omega]at this
variable {B:DataW H→Nat}{BA:List (DataW H)→Nat}
theorem iF{t:TypeId}(hB:yo B BA)(ht:P.underlying t=some (.int .i64)):Opn enc P W B t (X:=Int) (Q:=Int) Eq (fun _=>1) (fun x=>-9223372036854775808≤x∧x≤9223372036854775807):=by
 intro fuel cs x h
 obtain⟨n,rfl,rfl,hw⟩:=DataW.trod_int ht h
 refine⟨n,n,rfl,rfl,hB.one _,?_⟩
 simp only[Lit.wf,dc,aad]at hw
 exact hw
def Jl{Q:Type}(sz:Q→Nat)(l:List Q):Nat:=(l.map sz).sum+1
theorem pG{t e:TypeId}{X Q:Type}[du X]{rel:X→Q→Prop}{sz:Q→Nat}{ok:Q→Prop}(hB:yo B BA)(ht:P.underlying t=some (.slice e))(hc:P.cellsOf e=du.sz X)(O:Opn enc P W B e rel sz ok) :
  Opn enc P W B t (X:=SV) (Q:=List Q) (fun s l=>∃ hs:List X,dj (gw [] W) s hs∧cn rel hs l) (Jl sz) (fun l=>∀ q∈l,ok q):=by
 intro fuel cs x h
 rcases Go.Deep.open_slice ht h with⟨rfl,rfl⟩|⟨a,len,cap,m,n,D,Pl,rfl,hb,hl,hm,QO,rfl,hx⟩
 ·exact⟨SV.nil,[],rfl,⟨[],dj.nil,cn.nil⟩,by simpa[Jl]using hB.one _,fun q hq=>by simp at hq⟩
 ·simp only[if_true]at QO
  have M4:=QO.symm
  subst M4
  have key:∀ k,k≤len → ∃ (hs:List X) (l:List Q),hs.length=k∧cn rel hs l∧i_ W a.block a.off (encs hs)∧(l.map sz).sum≤BA ((List.range k).map D)∧(∀ q∈l,ok q)∧(hs = []∨a.spot=none):=by
   intro k
   induction k with
   | zero=>intro _;exact⟨[],[],rfl,cn.nil,fun j v hj=>by simp[jS]at hj,by simp[hB.nil],fun q hq=>by simp at hq,.inl rfl⟩
   | succ k ih =>
    intro hk
    obtain⟨hs,l,h1,h2,h3,h4,h5,h6⟩:=ih ac_
    obtain⟨cs',c1,c2⟩:=hx k ac_
    obtain⟨y,q,rfl,r1,r2,r3⟩:=O _ _ _ c2
    have r2:sz q≤B (D k):=r2
    rw[hc]at c1
    obtain⟨_,hlen,AU⟩:=World.cells?_some c1
    have hpos:=du.pos (X:=X)
    have Ik:=du.len y
    have hcell:∀ j v,(du.enc y)[j]? = some v→W.cell? ((a.add (k*du.sz X)).add j)=some v:=fun j v hj=>by
     have hj':j<du.sz X:=by rw[←Ik];exact(aap.1 hj).1
     have:=AU j hj'
     rw[hj]at this
     exact this
    have A4:a.spot=none:=by
     by_cases hk0:k=0
     ·subst hk0
      have h0:∃ v,(du.enc y)[0]? = some v:=⟨_,aa1 (by rw[Ik];exact hpos)⟩
      obtain⟨v,hv⟩:=h0
      have:=TU (hcell 0 v hv)
      simpa[Addr.add]using this
     ·rcases h6 with h6|h6
      ·subst h6;simp at h1;omega
      ·exact h6
    refine⟨hs ++ [y],l ++ [q],by simp[h1],h2.snoc r1,Tn h3 ?_,?_,?_,.inr A4⟩
    ·intro j v hj
     have:=hcell j v hj
     obtain⟨ab,ao,ZO⟩:=a
     simp only at A4
     subst A4
     rw[eC,eC]at this
     rw[h1];exact this
    ·have e:(List.range (k+1)).map D=(List.range k).map D ++ [D k]:=by rw[aa2,aa3];rfl
     rw[e,hB.append]
     simp only[aa3,List.sum_append,aa4,aa5,List.sum_cons,List.sum_nil,hB.cons,hB.nil]
     omega
    ·intro q' w_
     rcases aaF.1 w_ with w_|w_
     ·exact h5 _ w_
     ·simp at w_;subst w_;exact r3
  obtain⟨hs,l,h1,h2,h3,h4,h5,h6⟩:=key len (aal _)
  have hS:cg 0 W ⟨some a,len,cap⟩ hs:=⟨h1.symm,hl,h6,aau _,h3⟩
  refine⟨⟨some a,len,cap⟩,l,rfl,⟨hs,fun w k=>hS.keep k,h2⟩,?_,h5⟩
  have:=hB.slice ((List.range len).map D) ((List.range (cap-len)).map fun j=>D (len+j))
  simp only[Jl];omega
theorem VM{X:Type}{hs l:List X}(h:cn Eq hs l):hs=l:=by
 apply aa6 
 intro i
 by_cases hi:i<l.length
 ·obtain⟨x,h1,h2⟩:=Go.Fx.cn.getr h (aa1 hi)
  rw[h1,h2,aa1 hi]
 ·have:=h.len
  rw[aaj ac_,aaj ac_]
theorem wJ{t e:TypeId}{X:Type}[du X]{sz:X→Nat}{ok:X→Prop}(hB:yo B BA)(ht:P.underlying t=some (.slice e))(hc:P.cellsOf e=du.sz X)(O:Opn enc P W B e (X:=X) Eq sz ok) :
  Opn enc P W B t (X:=SV) (Q:=List X) (fun s l=>dj (gw [] W) s l) (Jl sz) (fun l=>∀ q∈l,ok q):=by
 intro fuel cs x h
 obtain⟨y,q,h1,⟨hs,h2,h3⟩,h4,h5⟩:=pG hB ht hc O fuel cs x h
 rw[VM h3]at h2
 exact⟨y,q,h1,h2,h4,h5⟩
end
theorem vf{H:Type}{enc:TypeId×Value→H}{P:Program}(hl:laidOutB P=true){W W':World}(hb:gw [] W W'):∀ {ts:List TypeId} {vs:List Value} {ds:List (DataW H)} {ps:List MemPlace},
  (∀ t∈ts,P.readableRec t=true∧t<P.types.size)→DataW.TrodAll enc P W 0 (fun _=>true) true ts vs ds ps→(∀ x∈ps,x.block<W.heap.size)→DataW.TrodAll enc P W' 0 (fun b=>decide (b<W.heap.size)) true ts vs ds ps
 | [],[],[],_,_,h,_=>h
 | t::ts,v::vs,d::ds,_,ht,⟨p,q,h1,h2,e⟩,hlt=>by
  subst e
  exact⟨p,q,WM hl (ht t aaR).1 (ht t aaR).2 h1 hb (fun x hx=>hlt x (aa7 _ hx)),vf hl hb (fun t' h'=>ht t' (aaN _ h')) h2 (fun x hx=>hlt x (aa8 _ hx)),rfl⟩
 | [],_::_,_,_,_,h,_=>by cases h
 | [],[],_::_,_,_,h,_=>by cases h
 | _::_,[],_,_,_,h,_=>by cases h
 | _::_,_::_,[],_,_,h,_=>by cases h
end Go.Fw
end
section
namespace Go.Fw
open Go.ChangeShapes Go.WideShapes Go.ChangeAt Go.RowKit Go.Fx
def SF(P:Program)(t:TypeId)(ZG:List (Nat×Nat)):Prop:=∃ fs:Array Field,P.underlying t=some (.struct fs)∧fs.toList.map (fun f=>(f.type,f.offset))=ZG
structure GQ(P:Program):Prop where
 i3:P.underlying 3=some (.int .i64)
 b4:P.underlying 4=some .bool
 u5:P.underlying 5=some (.int .u8)
 Yu:P.underlying 34=some (.int .i64)
 KC:P.underlying 23=some (.slice 5)
 KD:P.underlying 28=some (.slice 23)
 KE:P.underlying 33=some (.slice 60)
 RE:P.underlying 52=some (.slice 3)
 Zh:P.underlying 56=some (.slice 128)
 Zi:P.underlying 57=some (.slice 151)
 Zj:P.underlying 58=some (.slice 156)
 a48:P.underlying 48=some (.array 8 5)
 Zw:SF P 46 [(3,0),(3,1),(3,2),(3,3)]
 Zy:SF P 50 [(46,0),(48,4),(3,12)]
 N7:SF P 128 [(3,0),(46,1),(46,5)]
 N8:SF P 151 [(3,0),(50,1),(50,14)]
 N9:SF P 156 [(3,0),(3,1),(23,2),(23,3)]
 Zz:SF P 60 [(3,0),(3,1),(4,2),(56,3),(57,4),(58,5),(52,6)]
 RH:SF P 30 [(23,0),(28,1)]
 Zv:SF P 36 [(30,0),(33,2),(34,3)]
 cells:(P.cellsOf 3,P.cellsOf 4,P.cellsOf 5,P.cellsOf 23,P.cellsOf 28,P.cellsOf 30,P.cellsOf 33,P.cellsOf 34,P.cellsOf 36,P.cellsOf 46,P.cellsOf 48,P.cellsOf 50,P.cellsOf 52,P.cellsOf 56,P.cellsOf 57,P.cellsOf 58,P.cellsOf 60,P.cellsOf 128,P.cellsOf 151,P.cellsOf 156)=(1,1,1,1,1,2,1,1,4,4,8,13,1,1,1,1,7,9,27,4)
abbrev Iw(x:Int):Prop:=-9223372036854775808≤x∧x≤9223372036854775807
section
variable {H:Type}{enc:TypeId×Value→H}{P:Program}{W:World}{B:DataW H→Nat}{BA:List (DataW H)→Nat}
variable (hB:yo B BA)(R:GQ P)
include hB R
theorem Bh:Opn enc P W B 52 (X:=SV) (Q:=List Int) (fun s l=>dj (gw [] W) s l) (Jl fun _=>1) (fun l=>∀ x∈l,Iw x):=by
 have hc:=R.cells
 simp only[Prod.mk.injEq]at hc
 exact wJ (X:=Int) hB R.RE (by rw[hc.1];rfl) (iF hB R.i3)
end
end Go.Fw
end
section
namespace Go.Sp
open Go Go.Fw Go.Fx Go.Proofs
structure zc(m:dw):Prop where
 small:oL m
 bytes:∀ p∈m.dy,p.old.length≤1099511627776∧p.new.length≤1099511627776
theorem tY{X:Type}{l:List X}{i:Nat}(h:i<l.length):l.take i ++ [l[i]]=l.take (i+1):=by
 rw[aa9,aa1 h,Option.toList_some]
end Go.Sp
end
section
namespace Go.Sp
open Go Go.Fw Go.Fx Go.Proofs
structure KQ(m:dw):Prop where
 a8:m.a8.length≤1099511627776
 slots:m.slots.length≤1099511627776
 dy:m.dy.length≤1099511627776
 old:∀ p∈m.dy,p.old.length≤1099511627776
 new:∀ p∈m.dy,p.new.length≤1099511627776
 a7:m.a7.length≤1099511627776
theorem zc.lit{m:dw}(h:zc m):KQ m:=⟨h.small.1,h.small.2.1,h.small.2.2.1,fun p hp=>(h.bytes p hp).1,fun p hp=>(h.bytes p hp).2,h.small.2.2.2⟩
end Go.Sp
end
section
namespace Go.Sp
open Go Go.Fw Go.Fx Go.Proofs
def HJ(i:gi):br:=⟨(((⟨List.replicate 11 aj.zero,rfl⟩ : Vec aj 11).set 1 (aj.mk 3 0 0 0)).set 2 (aj.mk 1 0 0 (i.cq.length:Int))).set 10 (aj.mk 2 0 0 256),⟨List.replicate 32 bn.zero,rfl⟩,i.cq,i.ah,[],0,0,false⟩
noncomputable def after(ms:List dw)(s0:br):Nat→br⊕(Nat×Int)
 | 0=>.inl s0
 | i+1=>match after ms s0 i with
  | .inr f=>.inr f
  | .inl s=>match ms[i]? with
   | none=>.inl s
   | some m=>match Sh.bO s m with
    | none=>.inl s
    | some (y,e)=>if e=0 then .inl y else .inr (i,e)
end Go.Sp
end
section
namespace Go.Sp
open Go Go.Fw Go.Fx Go.Proofs
section
variable {X Y:Type}[DecidableEq X]{key:Y→Int}{old new:Y→X}{mk:Int→X→X→Y}
structure Told(key:Y→Int)(old new:Y→X)(a b:List X)(n:Nat)(T:List Y):Prop where
 each:∀ t∈T,(0≤key t∧key t<(n:Int))∧a[(key t).toNat]? = some (old t)∧b[(key t).toNat]? = some (new t)∧old t≠new t
 pw:T.Pairwise (fun s t=>key s<key t)
 Kt:∀ j:Nat,j<n→(∀ t∈T,(key t).toNat≠j)→a[j]? = b[j]?
theorem Ea(hk:∀ i x y,key (mk i x y)=i)(ho:∀ i x y,old (mk i x y)=x)(hw:∀ i x y,new (mk i x y)=y){a b:List X}(hl:a.length=b.length) :
  ∀ n,n≤a.length→Told key old new a b n (jo (fun i x y R=>R ++ [mk (i:Int) x y]) a b [] n):=by
 intro n
 induction n with
 | zero=>intro _;exact⟨fun t ht=>absurd ht (by simp[jo]),by simp[jo],fun j hj=>by omega⟩
 | succ n ih =>
  intro hn
  have ha:n<a.length:=ac_
  have hb:n<b.length:=ac_
  obtain⟨h1,h2,h3⟩:=ih ac_
  rw[gD _ ha hb]
  by_cases e:a[n]=b[n]
  ·rw[aay e]
   refine⟨fun t ht=>?_,h2,fun j hj hu=>?_⟩
   ·obtain⟨k1,k2⟩:=h1 t ht
    exact⟨⟨k1.1,ac_⟩,k2⟩
   ·by_cases c:j=n
    ·subst c;rw[aa1 ha,aa1 hb,e]
    ·exact h3 j ac_ hu
  ·rw[aaz e]
   refine⟨fun t ht=>?_,?_,fun j hj hu=>?_⟩
   ·rcases aaF.1 ht with ht|ht
    ·obtain⟨k1,k2⟩:=h1 t ht
     exact⟨⟨k1.1,ac_⟩,k2⟩
    ·obtain rfl:t=mk (n:Int) a[n] b[n]:=by simpa using ht
     rw[hk,ho,hw]
     exact⟨⟨ac_,ac_⟩,aa1 ha,aa1 hb,e⟩
   ·rw[aa_]
    refine⟨h2,abb _ _,fun s hs t ht=>?_⟩
    obtain rfl:t=mk (n:Int) a[n] b[n]:=by simpa using ht
    rw[hk]
    exact(h1 s hs).1.2
   ·by_cases c:j=n
    ·subst c
     exact absurd (by rw[hk];omega) (hu (mk (j:Int) a[j] b[j]) (by simp))
    ·exact h3 j ac_ fun t ht=>hu t (aa7 _ ht)
omit [DecidableEq X]in
theorem Told.ok{a b:List X}{n:Nat}{T:List Y}(h:Told key old new a b (n+1) T):vq key (fun t=>old t=new t) (n:Int) T T.length:=fun i hi _=>by
 have k:=h.each T[i] (abd hi)
 refine⟨k.1.1,by have:=k.1.2;omega,k.2.2.2,fun h0=>?_⟩
 exact(aaO.1 h.pw) (i-1) i ac_ hi ac_
omit [DecidableEq X]in
theorem Told.set{a b:List X}{n:Nat}{T:List Y}(hl:a.length=b.length)(hn:a.length=n)(h:Told key old new a b n T):pR (fun t=>(key t).toNat) new a T=b:=by
 have ne:T.Pairwise (fun s t=>(key s).toNat≠(key t).toNat):=by
  refine List.Pairwise.imp_of_mem ?_ h.pw
  intro s t hs ht k
  have:=(h.each s hs).1;have:=(h.each t ht).1;omega
 apply aa6
 intro j
 by_cases c:∃ t∈T,(key t).toNat=j
 ·obtain⟨t,ht,rfl⟩:=c
  have k:=h.each t ht
  exact(yG (key:=fun t=>(key t).toNat) ne ht (aap.1 k.2.1).1).trans k.2.2.1.symm
 ·have hu:∀ t∈T,(key t).toNat≠j:=fun t ht e=>c ⟨t,ht,e⟩
  rw[nL (key:=fun t=>(key t).toNat) hu]
  by_cases hj:j<a.length
  ·exact h.Kt j ac_ hu
  ·rw[aaj ac_,aaj ac_]
end
structure GP(t:Int)(a b:List UInt8)(n:Nat)(G:List b9):Prop where
 each:∀ p∈G,qj t a b p∧fp p+wd p≤n
 pw:G.Pairwise (fun p q=>p.from_+(wd p:Int)<q.from_)
 Kt:∀ k,k<n→(∀ p∈G,¬ (fp p≤k∧k<fp p+wd p))→a[k]? = b[k]?
theorem qU{l:List UInt8}{f w n:Nat}(h:f+w=n)(hn:n<l.length){o:List UInt8}(ho:(l.drop f).take w=o):(l.drop f).take (w+1)=o ++ [l[n]]:=by
 subst h
 rw[aa9,ho,aaw,aa1 hn];rfl
theorem P4(t:Int){a b:List UInt8}(hl:a.length=b.length):∀ n,n≤a.length→GP t a b n (grow t a b n):=by
 intro n
 induction n with
 | zero=>intro _;exact⟨fun t ht=>absurd ht (by simp[grow,jo]),by simp[grow,jo],fun j hj=>by omega⟩
 | succ n ih =>
  intro hn
  have ha:n<a.length:=ac_
  have hb:n<b.length:=ac_
  obtain⟨h1,h2,h3⟩:=ih ac_
  unfold grow at *
  rw[gD _ ha hb]
  generalize jo (ext t) a b [] n=G at *
  by_cases e:a[n]=b[n]
  ·rw[aay e]
   refine⟨fun t ht=>⟨(h1 t ht).1,by have:=(h1 t ht).2;omega⟩,h2,fun j hj hu=>?_⟩
   by_cases c:j=n
   ·subst c;rw[aa1 ha,aa1 hb,e]
   ·exact h3 j ac_ hu
  rw[aaz e]
  have fresh:qj t a b ⟨t,(n:Int),[a[n]],[b[n]]⟩:=by
   refine⟨rfl,by simp,by simp[wd],by simp[fp,wd];omega,by simp[wd],?_,?_,?_⟩
   ·intro i hi
    obtain rfl:i=0:=by simpa using hi
    simpa using e
   ·simp only[fp,wd,abe,abf]
    exact qU (w:=0) (o:=[]) ac_ ha (by simp)
   ·simp only[fp,wd,abe,abf]
    exact qU (w:=0) (o:=[]) ac_ hb (by simp)
  have app:(∀ p∈G,p.from_+(wd p:Int)<(n:Int))→GP t a b (n+1) (G ++ [⟨t,(n:Int),[a[n]],[b[n]]⟩]):=by
   intro hall
   refine⟨fun p hp=>?_,?_,fun j hj hu=>?_⟩
   ·rcases aaF.1 hp with hp|hp
    ·exact⟨(h1 p hp).1,by have:=(h1 p hp).2;omega⟩
    ·obtain rfl:p=⟨t,(n:Int),[a[n]],[b[n]]⟩:=by simpa using hp
     exact⟨fresh,by simp[fp,wd]⟩
   ·rw[aa_]
    refine⟨h2,abb _ _,fun p hp q hq=>?_⟩
    obtain rfl:q=⟨t,(n:Int),[a[n]],[b[n]]⟩:=by simpa using hq
    exact hall p hp
   ·by_cases c:j=n
    ·subst c
     exact absurd (by simp[fp,wd]) (hu ⟨t,(j:Int),[a[j]],[b[j]]⟩ (by simp))
    ·exact h3 j ac_ fun p hp=>hu p (aa7 _ hp)
  rcases oJ G with rfl|⟨Q,p,rfl⟩
  ·rw[tA]
   exact app (by simp)
  ·rw[jT]
   obtain⟨hp,hpn⟩:=h1 p (by simp)
   have hf0:=hp.lX
   have efp:((fp p:Nat):Int)=p.from_:=by simp only[fp];omega
   rw[aa_]at h2
   have hQ:∀ q∈Q,q.from_+(wd q:Int)<p.from_:=fun q hq=>h2.2.2 q hq p (by simp)
   by_cases c:p.from_+(p.old.length:Int)=(n:Int)
   ·rw[aay c]
    have cw:fp p+wd p=n:=by simp only[wd];omega
    refine⟨fun q hq=>?_,?_,fun j hj hu=>?_⟩
    ·rcases aaF.1 hq with hq|hq
     ·exact⟨(h1 q (aa7 _ hq)).1,by have:=(h1 q (aa7 _ hq)).2;omega⟩
     ·obtain rfl:q=⟨p.table,p.from_,p.old ++ [a[n]],p.new ++ [b[n]]⟩:=by simpa using hq
      have hw:wd ⟨p.table,p.from_,p.old ++ [a[n]],p.new ++ [b[n]]⟩=wd p+1:=by simp[wd]
      have Gk:fp ⟨p.table,p.from_,p.old ++ [a[n]],p.new ++ [b[n]]⟩=fp p:=rfl
      refine⟨⟨hp.table,hf0,by rw[hw];omega,by rw[hw,Gk];omega,?_,?_,?_,?_⟩,by rw[hw,Gk];omega⟩
      ·rw[hw];have:=hp.eq;simp;omega
      ·intro i hi
       have he:=hp.eq
       have Y2:wd p=p.old.length:=rfl
       have hi':i<p.old.length+1:=by simpa using hi
       by_cases ci:i<p.old.length
       ·have:=hp.df i ci
        simp only[List.getD]
        rw[aaZ ci,aaZ ac_]
        exact this
       ·obtain rfl:i=p.old.length:=ac_
        simp only[List.getD]
        rw[aa0 ac_,aa0 ac_]
        rw[he,Y2,abg]
        exact e
      ·rw[hw,Gk];exact qU cw ha hp.old
      ·rw[hw,Gk];exact qU cw hb hp.new
    ·rw[aa_]
     refine⟨h2.1,abb _ _,fun q hq r hr=>?_⟩
     obtain rfl:r=⟨p.table,p.from_,p.old ++ [a[n]],p.new ++ [b[n]]⟩:=by simpa using hr
     exact hQ q hq
    ·have hlast:=hu ⟨p.table,p.from_,p.old ++ [a[n]],p.new ++ [b[n]]⟩ (by simp)
     have hw:wd ⟨p.table,p.from_,p.old ++ [a[n]],p.new ++ [b[n]]⟩=wd p+1:=by simp[wd]
     have Gk:fp ⟨p.table,p.from_,p.old ++ [a[n]],p.new ++ [b[n]]⟩=fp p:=rfl
     rw[hw,Gk]at hlast
     refine h3 j ac_ fun q hq=>?_
     rcases aaF.1 hq with hq|hq
     ·exact hu q (aa7 _ hq)
     ·obtain rfl:q=p:=by simpa using hq
      omega
   ·rw[aaz c]
    refine app fun q hq=>?_
    rcases aaF.1 hq with hq|hq
    ·have:=hQ q hq;omega
    ·obtain rfl:q=p:=by simpa using hq
     have:wd q=q.old.length:=rfl
     omega
structure TP(x y:br)(n:Nat)(T:List b9):Prop where
 each:∀ p∈T,(-1≤p.table∧p.table<(n:Int)) ∧ ∃ a b,(mem x)[kp p]? = some a∧(mem y)[kp p]? = some b∧qj p.table a b p
 pw:T.Pairwise Behind
 Kt:∀ i,i≤n → ∀ a b,(mem x)[i]? = some a→(mem y)[i]? = some b → ∀ j,(∀ p∈T,¬ B8 p i j)→a[j]? = b[j]?
theorem WL{x y:br}(hc:x.cq.length=y.cq.length)(ht:x.ah.length=y.ah.length)(hl:uj x y) :
  ∀ n,n≤x.ah.length→TP x y n (tabs x.ah y.ah (grow (-1) x.cq y.cq x.cq.length) n):=by
 intro n
 induction n with
 | zero =>
  intro _
  obtain⟨h1,h2,h3⟩:=P4 (-1) hc _ (aal _)
  refine⟨fun p hp=>?_,?_,fun i hi a b ha hb j hu=>?_⟩
  ·have k:=(h1 p hp).1
   have e:=k.table
   have ek:kp p=0:=by simp only[kp];omega
   exact⟨⟨ac_,ac_⟩,x.cq,y.cq,by rw[ek];rfl,by rw[ek];rfl,by rw[e];exact k⟩
  ·refine List.Pairwise.imp_of_mem ?_ h2
   intro p q hp hq h
   exact .inr ⟨by rw[(h1 p hp).1.table,(h1 q hq).1.table],h⟩
  ·obtain rfl:i=0:=ac_
   obtain rfl:x.cq=a:=by simpa[mem]using ha
   obtain rfl:y.cq=b:=by simpa[mem]using hb
   by_cases hj:j<x.cq.length
   ·refine h3 j hj fun p hp h=>hu p hp ⟨?_,h⟩
    have:=(h1 p hp).1.table
    simp only[kp];omega
   ·rw[aaj ac_,aaj ac_]
 | succ n ih =>
  intro hn
  obtain⟨h1,h2,h3⟩:=ih ac_
  have ha:n<x.ah.length:=ac_
  have hb:n<y.ah.length:=ac_
  rw[xA _ ha hb]
  generalize tabs x.ah y.ah (grow (-1) x.cq y.cq x.cq.length) n=T at *
  have vn:(x.ah[n]).length=(y.ah[n]).length:=hl n ha ha hb
  obtain⟨g1,g2,g3⟩:=P4 (n:Int) vn _ (aal _)
  have ek:∀ p∈grow (n:Int) x.ah[n] y.ah[n] (x.ah[n]).length,kp p=n+1:=fun p hp=>by
   have:=(g1 p hp).1.table;simp only[kp];omega
  have mx:(mem x)[n+1]? = some x.ah[n]:=by show x.ah[n]? = _;exact aa1 ha
  have my:(mem y)[n+1]? = some y.ah[n]:=by show y.ah[n]? = _;exact aa1 hb
  refine⟨fun p hp=>?_,?_,fun i hi a b ha' hb' j hu=>?_⟩
  ·rcases aaF.1 hp with hp|hp
   ·obtain⟨k1,k2⟩:=h1 p hp
    exact⟨⟨k1.1,ac_⟩,k2⟩
   ·have k:=(g1 p hp).1
    have e:=k.table
    exact⟨⟨ac_,ac_⟩,x.ah[n],y.ah[n],by rw[ek p hp];exact mx,by rw[ek p hp];exact my,by rw[e];exact k⟩
  ·rw[aa_]
   refine⟨h2,?_,fun p hp q hq=>.inl ?_⟩
   ·refine List.Pairwise.imp_of_mem ?_ g2
    intro p q hp hq h
    exact .inr ⟨by rw[(g1 p hp).1.table,(g1 q hq).1.table],h⟩
   ·rw[(g1 q hq).1.table]
    exact(h1 p hp).1.2
  ·by_cases c:i=n+1
   ·subst c
    obtain rfl:x.ah[n]=a:=by simpa[mx]using ha'
    obtain rfl:y.ah[n]=b:=by simpa[my]using hb'
    by_cases hj:j<(x.ah[n]).length
    ·exact g3 j hj fun p hp h=>hu p (aa8 _ hp) ⟨ek p hp,h⟩
    ·rw[aaj ac_,aaj ac_]
   ·exact h3 i ac_ a b ha' hb' j fun p hp=>hu p (aa7 _ hp)
section
variable {x y:br}(hx:iG x)(hy:iG y)(hb:Gz x y)
include hb
theorem yL:Told (fun t:dM=>t.reg) (fun t=>t.old) (fun t=>t.new) x.a8.l y.a8.l 11 (jq x y).a8:=by
 have _:=hb
 exact Ea (mk:=fun i a b=>dM.mk i a b) (fun _ _ _=>rfl) (fun _ _ _=>rfl) (fun _ _ _=>rfl) (by rw[x.a8.h,y.a8.h]) 11 (by rw[x.a8.h];exact aal _)
theorem vI:Told (fun t:d_=>t.slot) (fun t=>t.old) (fun t=>t.new) x.bh.l y.bh.l 32 (jq x y).slots:=by
 have _:=hb
 exact Ea (mk:=fun i a b=>d_.mk i a b) (fun _ _ _=>rfl) (fun _ _ _=>rfl) (fun _ _ _=>rfl) (by rw[x.bh.h,y.bh.h]) 32 (by rw[x.bh.h];exact aal _)
theorem oK:TP x y x.ah.length (jq x y).dy:=WL hb.cq hb.ah hb.lens _ (aal _)
include hx hy
theorem uZ:ly (jq x y):=by
 obtain⟨a1,a2,a3⟩:=hx
 obtain⟨b1,b2,b3⟩:=hy
 have T:=oK hb
 refine⟨a1,b1,?_,(yL hb).ok,(vI hb).ok,fun i hi _=>?_⟩
 ·have:=hb.BK;show(y.a7.drop x.a7.length).length≤1;rw[abh];omega
 ·obtain⟨k1,a,b,k2,k3,k4⟩:=T.each _ (abd hi)
  have hlen:a.length≤65535:=by
   have:a∈mem x:=abj k2
   rcases aaM.1 this with rfl|h
   ·exact a3.1
   ·exact a3.2.2 a h
  have h8:=a3.2.1
  have e0:=k4.lX
  have e1:=k4.room
  have e2:=k4.pos
  simp only[fp,wd]at e1 e2
  refine⟨k1.1,by have:=k1.2;simp only at h8;omega,e0,ac_,k4.eq,ac_,k4.df,fun h0=>?_⟩
  exact(aaO.1 T.pw) (i-1) i ac_ hi ac_
theorem FZ:GG x (jq x y):=by
 obtain⟨a1,a2,a3⟩:=hx
 obtain⟨b1,b2,b3⟩:=hy
 refine⟨hb.tP,rfl,?_,fun t ht=>?_,fun t ht=>?_,fun p hp=>?_⟩
 ·have:=hb.steps
  rw[jc ac_]at this
  omega
 ·exact((yL hb).each t ht).2.1
 ·exact((vI hb).each t ht).2.1
 ·obtain⟨k1,a,b,k2,k3,k4⟩:=(oK hb).each p hp
  exact⟨a,k2,k4.room,k4.old⟩
theorem TX:x7 x (jq x y)=mem y:=by
 have T:=oK hb
 have hp:=uZ hx hy hb
 have hc:=FZ hx hy hb
 have hr:=hc.st.room
 refine TM ?_ fun k j=>?_
 ·rw[pL hp hr]
  simp only[mem,aa4,hb.cq]
  congr 1
  apply abk (by simpa using hb.ah)
  intro i h1 h2
  simp only[abl]at h1 h2
  rw[List.getElem_map,List.getElem_map]
  exact hb.lens i h1 h1 h2
 ·by_cases c:∃ p∈(jq x y).dy,B8 p k j
  ·obtain⟨p,hq,Ia⟩:=c
   rw[show x7 x (jq x y)=oo (fun p=>p.new) (mem x) (jq x y).dy from rfl,xR hr (qM hp) hp.apart hq Ia]
   obtain⟨k1,a,b,k2,k3,k4⟩:=T.each p hq
   obtain⟨c1,c2,c3⟩:=Ia
   subst c1
   unfold bt
   rw[k3]
   show p.new[j-fp p]? = b[j]?
   rw[←k4.new,aav,aay ac_,aaw]
   congr 1;omega
  ·have hu:∀ p∈(jq x y).dy,¬ B8 p k j:=fun p hq h=>c ⟨p,hq,h⟩
   rw[show x7 x (jq x y)=oo (fun p=>p.new) (mem x) (jq x y).dy from rfl,pK hr (qM hp) hu]
   unfold bt
   by_cases hk:k<x.ah.length+1
   ·have h1:k<(mem x).length:=by simpa[mem]using hk
    have h2:k<(mem y).length:=by have:=hb.ah;simp only[mem,abm];omega
    rw[aa1 h1,aa1 h2]
    exact T.Kt k ac_ _ _ (aa1 h1) (aa1 h2) j hu
   ·have:=hb.ah
    rw[aaj (by simp only[mem,abm];omega),aaj (by simp only[mem,abm];omega)]
theorem G2:applied x (jq x y)=y:=by
 have e1:=TX hx hy hb
 have er:BL (fun t:dM=>t.reg.toNat) (fun t=>t.new) x.a8 (jq x y).a8=y.a8:=by
  apply Vec.ext
  rw[mV]
  exact(yL hb).set (by rw[x.a8.h,y.a8.h]) x.a8.h
 have es:BL (fun t:d_=>t.slot.toNat) (fun t=>t.new) x.bh (jq x y).slots=y.bh:=by
  apply Vec.ext
  rw[mV]
  exact(vI hb).set (by rw[x.bh.h,y.bh.h]) x.bh.h
 unfold applied Bq
 rw[e1,er,es]
 obtain⟨a1,a2,a3⟩:=hx
 have hst:x.steps+1=y.steps:=by
  have:=hb.steps
  rw[jc ac_]at this
  exact this.symm
 have A1:x.a7++(jq x y).a7=y.a7:=by
  show x.a7++y.a7.drop x.a7.length=y.a7
  have h1:y.a7.take x.a7.length=x.a7:=by
   have:=hb.BJ
   apply abk (by rw[abn];omega)
   intro i h1 h2
   rw[List.getElem_take]
   exact(hb.a7 i h2 h2 ac_).symm
  have h2:=abo x.a7.length y.a7
  rw[h1]at h2
  exact h2
 rw[A1,hst]
 rfl
theorem TW:zc (jq x y):=by
 have hp:=uZ hx hy hb
 have T:=oK hb
 have r1:=pS (f:=oH) (fun i a b T=>by simp[oH]) (a:=x.a8.l) (b:=y.a8.l) (by rw[x.a8.h,y.a8.h]) 11 (by rw[x.a8.h];exact aal _)
 have r2:=pS (f:=o6) (fun i a b T=>by simp[o6]) (a:=x.bh.l) (b:=y.bh.l) (by rw[x.bh.h,y.bh.h]) 32 (by rw[x.bh.h];exact aal _)
 have r3:=xB (P:=grow (-1) x.cq y.cq x.cq.length) hb.ah (fun i h k=>hb.lens i h h k) hx.2.2.2.2 _ (aal _)
 have r4:=(mI (-1) hb.cq _ (aal _)).few
 have b1:x.cq.length≤65535:=hx.2.2.1
 have b2:x.ah.length≤8:=hx.2.2.2.1
 have r5:65535*x.ah.length≤65535*8:=abp _ b2
 refine⟨⟨aam r1 ac_,aam r2 ac_,aam r3 ac_,aam hp.a7 ac_⟩,fun p hq=>?_⟩
 have k:=hp.piece p hq
 have h1:=k.top;have h2:=k.lX;have h3:=k.eq
 simp only[wd]at h1 h3
 exact⟨ac_,ac_⟩
end
end Go.Sp
end
section
namespace Go.Sp
open Go Go.Fw Go.Fx Go.Proofs
def a6{X:Type}(o:Option X)(P:X→Prop):Prop:=∃ r,o=some r∧P r
section
variable {X A B:Type}{P Q:X→Prop}
theorem a6.some{a:X}(h:P a):a6 (some a) P:=⟨a,rfl,h⟩
theorem a6.mono{o:Option X}(h:a6 o Q)(k:∀ r,Q r→P r):a6 o P:=by obtain⟨r,e,h⟩:=h;exact⟨r,e,k r h⟩
theorem a6.bind{o:Option A}{f:A→Option X}(h:a6 o fun a=>a6 (f a) P):a6 (o.bind f) P:=by
 obtain⟨a,rfl,r,h1,h2⟩:=h
 exact⟨r,h1,h2⟩
theorem a6.bindm{o:Option A}{f:A→Option X}{R:A→Prop}(h:a6 o R)(k:∀ a,R a→a6 (f a) P):a6 (o.bind f) P:=a6.bind (h.mono k)
theorem a6.seq{o:Option (A⊕X)}{k:A→Option X}(h:a6 o fun s=>a6 (Fx.fin k s) P):a6 (Fx.seq o k) P:=by
 obtain⟨s,rfl,h⟩:=h
 exact h
theorem a6.seqm{o:Option (A⊕X)}{k:A→Option X}{R:A→Prop}(h:a6 o fun s=>match s with | .inl a=>R a | .inr b=>P b)(h2:∀ a,R a→a6 (k a) P):a6 (Fx.seq o k) P:=by
 obtain⟨s,rfl,h⟩:=h
 cases s with
 | inl a=>exact h2 a h
 | inr b=>exact⟨b,rfl,h⟩
theorem a6.bif{c:Bool}{a b:Option X}(h1:c=true→a6 a P)(h2:c=false→a6 b P):a6 (bif c then a else b) P:=by
 cases c
 ·exact h2 rfl
 ·exact h1 rfl
theorem a6.must{c:Bool}{o:Option X}(h:c=true)(h2:a6 o P):a6 (Fx.must c o) P:=by rw[h];exact h2
theorem a6.get{l:List X}{i:Int}(h0:0≤i)(h1:i<(l.length:Int))(h:∀ x,l[i.toNat]? = .some x→P x):a6 (Fx.get l i) P:=by
 have hk:i.toNat<l.length:=ac_
 exact⟨l[i.toNat],by unfold Fx.get;rw[aay h0,aa1 hk],h _ (aa1 hk)⟩
theorem a6.ku{n:Nat}{v:Vec X n}{i:Int}(h0:0≤i)(h1:i<(n:Int))(h:∀ x,v.l[i.toNat]? = .some x→P x):a6 (Fx.get v.l i) P:=a6.get h0 (by rw[v.h];exact h1) h
theorem a6.loop{σ:Type}{body:σ→Option (σ⊕X)}(μ:σ→Nat)(I:σ→Prop)(h:∀ s,I s→a6 (body s) fun o=>match o with | .inl s'=>I s' ∧ μ s' < μ s | .inr g=>P g):∀ s,I s→a6 (Fx.loop body s) P:=by
 refine Ui μ I P fun s hs=>?_
 obtain⟨o,e,h⟩:=h s hs
 cases o with
 | inl s'=>exact .inl ⟨s',e,h⟩
 | inr g=>exact .inr ⟨g,e,h⟩
end
abbrev Def{X:Type}(o:Option X):Prop:=a6 o fun _=>True
theorem Def.bind{X A:Type}{o:Option A}{f:A→Option X}(h:Def o)(k:∀ a,Def (f a)):Def (o.bind f):=a6.bindm h fun a _=>k a
theorem Def.seq{X A:Type}{o:Option (A⊕X)}{k:A→Option X}(h:Def o)(h2:∀ a,Def (k a)):Def (Fx.seq o k):=a6.seqm (R:=fun _=>True) (h.mono fun s _=>by cases s<;>trivial) fun a _=>h2 a
theorem Def.bif{X:Type}{c:Bool}{a b:Option X}(h1:Def a)(h2:Def b):Def (bif c then a else b):=a6.bif (fun _=>h1) fun _=>h2
theorem Def.some{X:Type}{a:X}:Def (some a):=a6.some trivial
theorem wZ(x:Int):IntKind.u64.wrap x=x%18446744073709551616:=by
 unfold IntKind.wrap
 simp only[IntKind.signed,IntKind.bits,Bool.false_and,abq,if_false]
 rfl
theorem Jn(x:Int):0≤IntKind.u64.wrap x:=by rw[wZ];omega
theorem sX(x y:Int):decide (0≤iP .u64 x y)=true:=aaV (Jn _)
theorem K8(x:Int):iP .u64 x 4294967295=x%4294967296:=by
 unfold iP
 rw[BitVec.toNat_and,BitVec.toNat_ofInt,BitVec.toNat_ofInt]
 have e:(((4294967295:Int)%((2^IntKind.u64.bits:Nat):Int)).toNat)=2^32-1:=by decide
 rw[e,Nat.and_two_pow_sub_one_eq_mod,wZ]
 have e2:((2^IntKind.u64.bits:Nat):Int)=18446744073709551616:=by decide
 rw[e2]
 omega
theorem Qh{x:Int}(h0:x≠0)(h1:0≤x)(h2:x<18446744073709551616):IntKind.i64.wrap x≠0:=by
 obtain⟨k,hk⟩:=Pv x
 rw[hk];omega
theorem Qg{x:Int}(h0:x≠0)(h1:0≤x)(h2:x<4294967296):IntKind.i32.wrap x≠0:=by
 have e:IntKind.i32.wrap x=x%4294967296∨IntKind.i32.wrap x=x%4294967296-4294967296:=by
  unfold IntKind.wrap
  simp only
  split
  ·right;rfl
  ·left;rfl
 omega
theorem Vr{op a b:Int}(h1:1≤op)(h2:op≤15)(hb:4≤op→op≤7→b≠0∧0≤b∧b<18446744073709551616):Def (Sh.Ce op a b):=by
 unfold Sh.Ce
 refine a6.bif (fun c=>Def.some) fun c1=>a6.bif (fun c=>Def.some) fun c2=>a6.bif (fun c=>Def.some) fun c3=>a6.bif (fun c=>?_) fun c4=>a6.bif (fun c=>?_) fun c5=>a6.bif (fun c=>?_) fun c6=>a6.bif (fun c=>?_) fun c7 =>
  a6.bif (fun c=>Def.some) fun c8=>a6.bif (fun c=>Def.some) fun c9=>a6.bif (fun c=>Def.some) fun c10=>a6.bif (fun c=>a6.must (sX _ _) Def.some) fun c11=>a6.bif (fun c=>a6.must (sX _ _) Def.some) fun c12=>a6.bif (fun c=>a6.must (sX _ _) Def.some) fun BW =>
  a6.bif (fun c=>Def.some) fun Cm=>a6.bif (fun c=>Def.some) fun CB=>?_
 all_goals simp only[aad,aat]at *
 ·obtain⟨k1,k2,k3⟩:=hb ac_ ac_;exact a6.must (aaV k1) Def.some
 ·obtain⟨k1,k2,k3⟩:=hb ac_ ac_;exact a6.must (aaV k1) Def.some
 ·obtain⟨k1,k2,k3⟩:=hb ac_ ac_;exact a6.must (aaV (Qh k1 k2 k3)) Def.some
 ·obtain⟨k1,k2,k3⟩:=hb ac_ ac_;exact a6.must (aaV (Qh k1 k2 k3)) Def.some
 ·omega
theorem Hk{op a b:Int}(h:op=4∨op=5∨op=6∨op=7∨op=11∨op=12∨op=13)(hb:4≤op→op≤7→b≠0∧0≤b∧b<4294967296):Def (Sh.aGr op a b):=by
 unfold Sh.aGr
 refine a6.bif (fun c=>?_) fun c4=>a6.bif (fun c=>?_) fun c5=>a6.bif (fun c=>?_) fun c6=>a6.bif (fun c=>?_) fun c7 =>
  a6.bif (fun c=>a6.must (sX _ _) Def.some) fun c11=>a6.bif (fun c=>Def.bind Def.some fun _=>a6.must (sX _ _) Def.some) fun c12=>a6.bif (fun c=>a6.must (sX _ _) Def.some) fun BW=>?_
 all_goals simp only[aad,aat]at *
 ·obtain⟨k1,k2,k3⟩:=hb ac_ ac_
  refine a6.must (aaV ?_) Def.some
  show iP .u64 b 4294967295≠0
  rw[K8];omega
 ·obtain⟨k1,k2,k3⟩:=hb ac_ ac_
  refine a6.must (aaV ?_) Def.some
  show iP .u64 b 4294967295≠0
  rw[K8];omega
 ·obtain⟨k1,k2,k3⟩:=hb ac_ ac_;exact a6.must (aaV (Qg k1 k2 k3)) Def.some
 ·obtain⟨k1,k2,k3⟩:=hb ac_ ac_;exact a6.must (aaV (Qg k1 k2 k3)) Def.some
 ·omega
theorem I9{op:Int}(h1:1≤op)(h2:op≤15):∃ f,Fx.il vg op=some f:=by
 have:op=1∨op=2∨op=3∨op=4∨op=5∨op=6∨op=7∨op=8∨op=9∨op=10∨op=11∨op=12∨op=13∨op=14∨op=15:=ac_
 rcases this with rfl|rfl|rfl|rfl|rfl|rfl|rfl|rfl|rfl|rfl|rfl|rfl|rfl|rfl|rfl<;>exact⟨_,rfl⟩
theorem I8{op:Int}(h1:1≤op)(h2:op≤15):((Fx.il mN op).isSome=true∧(op=4∨op=5∨op=6∨op=7∨op=11∨op=12∨op=13))∨((Fx.il mN op).isSome=false ∧ ¬ (4≤op∧op≤7)):=by
 have:op=1∨op=2∨op=3∨op=4∨op=5∨op=6∨op=7∨op=8∨op=9∨op=10∨op=11∨op=12∨op=13∨op=14∨op=15:=ac_
 rcases this with rfl|rfl|rfl|rfl|rfl|rfl|rfl|rfl|rfl|rfl|rfl|rfl|rfl|rfl|rfl<;>first|exact .inl ⟨rfl,by decide⟩|exact .inr ⟨rfl,by decide⟩
theorem Tq(op:Int):Sh.wK op=some (decide (4≤op∧op≤7)):=by
 unfold Sh.wK
 by_cases h:4≤op<;>simp[h,Fx.seq,Fx.fin,Sh.vZ]
theorem VW(op:Int)(nr:Bool)(a b:Int):Def (Sh.aG9 op nr a b):=by
 unfold Sh.aG9
 refine a6.seqm (R:=fun v=>v=false→1≤op∧op≤15) (a6.bif (fun c=>a6.some (by simp)) fun c=>a6.some ?_) fun v hv=>?_
 ·simp only[aat,aad]at *; intro h;omega
 unfold Sh.Ed
 refine a6.bif (fun _=>Def.some) fun c=>?_
 obtain⟨h1,h2⟩:=hv c
 refine a6.seqm (R:=fun v=>(0≤v.2∧v.2<18446744073709551616)∧(nr=true→v.2<4294967296)) (a6.bif (fun c=>?_) fun c=>?_) fun v hv=>?_
 ·refine a6.bindm (R:=fun _=>True) Def.some fun y _=>a6.some ?_
  show(0≤iP .u64 _ _∧iP .u64 _ _<_)∧(nr=true→iP .u64 _ _<_)
  rw[K8];omega
 ·refine a6.some ⟨?_,fun k=>by rw[c]at k;cases k⟩
  show 0≤IntKind.u64.wrap b∧IntKind.u64.wrap b<_
  rw[wZ];omega
 obtain⟨x,y⟩:=v
 obtain⟨k1,k2⟩:=hv
 simp only at k1 k2
 unfold Sh.Ee
 refine a6.seqm (R:=fun v=>v=false→4≤op→op≤7→y≠0) (a6.bif (fun c=>?_) fun c=>a6.some ?_) fun v hv=>?_
 ·rw[Tq]
  refine a6.some ?_
  simp only[aat]
  intro h h3 h4;exact absurd ⟨h3,h4⟩ h
 ·simp only[aat]at c
  intro _ _ _;exact c
 unfold Sh.FO
 refine a6.bif (fun _=>Def.some) fun c=>?_
 have hy:=hv c
 obtain⟨f,hf⟩:=I9 h1 h2
 rw[hf]
 have W:(4≤op→op≤7→y≠0)→Def (Sh.Ce op x y):=fun hy=>Vr h1 h2 fun h3 h4=>⟨hy h3 h4,k1.1,k1.2⟩
 refine a6.bif (fun c=>Def.bind (W hy) fun _=>Def.some) fun c=>?_
 have YR:nr=true:=by cases nr<;>simp_all
 rcases I8 h1 h2 with⟨e,hn⟩|⟨e,hn⟩
 ·rw[e]
  obtain⟨g,hg⟩:=abr.1 e
  rw[hg]
  exact Def.bind (Hk hn fun h3 h4=>⟨hy h3 h4,k1.1,k2 YR⟩) fun _=>Def.some
 ·rw[e]
  exact Def.bind (W fun h3 h4=>absurd ⟨h3,h4⟩ hn) fun _=>Def.some
theorem O4(op:Int)(nr:Bool)(a b:Int):Def (Sh.xJ op nr a b):=by
 unfold Sh.xJ
 refine Def.seq (Def.bif Def.some Def.some) fun _=>?_
 unfold Sh.zK
 refine Def.seq (Def.seq (Def.seq (Def.seq ?_ fun _=>?_) fun _=>?_) fun _=>?_) fun _=>?_
 ·repeat' first|exact Def.some|apply Def.bif
 all_goals exact Def.bind (Def.seq (Def.bif Def.some Def.some) fun _=>Def.bif Def.some (Def.bif Def.some Def.some)) fun _=>Def.some
theorem Tc(a:Int)(b:Bool)(c:Int):Def (Sh.aD1 a b c) :=
 Def.seq (Def.bif Def.some (Def.bif Def.some (Def.seq (Def.bif Def.some Def.some) fun _=>Def.bif Def.some Def.some))) fun _=>Def.bif Def.some Def.some
theorem VE(a:Int)(b:Bool)(c:Int):Def (Sh.Eo a b c) :=
 Def.seq (Def.bif Def.some Def.some) fun _=>Def.bif (Def.bind Def.some fun _=>Def.some) (Def.bif Def.some (Def.seq (Def.bif Def.some Def.some) fun _=>Def.bif (Def.bind Def.some fun _=>Def.some) (Def.bif Def.some (Def.seq (Def.bif Def.some Def.some) fun _ =>
  Def.bif (Def.bind Def.some fun _=>Def.some) (Def.bif Def.some Def.some)))))
theorem VP(l:List UInt8)(b:Bool):Def (Sh.Dl l b):=by
 unfold Sh.Dl
 refine a6.seqm (R:=fun v=>v=false→l.length≤8) (a6.bif (fun c=>a6.some (by simp)) fun c=>a6.some (by simp only[aat];omega)) fun v hv=>?_
 unfold Sh.FP
 refine a6.bif (fun _=>Def.some) fun c=>?_
 have h8:=hv c
 refine Def.seq ?_ fun v=>?_
 ·refine a6.loop (fun s:Int×Int=>(l.length-s.1.toNat)) (fun s=>0≤s.1∧s.1≤8) (fun s hs=>?_) _ ⟨ac_,ac_⟩
  obtain⟨i,a⟩:=s
  simp only at hs
  show a6 (Sh.yE l i a) _
  unfold Sh.yE
  refine a6.bif (fun c=>?_) fun c=>a6.some trivial
  simp only[aad]at c
  refine a6.bind (a6.get hs.1 c fun x _=>a6.must (aaV (by rw[jc ac_];omega)) (a6.some ?_))
  show(0≤IntKind.i64.wrap (i+1)∧IntKind.i64.wrap (i+1)≤8)∧l.length-(IntKind.i64.wrap (i+1)).toNat<l.length-i.toNat
  rw[jc ac_]
  omega
 ·unfold Sh.D_
  have e:IntKind.i64.wrap (64-IntKind.i64.wrap (8*(l.length:Int)))=64-8*(l.length:Int):=by rw[jc (x:=8*(l.length:Int)) ac_,jc ac_]
  rw[e]
  exact Def.bif (a6.must (aaV ac_) (a6.must (aaV ac_) Def.some)) Def.some
theorem Ld{X:Type}{z:X}{n:Nat}(b:Nat)(hn:n≤1099511627776)(hb:b≤256):Fx.mk b z (n:Int)=some (List.replicate n z):=by
 unfold Fx.mk
 rw[aay]
 ·simp
 ·have:b*n≤256*1099511627776:=Nat.mul_le_mul hb hn
  have h2:((b:Int)*(n:Int))=((b*n:Nat):Int):=by simp
  omega
theorem P5{n:Int}(x:Int)(h0:1≤n)(h1:n≤8):a6 (Sh.Di n x) fun l=>(l.length:Int)=n:=by
 unfold Sh.Di
 rw[aaW ac_,aaW ac_]
 show a6 (Sh.yF n x false) _
 unfold Sh.yF
 obtain⟨m,rfl⟩ : ∃ m:Nat,n=(m:Int):=⟨n.toNat,ac_⟩
 rw[abt,Ld 1 ac_ ac_]
 refine a6.seqm (R:=fun l:List UInt8=>l.length=m) ?_ fun l hl=>a6.some ac_
 refine a6.loop (fun s:Int×List UInt8=>(m-s.1.toNat)) (fun s=>(0≤s.1∧s.1≤8)∧s.2.length=m) (fun s hs=>?_) _ ⟨⟨ac_,ac_⟩,by simp⟩
 obtain⟨i,a⟩:=s
 simp only at hs
 show a6 (Sh.yG x (List.replicate m 0) i a) _
 unfold Sh.yG
 refine a6.bif (fun c=>?_) fun c=>a6.some hs.2
 simp only[aad,abu]at c
 refine a6.must (aaV (by rw[jc ac_];omega)) (a6.bind (a6.get hs.1.1 ac_ fun x _=>a6.some ?_))
 show((0≤IntKind.i64.wrap (i+1)∧IntKind.i64.wrap (i+1)≤8)∧(a.set i.toNat _).length=m)∧m-(IntKind.i64.wrap (i+1)).toNat<m-i.toNat
 rw[jc ac_,abv]
 omega
structure Form(i:bg):Prop where
 op:1≤i.op∧i.op≤39
 dst:0≤i.dst∧i.dst≤10
 src:0≤i.src∧i.src≤10
 off : -32768≤i.off∧i.off≤32767
 size:22≤i.op→i.op≤25→1≤i.size∧i.size≤8
 jN:i.op=21→0≤i.jN
theorem FQ(x:Int):∃ b,Sh.nP x=some b:=by
 obtain⟨b,h,_⟩ : Def (Sh.nP x):=by
  unfold Sh.nP
  refine Def.seq ?_ fun _=>Def.some
  repeat' first|exact Def.some|apply Def.bif
 exact⟨b,h⟩
theorem Ud(i:bg):a6 (Sh.xW i) fun b=>b=true→(1≤i.op∧i.op≤39)∧(22≤i.op→i.op≤25→1≤i.size∧i.size≤8):=by
 unfold Sh.xW
 obtain⟨y,hy⟩:=FQ i.op
 rw[hy]
 refine a6.seqm (R:=fun v=>v.2=true→(1≤i.op∧i.op≤39)∧(22≤i.op→i.op≤25→1≤i.size∧i.size≤8)) ?_ fun v hv=>?_
 ·refine a6.seqm (R:=fun v=>v=false→1≤i.op∧i.op≤39) (a6.bif (fun c=>a6.some (by simp)) fun c=>a6.some ?_) fun v hv=>?_
  ·simp only[aat]at *; intro h;omega
  unfold Sh.wM
  refine a6.bif (fun c=>a6.some (by simp)) fun c=>?_
  have h0:=hv c
  refine a6.bif (fun c=>?_) fun c1=>?_
  ·simp only[aad]at c
   refine a6.seqm (R:=fun _=>True) ?_ fun v _=>a6.some (fun _=>⟨h0,fun _=>by omega⟩)
   repeat' first|exact a6.some trivial|(apply a6.bif<;>intro _)
  refine a6.seqm (R:=fun v=>v=true↔(17≤i.op∧i.op≤19)) (a6.bif (fun c=>a6.some ?_) fun c=>a6.some ?_) fun v hv=>?_
  ·simp only[aat,aad]at *; omega
  ·simp only[aat,aad,abq,false_iff]at *; omega
  unfold Sh.wN
  simp only[aat]at c1
  refine a6.bif (fun c=>?_) fun c2=>?_
  ·have:=hv.1 c
   repeat' first|exact a6.some (fun _=>⟨h0,fun _=>by omega⟩)|(apply a6.bif<;>intro _)
  have c3:¬ (17≤i.op∧i.op≤19):=fun h=>by rw[hv.2 h]at c2;cases c2
  refine a6.seqm (R:=fun v=>v=true↔(i.op=22∨i.op=24)) (a6.bif (fun c=>a6.some ?_) fun c=>a6.some ?_) fun v hv=>?_
  ·exact⟨fun _=>.inl (by simpa using c),fun _=>rfl⟩
  ·simp only[aat,aad]at *; omega
  unfold Sh.wO
  refine a6.bif (fun c=>?_) fun c4=>?_
  ·repeat' first|(apply a6.bif<;>intro _)
   all_goals (refine a6.some fun k=>⟨h0,fun _ _=>?_⟩;simp only[aad]at *; omega)
  have c5:¬ (i.op=22∨i.op=24):=fun h=>by rw[hv.2 h]at c4;cases c4
  refine a6.bif (fun c=>?_) fun c6=>?_
  ·repeat' first|(apply a6.bif<;>intro _)
   all_goals (refine a6.some fun k=>⟨h0,fun _ _=>?_⟩;simp only[aad]at *; omega)
  refine a6.bif (fun c=>?_) fun c7=>?_
  ·repeat' first|(apply a6.bif<;>intro _)
   all_goals (refine a6.some fun k=>⟨h0,fun _ _=>?_⟩;simp only[aad]at *; omega)
  simp only[aat]at c6 c7
  refine a6.seqm (R:=fun _=>True) ?_ fun v _=>?_
  ·repeat' first|exact a6.some trivial|(apply a6.bif<;>intro _)
  ·unfold Sh.wP
   repeat' first|exact a6.some (fun _=>⟨h0,fun _=>by omega⟩)|(apply a6.bif<;>intro _)
 ·unfold Sh.wL
  refine a6.seqm (R:=fun b=>b=true→v.2=true) ?_ fun b hb=>a6.some fun h=>hv (hb h)
  obtain⟨v1,v2⟩:=v
  cases v2
  ·exact a6.some (by simp)
  ·simp only[abw]
   repeat' first|exact a6.some (fun _=>trivial)|(apply a6.bif<;>intro _)
theorem FT(x:Int)(w:Bool):a6 (Sh.wQ x w) fun b=>b=true→0≤x∧x≤10:=by
 unfold Sh.wQ
 refine a6.seqm (R:=fun b=>b=true→0≤x∧x≤10) ?_ fun b hb=>a6.some hb
 refine a6.bif (fun c1=>a6.bif (fun c2=>?_) fun _=>a6.some (by simp)) fun _=>a6.some (by simp)
 simp only[aad]at c1 c2
 exact a6.bif (fun _=>a6.some fun _=>⟨c1,c2⟩) fun _=>a6.some fun _=>⟨c1,c2⟩
theorem uU(x y:Int):Def (Sh.nS x y):=by
 unfold Sh.nS
 refine Def.bif Def.some (Def.seq ?_ fun _=>Def.bif Def.some Def.some)
 repeat' first|exact Def.some|apply Def.bif
theorem Tj(i:bg):a6 (Sh.wA i) fun b=>b=true→i.op=21→0≤i.jN:=by
 unfold Sh.wA
 refine a6.bif (fun c=>a6.some fun _ k=>?_) fun _=>?_
 ·simp only[aad]at c;omega
 refine a6.seqm (R:=fun _=>True) ?_ fun v _=>?_
 ·repeat' first|exact a6.some trivial|(apply a6.bif<;>intro _)
 unfold Sh.vD
 refine a6.bif (fun c=>a6.some (by simp)) fun _=>?_
 refine a6.seqm (R:=fun v=>v=true→i.op≠21) ?_ fun v hv=>?_
 ·repeat' first|(apply a6.bif<;>intro _)
  all_goals (refine a6.some ?_;simp only[aad]at *; intro _;omega)
 unfold Sh.vE
 refine a6.bif (fun c=>a6.some fun _ k=>absurd k (hv c)) fun _=>?_
 refine a6.seqm (R:=fun v=>v=true→i.op≠21) ?_ fun v hv=>?_
 ·repeat' first|(apply a6.bif<;>intro _)
  all_goals (refine a6.some ?_;simp only[aad]at *; intro _;omega)
 unfold Sh.vF
 refine a6.bif (fun c=>?_) fun _=>a6.bif (fun c=>?_) fun _=>a6.bif (fun c=>a6.some fun h _=>by simpa using h) fun c=>a6.some fun _ k=>?_
 ·refine a6.seqm (R:=fun _=>True) ?_ fun v _=>a6.some fun _ k=>absurd k (hv c)
  repeat' first|exact a6.some trivial|(apply a6.bif<;>intro _)
 ·simp only[aad]at c
  refine a6.bindm (R:=fun _=>True) ?_ fun v _=>a6.some fun _ k=>by omega
  unfold Sh.Ea
  refine Def.seq ?_ fun _=>Def.bif Def.some (Def.bind (uU _ _) fun _=>Def.some)
  repeat' first|exact Def.some|apply Def.bif
 ·simp only[aat]at c;omega
theorem WN(i:bg):a6 (Sh.aD4 i) fun u=>i.op=21→u.2.2.2=true:=by
 unfold Sh.aD4
 obtain⟨y,hy⟩:=FQ i.op
 refine a6.seqm (R:=fun _=>True) ?_ fun v1 _=>?_
 ·repeat' first|exact a6.some trivial|(apply a6.bif<;>intro _)
 refine a6.seqm (R:=fun _=>True) ?_ fun v2 _=>?_
 ·repeat' first|exact a6.some trivial|(apply a6.bif<;>intro _)
 refine a6.seqm (R:=fun _=>True) ?_ fun v3 _=>?_
 ·repeat' first|exact a6.some trivial|(apply a6.bif<;>intro _)
 unfold Sh.D5
 rw[hy]
 refine a6.seqm (R:=fun _=>True) (a6.bind (a6.some ?_)) fun v4 _=>?_
 ·repeat' first|exact a6.some trivial|(apply a6.bif<;>intro _)
 refine a6.seqm (R:=fun _=>True) ?_ fun v5 _=>?_
 ·repeat' first|exact a6.some trivial|(apply a6.bif<;>intro _)
 unfold Sh.aAi
 rw[hy]
 refine a6.seqm (R:=fun v=>i.op=21→v=true) (a6.bind (a6.some ?_)) fun v6 h6=>a6.some h6
 repeat' first|exact a6.some (fun _=>rfl)|(apply a6.bif<;>intro _)
 all_goals (refine a6.some fun k=>?_;simp only[aat]at *; omega)
theorem U_(i:bg):a6 (Sh.sN i) fun e=>e=0→Form i:=by
 unfold Sh.sN
 refine a6.bindm (Ud i) fun f hf=>a6.bif (fun _=>a6.some (by simp)) fun c1=>a6.bindm (WN i) fun u hu=>?_
 have F:=hf (by simpa using c1)
 have wd:∀ x,a6 (Sh.qX x) fun _=>True:=fun x=>by
  unfold Sh.qX
  exact Def.seq (Def.bif Def.some Def.some) fun _=>Def.some
 refine a6.seqm (R:=fun v=>v=false→(u.1=true→0≤i.dst∧i.dst≤10)∧(u.2.1=true→0≤i.src∧i.src≤10)) ?_ fun v hv=>?_
 ·refine a6.seqm (R:=fun v=>v=false→u.1=true→0≤i.dst∧i.dst≤10) (a6.bif (fun c=>?_) fun c=>a6.some fun _ k=>by rw[c]at k;cases k) fun v hv=>?_
  ·exact a6.bindm (wd _) fun _ _=>a6.bindm (FT _ _) fun b hb=>a6.some fun h _=>hb (by simpa using h)
  ·refine a6.bif (fun c=>a6.some fun k=>by rw[c]at k;cases k) fun c=>a6.bif (fun c2=>?_) fun c2=>a6.some fun _=>⟨hv c,fun k=>by rw[c2]at k;cases k⟩
   exact a6.bindm (uU _ _) fun _ _=>a6.bindm (FT _ _) fun b hb=>a6.some fun h=>⟨hv c,fun _=>hb (by simpa using h)⟩
 unfold Sh.yH
 refine a6.bif (fun _=>a6.some (by simp)) fun c2=>?_
 obtain⟨hd,hs⟩:=hv c2
 refine a6.seqm (R:=fun v=>v=false→(0≤i.dst∧i.dst≤10)∧(0≤i.src∧i.src≤10)∧(-32768≤i.off∧i.off≤32767)) ?_ fun v hv=>?_
 ·refine a6.seqm (R:=fun v=>v=false→0≤i.dst∧i.dst≤10) (a6.bif (fun c=>a6.some ?_) fun c=>a6.some fun _=>hd (by simpa using c)) fun v hv=>?_
  ·intro h;simp at h;omega
  refine a6.bif (fun c=>a6.some fun k=>by rw[c]at k;cases k) fun c=>?_
  have hd:=hv c
  refine a6.seqm (R:=fun v=>v=false→0≤i.src∧i.src≤10) (a6.bif (fun c=>a6.some ?_) fun c=>a6.some fun _=>hs (by simpa using c)) fun v hv=>?_
  ·intro h;simp at h;omega
  refine a6.bif (fun c=>a6.some fun k=>by rw[c]at k;cases k) fun c=>?_
  have hs:=hv c
  refine a6.seqm (R:=fun v=>True) (a6.bif (fun c=>a6.some trivial) fun c=>a6.some trivial) fun v hv=>?_
  refine a6.bif (fun c=>a6.some fun k=>by rw[c]at k;cases k) fun c=>a6.bif (fun c=>a6.some fun k=>by rw[c]at k;cases k) fun c=>a6.some fun k=>⟨hd,hs,?_⟩
  simp only[aat]at c k
  omega
 unfold Sh.yI
 refine a6.bif (fun _=>a6.some (by simp)) fun c3=>?_
 obtain⟨hd,hs,ho⟩:=hv c3
 refine a6.seqm (R:=fun v=>v=false→i.op=21→0≤i.jN) ?_ fun v hv=>a6.bif (fun _=>a6.some (by simp)) fun c=>a6.some fun _=>⟨F.1,hd,hs,ho,F.2,hv c⟩
 refine a6.seqm (R:=fun v=>True) (a6.bif (fun c=>a6.some trivial) fun c=>a6.some trivial) fun v hv=>?_
 refine a6.bif (fun c=>a6.some fun k=>by rw[c]at k;cases k) fun c=>a6.bif (fun c=>a6.bindm (Tj i) fun b hb=>a6.some fun h=>hb (by simpa using h)) fun c=>a6.some fun _ k=>?_
 rw[hu k]at c;cases c
theorem Ut(l:List bg):a6 (Sh.sM l) fun r=>r.2=0→l.length≤4096 ∧ ∀ i∈l,Form i:=by
 unfold Sh.sM
 refine a6.seqm (R:=fun _=>l.length≤4096 ∧ ∀ i∈l,Form i) ?_ fun _ h=>a6.some fun _=>h
 refine a6.loop (fun s:Int=>4097-s.toNat) (fun s=>(0≤s∧s≤4096∧s≤(l.length:Int)) ∧ ∀ i∈l.take s.toNat,Form i) (fun s hs=>?_) 0 ⟨ac_,by simp⟩
 obtain⟨⟨h0,h1,h3⟩,h2⟩:=hs
 show a6 (Sh.mQ l s) _
 unfold Sh.mQ
 refine a6.bif (fun c=>?_) fun c=>a6.some ?_
 ·simp only[aad]at c
  refine a6.bind (a6.get h0 c fun x hx=>a6.bif (fun _=>a6.some (by simp)) fun c4=>a6.bindm (U_ x) fun e he=>a6.bif (fun c5=>a6.some fun k=>?_) fun c5=>a6.some ?_)
  ·simp only[aar,aat]at c5;exact absurd k c5
  ·simp only[abx,aad,aat]at c5 c4
   show((0≤IntKind.i64.wrap (s+1)∧IntKind.i64.wrap (s+1)≤4096∧IntKind.i64.wrap (s+1)≤(l.length:Int)) ∧ ∀ i∈l.take (IntKind.i64.wrap (s+1)).toNat,Form i)∧4097-(IntKind.i64.wrap (s+1)).toNat<4097-s.toNat
   rw[jc ac_]
   refine⟨⟨ac_,fun i hi=>?_⟩,ac_⟩
   rw[show(s+1).toNat=s.toNat+1 by omega,aa9,hx]at hi
   rcases aaF.1 hi with hi|hi
   ·exact h2 i hi
   ·obtain rfl:i=x:=by simpa using hi
    exact he c5
 ·simp only[aat]at c
  have e:s.toNat=l.length:=ac_
  rw[e,aby]at h2
  exact⟨ac_,h2⟩
end Go.Sp
end
section
namespace Go.Sp
open Go Go.Fw Go.Fx Go.Proofs
structure kD(sz:List gP)(v:aj):Prop where
 near:2≤v.kind → -1048576≤v.x∧v.x≤1048576
 tab:5≤v.kind→(0≤v.table∧v.table<(sz.length:Int)) ∧ ∀ t,sz[v.table.toNat]? = some t→0≤v.row∧v.row<t.rows
structure xg(sz:List gP)(st:Vec bn 32)(cx:List UInt8)(tb:List (List UInt8))(n:Nat):Prop where
 slots:∀ s∈st.l,kD sz s.ptr
 cq:cx.length=n
 tl:tb.length=sz.length
 tab:∀ (i:Nat) (t:gP) (b:List UInt8),sz[i]? = some t→tb[i]? = some b→(b.length:Int)=t.rows*t.wide
structure Env(data:List UInt8)(sz:List gP)(n:Nat):Prop where
 data:data.length≤4096
 few:sz.length≤8
 sz:∀ t∈sz,(1≤t.rows∧t.rows≤64)∧(1≤t.wide∧t.wide≤64)
 cq:n≤65535
structure xm(m:ai)(n:Nat):Prop where
 env:Env m.ae.data m.ae.sizes n
 mem:xg m.ae.sizes m.ae.bh m.ae.cq m.ae.ah n
 a8:∀ v∈m.a8.l,kD m.ae.sizes v
theorem kD.plain{sz:List gP}{v:aj}(h:v.kind≤1):kD sz v:=⟨fun k=>by omega,fun k=>by omega⟩
theorem kD.number{sz:List gP}(x:Int):kD sz (aj.mk 1 0 0 x):=kD.plain (by show(1:Int)≤1;omega)
theorem kD.zero{sz:List gP}:kD sz aj.zero:=kD.plain (by show(0:Int)≤1;omega)
theorem jK{X:Type}{n:Nat}{P:X→Prop}{v:Vec X n}{k:Nat}{x:X}(h:∀ w∈v.l,P w)(hx:P x):∀ w∈(v.set k x).l,P w:=fun w hw=>by
 rcases abz (show w∈v.l.set k x from hw)with h1|rfl
 ·exact h w h1
 ·exact hx
theorem Dk{l:List UInt8}{i n:Int}(h0:0≤i)(hn:0≤n)(h:i+n≤(l.length:Int)):Fx.ny l i (i+n)=some ((l.drop i.toNat).take ((i+n).toNat-i.toNat)):=by
 unfold Fx.ny
 rw[aay ⟨h0,ac_,h⟩]
theorem qG{l:List UInt8}(h:l.length≤1099511627776):Sh.aN l=some l:=(cI (by simp;omega) (by simp;omega)).trans (by rw[abA])
structure Room(m:ai)(v:aj)(a n:Int):Prop where
 lo:0≤a
 k2:v.kind=2→a+n≤256
 k3:v.kind=3→a+n≤(m.ae.cq.length:Int)
 k4:v.kind=4→a+n≤(m.ae.data.length:Int)
 k5:v.kind≠2→v.kind≠3→v.kind≠4 → ∀ t,m.ae.sizes[v.table.toNat]? = some t→a+n≤t.wide
section
variable {m:ai}{N:Nat}(G:xm m N){v:aj}(hv:kD m.ae.sizes v)(hk:2≤v.kind)
include G hv hk
theorem P3(h2:v.kind≠2)(h3:v.kind≠3)(h4:v.kind≠4):(0≤v.table∧v.table<(m.ae.sizes.length:Int)) ∧ ∀ t,m.ae.sizes[v.table.toNat]? = some t→(0≤v.row∧v.row<t.rows)∧(1≤t.rows∧t.rows≤64)∧(1≤t.wide∧t.wide≤64):=by
 obtain⟨h5,h6⟩:=hv.tab ac_
 exact⟨h5,fun t ht=>⟨h6 t ht,G.env.sz t (abj ht)⟩⟩
theorem uB{a n:Int}(ha:a≤1000000000000)(hn:0≤n∧n≤1000000000000):a6 (Sh.eQ m v a n) fun b=>b=true→Room m v a n:=by
 unfold Sh.eQ
 refine a6.seqm (R:=fun b=>b=true→Room m v a n) (a6.bif (fun c=>?_) fun c=>a6.some (by simp)) fun b hb=>a6.some hb
 simp only[aad]at c
 have e:IntKind.i64.wrap (a+n)=a+n:=jc ac_
 rw[e]
 unfold Sh.pO
 refine a6.bind (a6.bif (fun c2=>a6.some (a6.some ?_)) fun c2=>a6.bif (fun c3=>a6.some (a6.some ?_)) fun c3=>a6.bif (fun c4=>a6.some (a6.some ?_)) fun c4=>?_)
 ·simp only[aad]at *
  exact fun h=>⟨c,fun _=>h,fun k=>by omega,fun k=>by omega,fun k=>by omega⟩
 ·simp only[aad,aat]at *
  exact fun h=>⟨c,fun k=>by omega,fun k=>h,fun k=>by omega,fun _ k=>by omega⟩
 ·simp only[aad,aat]at *
  exact fun h=>⟨c,fun k=>by omega,fun k=>by omega,fun k=>h,fun _ _ k=>by omega⟩
 ·simp only[aad,aat]at *
  obtain⟨h1,h2⟩:=P3 G hv hk c2 c3 c4
  refine a6.bind (a6.get h1.1 h1.2 fun t ht=>a6.some (a6.some fun h=>⟨c,fun k=>by omega,fun k=>by omega,fun k=>by omega,fun _ _ _ u hu=>?_⟩))
  rw[ht]at hu
  cases hu
  simpa using h
omit G hv hk in
theorem sI{a n:Int}(hn:0≤n)(hr:Room m v a n):Def (Sh.eT m v a n):=by
 unfold Sh.eT
 refine a6.seqm (R:=fun b=>b=false→v.kind=2) (a6.bif (fun c=>a6.some (by simp)) fun c=>a6.some fun _=>by simpa using c) fun b hb=>?_
 unfold Sh.kM
 refine a6.bif (fun _=>Def.some) fun c=>?_
 have h2:=hr.k2 (hb c)
 have h0:=hr.lo
 refine Def.seq ?_ fun _=>Def.some
 refine a6.loop (fun s:Int×Int=>(a+n-s.1).toNat) (fun s=>0≤s.1∧s.1≤a+n) (fun s hs=>?_) _ ⟨h0,by show a≤a+n;omega⟩
 obtain⟨i,e⟩:=s
 simp only at hs
 show a6 (Sh.hA m a n i e) _
 unfold Sh.hA
 have e1:IntKind.i64.wrap (a+n)=a+n:=jc ac_
 rw[e1]
 refine a6.bif (fun c=>?_) fun c=>a6.some trivial
 simp only[aad]at c
 have e2:Int.tdiv i 8=i/8:=abB hs.1
 have e3:Int.tmod i 8=i%8:=abC hs.1
 rw[e2,e3,jc (x:=i/8) ac_]
 refine a6.seqm (R:=fun _=>True) ?_ fun x _=>a6.some ?_
 ·refine a6.bind (a6.ku ac_ (by show i/8<32;omega) fun s _=>a6.bif (fun _=>a6.some trivial) fun _=>a6.must (aaV ac_) (a6.bif (fun _=>a6.some trivial) fun _=>a6.some trivial))
 ·show(0≤IntKind.i64.wrap (i+1)∧IntKind.i64.wrap (i+1)≤a+n)∧(a+n-IntKind.i64.wrap (i+1)).toNat<(a+n-i).toNat
  rw[jc ac_]
  omega
theorem Dl{a n:Int}(hn:0≤n)(hr:Room m v a n)(h2:v.kind≠2)(h3:v.kind≠3)(h4:v.kind≠4):a6 (Sh.pQ m v a n) fun y=>y.2.2.length=n.toNat∧(0≤y.2.1∧y.2.1+n≤(y.1.length:Int))∧y.2.1≤4096∧m.ae.ah[v.table.toNat]? = some y.1:=by
 unfold Sh.pQ
 obtain⟨h5,h6⟩:=P3 G hv hk h2 h3 h4
 refine a6.bind (a6.get h5.1 h5.2 fun t ht=>a6.bind (a6.get h5.1 (by rw[G.mem.tl];exact h5.2) fun b hb=>?_))
 obtain⟨⟨k1,k2⟩,⟨k3,k4⟩,k5,k6⟩:=h6 t ht
 have hw:=hr.k5 h2 h3 h4 t ht
 have hl:=G.mem.tab _ t b ht hb
 have h0:=hr.lo
 have p1:0≤v.row*t.wide:=Int.mul_nonneg k1 ac_
 have p2:(v.row+1)*t.wide≤t.rows*t.wide:=abD ac_ ac_
 have p3:(v.row+1)*t.wide=v.row*t.wide+t.wide:=by rw[Int.add_mul,Int.one_mul]
 have p4:t.rows*t.wide≤64*64:=by
  have q1:t.rows*t.wide≤64*t.wide:=abD ac_ ac_
  have q2:64*t.wide≤64*64:=ac_
  omega
 generalize v.row*t.wide=q at *
 generalize t.rows*t.wide=z at *
 rw[jc (x:=q) ac_,jc (x:=q+a) ac_,jc (x:=q+a+n) ac_]
 rw[Dk ac_ hn ac_]
 refine a6.bind (a6.some (a6.some ⟨?_,⟨by show 0≤q+a;omega,by show q+a+n≤(b.length:Int);omega⟩,by show q+a≤4096;omega,hb⟩))
 show(List.take ((q+a+n).toNat-(q+a).toNat) (List.drop (q+a).toNat b)).length=n.toNat
 rw[abn,abh]
 omega
omit hv in
theorem P7{a n:Int}(hn:0≤n∧n≤1000000000)(hv:kD m.ae.sizes v)(hr:Room m v a n):a6 (Sh.kT m v a n) fun l=>(l.length:Int)=n:=by
 have hc:m.ae.cq.length≤65535:=by have:=G.mem.cq;have:=G.env.cq;omega
 have hd:=G.env.data
 have h0:=hr.lo
 unfold Sh.kT
 refine a6.bif (fun c2=>?_) fun c2=>?_
 ·refine a6.bif (fun c=>?_) fun c3=>a6.bif (fun c=>?_) fun c4=>?_
  ·have k:=hr.k3 (by simpa using c)
   unfold Sh.pP
   rw[jc ac_,Dk h0 hn.1 k]
   refine a6.bind (a6.bind (a6.some (a6.some ?_)))
   rw[qG (by rw[abn,abh];omega)]
   refine a6.bind (a6.some (a6.some ?_))
   rw[abn,abh];omega
  ·have k:=hr.k4 (by simpa using c)
   unfold Sh.qP
   rw[jc ac_,Dk h0 hn.1 k]
   refine a6.bind (a6.bind (a6.some (a6.some ?_)))
   rw[qG (by rw[abn,abh];omega)]
   refine a6.bind (a6.some (a6.some ?_))
   rw[abn,abh];omega
  ·refine a6.bindm (Dl G hv hk hn.1 hr (by simpa using c2) (by simpa using c3) (by simpa using c4)) fun y hy=>?_
   rw[qG ac_]
   exact a6.bind (a6.some (a6.some ac_))
 ·have h2:=hr.k2 (by simpa using c2)
  obtain⟨k,rfl⟩ : ∃ k:Nat,n=(k:Int):=⟨n.toNat,ac_⟩
  rw[Ld 1 ac_ ac_]
  refine a6.bind (a6.some (a6.seqm (R:=fun l=>(l.length:Int)=(k:Int)) ?_ fun l hl=>a6.some hl))
  refine a6.loop (fun s:Int×List UInt8=>((k:Int)-s.1).toNat) (fun s=>(0≤s.1∧s.1≤(k:Int))∧s.2.length=k) (fun s hs=>?_) _ ⟨⟨ac_,by show(0:Int)≤(k:Int);omega⟩,by simp⟩
  obtain⟨i,l⟩:=s
  simp only at hs
  obtain⟨hs,hl⟩:=hs
  show a6 (Sh.kR m a (List.replicate k 0) i l) _
  unfold Sh.kR
  refine a6.bif (fun c=>?_) fun c=>a6.some (by show(l.length:Int)=_;omega)
  simp only[aad,abu]at c
  rw[jc (x:=a+i) ac_,abB ac_,abC ac_,jc (x:=(a+i)/8) ac_]
  refine a6.bind (a6.ku ac_ (by show(a+i)/8<32;omega) fun s _=>a6.bind (a6.ku ac_ (by show(a+i)%8<8;omega) fun b _=>a6.bind (a6.get ac_ ac_ fun _ _=>a6.some ?_)))
  show((0≤IntKind.i64.wrap (i+1)∧IntKind.i64.wrap (i+1)≤(k:Int))∧(l.set i.toNat b).length=k)∧((k:Int)-IntKind.i64.wrap (i+1)).toNat<((k:Int)-i).toNat
  rw[jc (x:=i+1) ac_,abv]
  omega
theorem Qf{a n:Int}{b:Bool}(hn:0≤n∧n≤1000000000)(hr:Room m v a n):Def (Sh.pN m v a n b) :=
 a6.bindm (P7 G hk hn hv hr) fun l _=>Def.bind (VP l b) fun _=>Def.some
abbrev Left(m:ai)(N:Nat)(M:fq):Prop:=xg m.ae.sizes M.bh M.cq M.ah N∧M.ah.map List.length=m.ae.ah.map List.length
theorem xF{a:Int}{l:List UInt8}(hl:l.length≤1000000000)(h4:v.kind≠4)(hr:Room m v a (l.length:Int)):a6 (Sh.fK m v a l) fun m'=>Left m N m'.ae:=by
 have hc:m.ae.cq.length≤65535:=by have:=G.mem.cq;have:=G.env.cq;omega
 have h0:=hr.lo
 unfold Sh.fK
 refine a6.bif (fun c2=>?_) fun c2=>?_
 ·refine a6.bif (fun c=>?_) fun c3=>a6.bif (fun c=>absurd (by simpa using c) h4) fun _=>?_
  ·have k:=hr.k3 (by simpa using c)
   unfold Sh.pP
   rw[jc ac_,Dk h0 ac_ k]
   refine a6.bind (a6.bind (a6.some (a6.some ?_)))
   have e:Fx.BX m.ae.cq a (a+(l.length:Int)) l=some (put m.ae.cq a.toNat l):=by
    unfold Fx.BX
    rw[aay ⟨h0,ac_,k⟩]
   rw[e]
   exact a6.bind (a6.some (a6.some ⟨⟨G.mem.slots,by show(put m.ae.cq a.toNat l).length=N;rw[wK ac_];exact G.mem.cq,G.mem.tl,G.mem.tab⟩,rfl⟩))
  ·refine a6.bindm (Dl G hv hk ac_ hr (by simpa using c2) (by simpa using c3) h4) fun y hy=>?_
   obtain⟨k1,⟨k2,k3⟩,k4,k5⟩:=hy
   have e:Fx.BX y.1 y.2.1 (IntKind.i64.wrap (y.2.1+(l.length:Int))) l=some (put y.1 y.2.1.toNat l):=by
    rw[jc ac_]
    unfold Fx.BX
    rw[aay ⟨k2,ac_,k3⟩]
   rw[e]
   have el:(put y.1 y.2.1.toNat l).length=y.1.length:=wK ac_
   have em:(m.ae.ah.set v.table.toNat (put y.1 y.2.1.toNat l)).map List.length=m.ae.ah.map List.length:=by
    apply aa6
    intro i
    rw[abE,abE,abG]
    split
    ·rename_i h
     subst h
     rw[k5,aay (aap.1 k5).1]
     exact congrArg some el
    ·rfl
   refine a6.bind (a6.some (a6.some ⟨⟨G.mem.slots,G.mem.cq,by show(m.ae.ah.set _ _).length=_;rw[abv];exact G.mem.tl,fun i t b ht hb=>?_⟩,em⟩))
   have h1:((m.ae.ah.set v.table.toNat (put y.1 y.2.1.toNat l)).map List.length)[i]? = some b.length:=by rw[abE,hb];rfl
   rw[em,abE]at h1
   obtain⟨b',hb',hlen⟩:=aax.1 h1
   rw[←hlen]
   exact G.mem.tab i t b' ht hb'
 ·have h2:=hr.k2 (by simpa using c2)
  refine a6.loop (fun s:Vec bn 32×Int=>((l.length:Int)-s.2).toNat) (fun s=>(0≤s.2∧s.2≤(l.length:Int)) ∧ ∀ t∈s.1.l,kD m.ae.sizes t.ptr) (fun s hs=>?_) _ ⟨⟨ac_,by show(0:Int)≤_;omega⟩,G.mem.slots⟩
  obtain⟨st,i⟩:=s
  simp only at hs
  obtain⟨hs,hst⟩:=hs
  show a6 (Sh.jD m a l st i) _
  unfold Sh.jD
  refine a6.bif (fun c=>?_) fun c=>a6.some ⟨⟨hst,G.mem.cq,G.mem.tl,G.mem.tab⟩,rfl⟩
  simp only[aad]at c
  rw[jc (x:=a+i) ac_,abB ac_,jc (x:=(a+i)/8) ac_]
  refine a6.bind (a6.get hs.1 c fun x _=>a6.bind (a6.ku ac_ (by show(a+i)/8<32;omega) fun s1 _=>?_))
  refine a6.seqm (R:=fun st:Vec bn 32=>∀ t∈st.l,kD m.ae.sizes t.ptr) (a6.bif (fun _=>a6.some (jK hst kD.zero)) fun _=>a6.some hst) fun st hst=>?_
  unfold Sh.tH
  rw[jc (x:=a+i) ac_,abB ac_,abC ac_,jc (x:=(a+i)/8) ac_]
  have Eu:(a+i)/8<32:=ac_
  refine a6.bind (a6.ku ac_ Eu fun s2 k2=>a6.bind (a6.ku ac_ (by show(a+i)%8<8;omega) fun b _=>a6.bind (a6.ku ac_ Eu fun s3 k3=>a6.must (aaV ac_) (a6.bind (a6.ku ac_ Eu fun s4 k4=>a6.some ?_)))))
  have Ix:∀ t∈(st.set ((a+i)/8).toNat (bn.mk s2.ptr (s2.bytes.set ((a+i)%8).toNat x) s2.mask)).l,kD m.ae.sizes t.ptr:=jK hst (hst s2 (abj k2))
  refine⟨⟨?_,jK Ix (Ix s4 (abj k4))⟩,?_⟩
  ·show 0≤IntKind.i64.wrap (i+1)∧IntKind.i64.wrap (i+1)≤(l.length:Int)
   rw[jc ac_];omega
  ·show((l.length:Int)-IntKind.i64.wrap (i+1)).toNat<((l.length:Int)-i).toNat
   rw[jc ac_];omega
end
end Go.Sp
end
section
namespace Go.Sp
open Go Go.Fw Go.Fx Go.Proofs
abbrev ot(m:ai)(g:Vec aj 11):Prop:=∀ v∈g.l,kD m.ae.sizes v
def vt(m:ai)(s:List Int):Prop:=s=m.a7∨(m.a7.length<64 ∧ ∃ x,s=m.a7 ++ [x])
theorem KZ{sz:List gP}{v:aj}(hv:kD sz v)(x:Int):a6 (Sh.tI v x) fun r=>r.2=0→kD sz r.1:=by
 unfold Sh.tI
 refine a6.seqm (R:=fun b=>b=false → -1048576≤IntKind.i64.wrap (v.x+x)∧IntKind.i64.wrap (v.x+x)≤1048576) (a6.bif (fun _=>a6.some (by simp)) fun _=>a6.bif (fun _=>a6.some (by simp)) fun _=>a6.bif (fun _=>a6.some (by simp)) fun c=>a6.some ?_) fun b hb=>?_
 ·intro h;simp only[aat]at *; omega
 unfold Sh.yJ
 refine a6.bif (fun _=>a6.some (by simp)) fun c=>a6.some fun _=>⟨fun _=>hb c,hv.tab⟩
theorem O8(a b:aj):Def (Sh.wS a b):=by
 unfold Sh.wS
 refine Def.seq ?_ fun _=>Def.some
 repeat' first|exact Def.some|apply Def.bif
theorem Xi{sz:List gP}{a b:aj}(ha:kD sz a)(hb:kD sz b)(op:Int):a6 (Sh.Ek op a b) fun r=>r.2=0→kD sz r.1:=by
 unfold Sh.Ek
 refine a6.seqm (R:=fun _=>True) (a6.bif (fun _=>a6.bind (a6.some (a6.bif (fun _=>a6.bind (a6.some (a6.some trivial))) fun _=>a6.some trivial))) fun _=>a6.some trivial) fun v _=>a6.bif (fun _=>a6.bindm (KZ ha _) fun r h=>a6.some h) fun _=>?_
 refine a6.seqm (R:=fun _=>True) (a6.bif (fun _=>a6.bind (a6.some (a6.bif (fun _=>a6.bind (a6.some (a6.some trivial))) fun _=>a6.some trivial))) fun _=>a6.some trivial) fun v _=>a6.bif (fun _=>a6.bindm (KZ hb _) fun r h=>a6.some h) fun _=>?_
 refine a6.seqm (R:=fun _=>True) (a6.bif (fun _=>a6.bind (a6.some (a6.bif (fun _=>a6.bind (a6.some (a6.some trivial))) fun _=>a6.some trivial))) fun _=>a6.some trivial) fun v _=>a6.bif (fun _=>a6.bif (fun _=>a6.some (by simp)) fun _=>a6.bindm (KZ ha _) fun r h=>a6.some h) fun _=>?_
 refine a6.seqm (R:=fun _=>True) (a6.bif (fun _=>a6.bindm (O8 _ _) fun _ _=>a6.some trivial) fun _=>a6.some trivial) fun v _=>a6.bif (fun _=>a6.bind (a6.some (a6.some fun _=>kD.number _))) fun _=>a6.some (by simp)
section
variable {m:ai}{N:Nat}(G:xm m N){i:bg}(F:Form i)
include G F
theorem fP{P:aj→Prop}{k:Int}(h0:0≤k)(h1:k≤10)(h:∀ v,m.a8.l[k.toNat]? = some v→kD m.ae.sizes v→P v):a6 (Fx.get m.a8.l k) P:=by
 have _:=F
 exact a6.ku h0 (by show k<11;omega) fun v hv=>h v hv (G.a8 v (abj hv))
theorem nE{k:Nat}{v:aj}(h:kD m.ae.sizes v):ot m (m.a8.set k v):=by
 have _:=F
 exact jK G.a8 h
theorem yF:a6 (Sh.fO m i) fun v=>kD m.ae.sizes v:=by
 unfold Sh.fO
 exact a6.bif (fun _=>a6.bind (fP G F F.src.1 F.src.2 fun v _ h=>a6.some h)) fun _=>a6.bind (a6.some (a6.some (kD.number _)))
theorem uQ:a6 (Sh.cH m i) fun r=>ot m r.2.2.a8:=by
 have tu:∀ {P:aj→Prop},(∀ v,m.a8.l[i.dst.toNat]? = some v→kD m.ae.sizes v→P v)→a6 (Fx.get m.a8.l i.dst) P:=fun h=>fP G F F.dst.1 F.dst.2 h
 have wR:∀ {v:aj},kD m.ae.sizes v→ot m (m.a8.set i.dst.toNat v):=fun h=>nE G F h
 unfold Sh.cH
 refine a6.seqm (R:=fun v=>kD m.ae.sizes v.1∧kD m.ae.sizes v.2) (a6.bind (tu fun v _ h=>a6.bindm (yF G F) fun w hw=>a6.some ⟨h,hw⟩)) fun v hv=>?_
 obtain⟨a,b⟩:=v
 obtain⟨ha,hb⟩:=hv
 refine a6.seqm (R:=fun v=>kD m.ae.sizes v) (a6.bif (fun _=>a6.bind (a6.some (a6.some (kD.number _)))) fun _=>a6.some hb) fun b hb=>?_
 refine a6.seqm (R:=fun v=>kD m.ae.sizes v) (a6.bif (fun _=>?_) fun _=>a6.some ha) fun a ha=>?_
 ·refine a6.seqm (R:=fun _=>True) (a6.bif (fun _=>a6.some trivial) fun _=>a6.some trivial) fun v _=>a6.bif (fun _=>a6.bind (tu fun _ _ _=>a6.some (wR hb))) fun _=>a6.bind (a6.some (a6.some (kD.number _)))
 refine a6.seqm (R:=fun _=>True) (a6.bind (a6.some (a6.bif (fun _=>a6.bind (a6.some (a6.some trivial))) fun _=>a6.some trivial))) fun v _=>a6.bif (fun _=>?_) fun _=>?_
 ·exact a6.bindm (VW _ _ _ _) fun y _=>a6.seqm (R:=fun g=>ot m g) (a6.bif (fun _=>a6.bind (a6.some (a6.bind (tu fun _ _ _=>a6.some (wR (kD.number _)))))) fun _=>a6.some G.a8) fun g hg=>a6.some hg
 ·refine a6.seqm (R:=fun _=>True) (a6.bif (fun _=>a6.some trivial) fun _=>a6.bif (fun _=>a6.some trivial) fun _=>a6.some trivial) fun v _=>a6.bif (fun _=>a6.some G.a8) fun _=>?_
  refine a6.bindm (Xi ha hb _) fun y hy=>a6.seqm (R:=fun g=>ot m g) (a6.bif (fun c=>a6.bind (tu fun _ _ _=>a6.some (wR (hy (by simpa using c))))) fun _=>a6.some G.a8) fun g hg=>a6.some hg
theorem nD:a6 (Sh.jW m i) fun r=>ot m r.2.2.a8:=by
 unfold Sh.jW
 refine a6.bind (fP G F F.dst.1 F.dst.2 fun a _ _=>a6.seqm (R:=fun _=>True) (a6.bif (fun _=>a6.bind (fP G F F.src.1 F.src.2 fun _ _ _=>a6.some trivial)) fun _=>a6.some trivial) fun v _=>?_)
 refine a6.seqm (R:=fun g=>ot m g) (a6.bind (a6.some (a6.bif (fun _=>a6.some G.a8) fun _=>a6.bif (fun _=>?_) fun _=>?_))) fun g hg=>a6.some hg
 ·exact a6.bindm (Tc _ _ _) fun _ _=>a6.bind (a6.some (a6.bind (fP G F F.dst.1 F.dst.2 fun _ _ _=>a6.some (nE G F (kD.number _)))))
 ·exact a6.bindm (VE _ _ _) fun _ _=>a6.bind (a6.some (a6.bind (fP G F F.dst.1 F.dst.2 fun _ _ _=>a6.some (nE G F (kD.number _)))))
theorem yV(hd:i.op=21→i.jN≤(m.ae.data.length:Int)):a6 (Sh.eJ m i) fun r=>ot m r.2.2.a8:=by
 unfold Sh.eJ
 refine a6.bind (a6.some (a6.bind (fP G F F.dst.1 F.dst.2 fun a ka _=>a6.seqm (R:=fun g=>ot m g) (a6.bif (fun c=>?_) fun _=>a6.some (nE G F (kD.number _))) fun g hg=>a6.some hg)))
 have k:i.op=21:=by simpa using c
 have h1:=hd k
 have h2:=F.jN k
 have h3:=G.env.data
 have EL:=F.dst
 refine a6.bind (a6.ku EL.1 (by show i.dst<11;omega) fun x hx=>a6.some (jK (nE G F (kD.number _)) ⟨fun _=>?_,fun h=>?_⟩))
 ·have hlen:i.dst.toNat<m.a8.l.length:=by rw[m.a8.h];omega
  have e:(m.a8.set i.dst.toNat (aj.mk 1 0 0 i.jN)).l[i.dst.toNat]? = some (aj.mk 1 0 0 i.jN):=by
   show(m.a8.l.set i.dst.toNat _)[i.dst.toNat]? = _
   rw[abG,aay rfl,aay hlen]
  have e2:some x=some (aj.mk 1 0 0 i.jN):=hx.symm.trans e
  obtain rfl:=ac8 e2
  show -1048576≤i.jN∧i.jN≤1048576
  omega
 ·exact absurd (show(5:Int)≤4 from h) ac_
theorem Es{v:aj}(hv:kD m.ae.sizes v)(hk:2≤v.kind):IntKind.i64.wrap (v.x+i.off)=v.x+i.off∧v.x+i.off≤1000000000000:=by
 have _:=G
 have:=hv.near hk
 have:=F.off
 exact⟨jc ac_,ac_⟩
theorem PT(ho:22≤i.op∧i.op≤25):a6 (Sh.jV m i) fun r=>ot m r.2.2.a8:=by
 have hs:=F.size ho.1 ho.2
 unfold Sh.jV
 refine a6.bind (fP G F F.src.1 F.src.2 fun v _ hv=>a6.bind (a6.some (a6.bif (fun _=>a6.some G.a8) fun c=>?_)))
 have hk:2≤v.kind:=by simpa using c
 obtain⟨e,hn⟩:=Es G F hv hk
 rw[e]
 refine a6.bindm (uB G hv hk hn ⟨ac_,ac_⟩) fun b hb=>a6.bif (fun _=>a6.some G.a8) fun cb=>?_
 have R:=hb (by simpa using cb)
 have h0:=R.lo
 have slot:v.kind=2→i.size=8 → ∀ {P:bn→Prop},(∀ s,kD m.ae.sizes s.ptr→P s)→a6 (Fx.get m.ae.bh.l (IntKind.i64.wrap (Int.tdiv (v.x+i.off) 8))) P:=fun k1 k2 P h=>by
  have:=R.k2 k1
  rw[abB h0,jc ac_]
  exact a6.ku ac_ (by show(v.x+i.off)/8<32;omega) fun s hs=>h s (G.mem.slots s (abj hs))
 refine a6.seqm (R:=fun b=>b=true→v.kind=2∧i.size=8) (a6.bif (fun c1=>a6.bif (fun _=>a6.bif (fun c2=>a6.bif (fun _=>?_) fun _=>a6.some (by simp)) fun _=>a6.some (by simp)) fun _=>a6.some (by simp)) fun _=>a6.some (by simp)) fun b hb=>?_
 ·have k1:v.kind=2:=by simpa using c1
  have k2:i.size=8:=by simpa using c2
  exact a6.bind (slot k1 k2 fun s _=>a6.bind (a6.some (a6.some fun _=>⟨k1,k2⟩)))
 unfold Sh.nI
 rw[e]
 refine a6.bif (fun c=>?_) fun c=>?_
 ·obtain⟨k1,k2⟩:=hb c
  exact a6.bind (slot k1 k2 fun s hs=>a6.bind (fP G F F.dst.1 F.dst.2 fun _ _ _=>a6.some (nE G F hs)))
 ·refine a6.bindm (sI ac_ R) fun y _=>a6.seqm (R:=fun g=>ot m g) (a6.bif (fun _=>?_) fun _=>a6.some G.a8) fun g hg=>a6.some hg
  exact a6.bindm (Qf G hv hk ⟨ac_,ac_⟩ R) fun _ _=>a6.bind (a6.some (a6.bind (fP G F F.dst.1 F.dst.2 fun _ _ _=>a6.some (nE G F (kD.number _)))))
theorem pB:Left m N m.ae:=by
 have _:=F
 exact⟨G.mem,rfl⟩
theorem PD(ho:22≤i.op∧i.op≤25):a6 (Sh.iK m i) fun r=>Left m N r.2.2.ae:=by
 have hs:=F.size ho.1 ho.2
 unfold Sh.iK
 refine a6.seqm (R:=fun v=>kD m.ae.sizes v.1∧kD m.ae.sizes v.2) (a6.bind (fP G F F.dst.1 F.dst.2 fun v _ h=>a6.bindm (yF G F) fun w hw=>a6.some ⟨h,hw⟩)) fun v hv=>?_
 obtain⟨a,b⟩:=v
 obtain⟨ha,hb⟩:=hv
 simp only at ha hb
 refine a6.seqm (R:=fun v=>v=false→2≤a.kind) (a6.bind (a6.some (a6.bif (fun _=>a6.some (by simp)) fun c=>a6.some fun _=>by simpa using c))) fun v hv=>?_
 unfold Sh.lS
 refine a6.bif (fun _=>a6.some (pB G F)) fun c=>a6.bif (fun _=>a6.some (pB G F)) fun c4=>?_
 have hk:=hv c
 have h4:a.kind≠4:=by simpa using c4
 obtain⟨e,hn⟩:=Es G F ha hk
 rw[e]
 refine a6.bindm (uB G ha hk hn ⟨ac_,ac_⟩) fun b' hb'=>a6.bif (fun _=>a6.some (pB G F)) fun cb=>?_
 have R:=hb' (by simpa using cb)
 have h0:=R.lo
 refine a6.bind (a6.some (a6.bif (fun _=>?_) fun _=>?_))
 ·refine a6.bindm (P5 _ hs.1 hs.2) fun l hl=>a6.bindm (xF G ha hk ac_ h4 (by rw[hl];exact R)) fun m' hm=>a6.some hm
 ·refine a6.seqm (R:=fun b=>b=false→a.kind=2∧i.size=8) (a6.bif (fun _=>a6.some (by simp)) fun c1=>a6.bif (fun _=>a6.some (by simp)) fun c2=>a6.some fun _=>⟨by simpa using c1,by simpa using c2⟩) fun v hv=>?_
  unfold Sh.lT
  rw[e]
  refine a6.bif (fun _=>a6.some (pB G F)) fun c=>?_
  obtain⟨k1,k2⟩:=hv c
  have:=R.k2 k1
  rw[abB h0,jc ac_]
  exact a6.bind (a6.ku ac_ (by show(a.x+i.off)/8<32;omega) fun s _=>a6.some ⟨⟨jK G.mem.slots hb,G.mem.cq,G.mem.tl,G.mem.tab⟩,rfl⟩)
theorem Uo(x:Int):Def (Sh.lD m i x):=by
 unfold Sh.lD
 refine a6.bind (fP G F F.src.1 F.src.2 fun v _ hv=>?_)
 refine Def.bif Def.some (Def.bif Def.some (Def.bif Def.some (Def.bif Def.some (a6.bind (fP G F ac_ ac_ fun _ _ _=>Def.seq (Def.bif Def.some Def.some) fun _=>Def.seq (Def.bif Def.some Def.some) fun _=>Def.bif Def.some Def.some)))))
theorem Hn(ho:22≤i.op∧i.op≤25):a6 (Sh.jT m i) fun r=>ot m r.2.2.a8∧Left m N r.2.2.ae:=by
 have hs:=F.size ho.1 ho.2
 have same:ot m m.a8∧Left m N m.ae:=⟨G.a8,pB G F⟩
 unfold Sh.jT
 refine a6.bind (fP G F F.dst.1 F.dst.2 fun a _ ha=>?_)
 refine a6.seqm (R:=fun v=>v=false→2≤a.kind) (a6.bind (a6.some (a6.bif (fun _=>a6.some (by simp)) fun c=>?_))) fun v hv=>?_
 ·have hk:2≤a.kind:=by simpa using c
  exact a6.bind (fP G F F.src.1 F.src.2 fun _ _ _=>a6.bind (a6.some (a6.bif (fun _=>a6.some (by simp)) fun _=>a6.bif (fun _=>a6.bind (fP G F ac_ ac_ fun _ _ _=>a6.bind (a6.some (a6.some fun _=>hk)))) fun _=>a6.some fun _=>hk)))
 unfold Sh.nF
 refine a6.bif (fun _=>a6.some same) fun c=>a6.bif (fun _=>a6.some same) fun c4=>?_
 have hk:=hv c
 have h4:a.kind≠4:=by simpa using c4
 obtain⟨e,hn⟩:=Es G F ha hk
 rw[e]
 refine a6.bindm (uB G ha hk hn ⟨ac_,ac_⟩) fun b' hb'=>a6.bif (fun _=>a6.some same) fun cb=>?_
 have R:=hb' (by simpa using cb)
 refine a6.bindm (sI ac_ R) fun y _=>a6.bif (fun _=>a6.some same) fun _=>a6.bindm (Qf G ha hk ⟨ac_,ac_⟩ R) fun x _=>a6.bindm (Uo G F x) fun z _=>?_
 refine a6.bindm (P5 _ hs.1 hs.2) fun l hl=>a6.bindm (xF G ha hk ac_ h4 (by rw[hl];exact R)) fun m' hm=>?_
 refine a6.seqm (R:=fun g=>ot m g) (a6.bif (fun _=>a6.bind (a6.some (a6.bind (fP G F ac_ ac_ fun _ _ _=>a6.some (nE G F (kD.number _)))))) fun _=>a6.bif (fun _=>a6.bind (a6.some (a6.bind (fP G F F.src.1 F.src.2 fun _ _ _=>a6.some (nE G F (kD.number _)))))) fun _=>a6.some G.a8) fun g hg=>a6.some ⟨hg,hm⟩
theorem Pn:Def (Sh.jU m i):=by
 have _:=G
 have _:=F
 unfold Sh.jU;exact Def.bif Def.some Def.some
theorem OO:Def (Sh.hK m i):=by
 unfold Sh.hK
 refine a6.seqm (R:=fun _=>True) (a6.bind (fP G F F.dst.1 F.dst.2 fun v _ h=>a6.bindm (yF G F) fun w hw=>a6.some trivial)) fun v _=>?_
 obtain⟨a,b⟩:=v
 refine Def.seq (Def.seq (Def.bind Def.some fun _=>Def.bif (Def.bind Def.some fun _=>Def.some) Def.some) fun _=>Def.bif (Def.bind (O4 _ _ _ _) fun _=>Def.some) (Def.seq (Def.bif Def.some (Def.bif Def.some Def.some)) fun _=>Def.bif Def.some (Def.seq (Def.bind (O8 _ _) fun _=>Def.bif Def.some Def.some) fun _ =>
  Def.bif (Def.seq (Def.seq (Def.bif Def.some Def.some) fun _=>Def.bif Def.some Def.some) fun _=>Def.bind (O4 _ _ _ _) fun _=>Def.some) (Def.seq ?_ fun _=>Def.bif Def.some Def.some)))) fun _=>Def.bif Def.some Def.some
 repeat' first|exact Def.some|apply Def.bif
theorem O5:Def (Sh.eP m i):=by
 unfold Sh.eP
 exact a6.bind (fP G F ac_ ac_ fun _ _ _=>a6.bind (a6.some (Def.bif Def.some Def.some)))
end
end Go.Sp
end
section
namespace Go.Sp
open Go Go.Fw Go.Fx Go.Proofs
structure Asks(l:List Int):Prop where
 len:l.length=5
 len2:∀ j:Nat,j<5→(l[j]? = some 2∨l[j]? = some 3) → ∃ k:Nat,j<k∧k<5∧l[k]? = some 4
structure Piece(m:ai)(p:aj)(n:Int)(wr:Prop):Prop where
 ptr:2≤p.kind
 ok:kD m.ae.sizes p
 room:Room m p p.x n
 few:0≤n∧n≤65535
 wr:wr→p.kind≠4
def Handed(m:ai)(l:List Int)(v:Vec Int 6)(j:Nat):Prop :=
 (l[j]? = some 2∨l[j]? = some 3) → ∃ p q,m.a8.l[j+1]? = some p∧(∃ k:Nat,k<5∧l[k]? = some 4∧m.a8.l[k+1]? = some q)∧v.l[j+1]? = some q.x∧Piece m p q.x (l[j]? = some 3)
section
variable {m:ai}{N:Nat}(G:xm m N)
include G
theorem qS{P:aj→Prop}{k:Int}(h0:0≤k)(h1:k≤10)(h:∀ v,m.a8.l[k.toNat]? = some v→kD m.ae.sizes v→P v):a6 (Fx.get m.a8.l k) P :=
 a6.ku h0 (by show k<11;omega) fun v hv=>h v hv (G.a8 v (abj hv))
theorem UM{l:List Int}(hl:Asks l):a6 (Sh.gD m l) fun r=>r.2=true → ∀ j,j<5→Handed m l r.1 j:=by
 unfold Sh.gD
 refine a6.seqm (R:=fun _=>∀ (j:Nat) p,j<5→l[j]? = some 4→m.a8.l[j+1]? = some p→0≤p.x∧p.x≤65535) ?_ fun _ M7=>?_
 ·refine a6.loop (fun s:Int=>5-s.toNat) (fun s=>(0≤s∧s≤5) ∧ ∀ (j:Nat) p,(j:Int)<s→l[j]? = some 4→m.a8.l[j+1]? = some p→0≤p.x∧p.x≤65535) (fun s hs=>?_) 0 ⟨ac_,fun j p h=>by omega⟩
  obtain⟨hs,hI⟩:=hs
  show a6 (Sh.cD m l s) _
  unfold Sh.cD
  rw[hl.len]
  refine a6.bif (fun c=>?_) fun c=>a6.some fun j p h=>hI j p (by simp only[aat]at c;omega)
  simp only[aad]at c
  rw[jc (x:=s+1) ac_]
  refine a6.bind (a6.get hs.1 (by rw[hl.len];exact c) fun a ha=>a6.bind (qS G ac_ ac_ fun p hp hv=>?_))
  refine a6.seqm (R:=fun b=>b=false→a=4→0≤p.x∧p.x≤65535) (a6.bif (fun c1=>?_) fun c1=>a6.bif (fun _=>?_) fun c2=>a6.some fun _ k=>?_) fun b hb=>?_
  ·simp only[aad]at c1
   exact a6.bind (a6.some (a6.bif (fun _=>a6.some fun _ k=>by omega) fun _=>a6.bif (fun _=>a6.bif (fun _=>a6.some fun _ k=>by omega) fun _=>a6.some fun _ k=>by omega) fun _=>a6.some fun _ k=>by omega))
  ·refine a6.bind (a6.some (a6.bif (fun _=>a6.some (by simp)) fun _=>a6.bif (fun _=>a6.some (by simp)) fun c3=>a6.some fun h _=>?_))
   simp only[aat]at c3 h;omega
  ·simp only[aat]at c2;exact absurd k c2
  ·unfold Sh.lO
   rw[jc (x:=s+1) ac_]
   refine a6.bif (fun _=>a6.some (by simp)) fun cb=>a6.some ⟨⟨ac_,fun j q hj h4 hq=>?_⟩,by show 5-(s+1).toNat<5-s.toNat;omega⟩
   by_cases e:(j:Int)<s
   ·exact hI j q e h4 hq
   ·have ej:j=s.toNat:=ac_
    subst ej
    rw[ha]at h4
    rw[show s.toNat+1=(s+1).toNat by omega,hp]at hq
    cases hq
    exact hb cb (ac8 h4)
 ·unfold Sh.fV
  refine a6.seqm (R:=fun v=>∀ j,j<5→Handed m l v j) ?_ fun v hv=>a6.some fun _=>hv
  refine a6.loop (fun s:Vec Int 6×Int=>5-s.2.toNat) (fun s=>(0≤s.2∧s.2≤5) ∧ ∀ j:Nat,(j:Int)<s.2→Handed m l s.1 j) (fun s hs=>?_) _ ⟨by show(0:Int)≤0∧(0:Int)≤5;omega,fun j h=>by have:(j:Int)<0:=h;omega⟩
  obtain⟨v,s⟩:=s
  obtain⟨hs,hI⟩:=hs
  simp only at hs hI
  show a6 (Sh.iJ m l v s) _
  unfold Sh.iJ
  rw[hl.len]
  refine a6.bif (fun c=>?_) fun c=>a6.some fun j h=>hI j (by simp only[aat]at c;omega)
  simp only[aad]at c
  refine a6.seqm (R:=fun u:Vec Int 6=>∀ j:Nat,(j:Int)<s+1→Handed m l u j) (a6.bind (a6.get hs.1 (by rw[hl.len];exact c) fun a ha=>?_)) fun u hu=>?_
  ·refine a6.seqm (R:=fun b=>(b=true→a≠2∧a≠3)∧(b=false→a=2∨a=3)) (a6.bif (fun c1=>a6.some ?_) fun c1=>a6.some ?_) fun b hb=>?_
   ·simp only[aar,aat,aad,abx]at *; omega
   ·simp only[aar,aat,aad,abx]at *
    exact⟨fun h=>(by cases h),fun _=>.inl c1⟩
   have old:∀ u:Vec Int 6,(∀ j:Nat,(j:Int)<s→u.l[j+1]? = v.l[j+1]?)→Handed m l u s.toNat → ∀ j:Nat,(j:Int)<s+1→Handed m l u j:=fun u h1 h2 j hj=>by
    by_cases e:(j:Int)<s
    ·intro h
     obtain⟨p,q,k1,k2,k3,k4⟩:=hI j e h
     exact⟨p,q,k1,k2,(h1 j e).trans k3,k4⟩
    ·have ej:j=s.toNat:=ac_
     rw[ej];exact h2
   unfold Sh.lP
   refine a6.bif (fun cb=>a6.some (old v (fun _ _=>rfl) fun h=>?_)) fun cb=>?_
   ·have:=hb.1 cb
    rw[ha]at h
    rcases h with h|h<;>have:=ac8 h<;>omega
   have h23:=hb.2 cb
   obtain⟨K,hK1,hK2,YB⟩:=hl.len2 s.toNat ac_ (by rw[ha];rcases h23 with rfl|rfl<;>simp)
   rw[jc (x:=s+1) ac_]
   refine a6.seqm (R:=fun k:Int=>(0≤k∧k<5)∧l[k.toNat]? = some 4) ?_ fun k hk=>?_
   ·refine a6.loop (fun t:Int=>((K:Int)-t).toNat) (fun t=>s+1≤t∧t≤(K:Int)) (fun t ht=>?_) _ ⟨ac_,ac_⟩
    show a6 (Sh.lR l t) _
    unfold Sh.lR
    refine a6.bind (a6.get ac_ (by rw[hl.len];omega) fun b hb'=>a6.bif (fun c4=>a6.some ?_) fun c4=>a6.some ?_)
    ·have ne:t≠(K:Int):=fun e=>by
      rw[e,abe,YB]at hb'
      have:=ac8 hb'
      simp only[aar,aat]at c4
      exact c4 this.symm
     show(s+1≤IntKind.i64.wrap (t+1)∧IntKind.i64.wrap (t+1)≤(K:Int))∧((K:Int)-IntKind.i64.wrap (t+1)).toNat<((K:Int)-t).toNat
     rw[jc ac_];omega
    ·simp only[abx,aad]at c4
     exact⟨⟨ac_,ac_⟩,by rw[hb',c4]⟩
   unfold Sh.lQ
   rw[jc (x:=s+1) ac_,jc (x:=k+1) ac_]
   refine a6.bind (qS G ac_ ac_ fun p hp hv=>a6.bind (qS G ac_ ac_ fun q hq hqv=>a6.bind (a6.ku ac_ (by show s+1<6;omega) fun _ _=>?_)))
   have hx:=M7 k.toNat q ac_ hk.2 (by rw[show k.toNat+1=(k+1).toNat by omega];exact hq)
   refine a6.seqm (R:=fun b=>b=false→2≤p.kind∧Room m p p.x q.x) (a6.bind (a6.some (a6.bif (fun _=>a6.some (by simp)) fun c1=>?_))) fun b hb=>?_
   ·have hkk:2≤p.kind:=by simpa using c1
    have:=hv.near hkk
    exact a6.bindm (uB G hv hkk ac_ ⟨ac_,ac_⟩) fun b hb=>a6.some fun h=>⟨hkk,hb (by simpa using h)⟩
   unfold Sh.kW
   rw[jc (x:=s+1) ac_]
   refine a6.bif (fun _=>a6.some (by simp)) fun cb=>?_
   obtain⟨hkk,R⟩:=hb cb
   have oe:∀ j:Nat,(j:Int)<s→(v.set (s+1).toNat q.x).l[j+1]? = v.l[j+1]?:=fun j hj=>by
    show(v.l.set (s+1).toNat q.x)[j+1]? = _
    rw[abG,aaz ac_]
   have hnew:(v.set (s+1).toNat q.x).l[s.toNat+1]? = some q.x:=by
    show(v.l.set (s+1).toNat q.x)[s.toNat+1]? = _
    rw[abG,aay ac_,aay (by rw[v.h];omega)]
   have QV:∃ k:Nat,k<5∧l[k]? = some 4∧m.a8.l[k+1]? = some q:=⟨k.toNat,ac_,hk.2,by rw[show k.toNat+1=(k+1).toNat by omega];exact hq⟩
   have QT:m.a8.l[s.toNat+1]? = some p:=by rw[show s.toNat+1=(s+1).toNat by omega];exact hp
   refine a6.bif (fun c3=>a6.bif (fun _=>a6.some (by simp)) fun c4=>a6.some (old _ oe fun _=>⟨p,q,QT,QV,hnew,hkk,hv,R,hx,fun _=>by simpa using c4⟩)) fun c3=>?_
   refine a6.bindm (sI hx.1 R) fun y _=>a6.bif (fun _=>a6.some (by simp)) fun _=>a6.some (old _ oe fun _=>⟨p,q,QT,QV,hnew,hkk,hv,R,hx,fun h=>?_⟩)
   rw[ha]at h
   simp only[aat]at c3
   exact absurd (ac8 h) c3
  ·unfold Sh.rB
   refine a6.some ⟨⟨?_,fun j hj=>hu j ?_⟩,?_⟩
   ·show 0≤IntKind.i64.wrap (s+1)∧IntKind.i64.wrap (s+1)≤5
    rw[jc ac_];omega
   ·have:(j:Int)<IntKind.i64.wrap (s+1):=hj
    rw[jc ac_]at this;exact this
   ·show 5-(IntKind.i64.wrap (s+1)).toNat<5-s.toNat
    rw[jc ac_];omega
end
theorem U5(l:List UInt8)(hl:l.length≤1000000000)(x:Int):Def (Sh.aGm l x):=by
 unfold Sh.aGm
 refine Def.seq ?_ fun _=>Def.some
 refine a6.loop (fun s:Int×Int=>((l.length:Int)-s.2).toNat) (fun s=>0≤s.2∧s.2≤2000000000) (fun s hs=>?_) _ ⟨by show(0:Int)≤0;omega,by show(0:Int)≤2000000000;omega⟩
 obtain⟨a,i⟩:=s
 simp only at hs
 show a6 (Sh.xX l a i) _
 unfold Sh.xX
 refine a6.bif (fun c=>?_) fun c=>a6.some trivial
 simp only[aad]at c
 rw[jc (x:=i+1) ac_]
 refine a6.seqm (R:=fun _=>True) (a6.bind (a6.get hs.1 c fun _ _=>a6.seqm (R:=fun _=>True) (a6.bif (fun c1=>a6.bind (a6.get ac_ (by simpa using c1) fun _ _=>a6.some trivial)) fun _=>a6.some trivial) fun v _=>?_)) fun v _=>a6.some ?_
 ·unfold Sh.Eb
  exact a6.bif (fun _=>a6.some trivial) fun _=>a6.some trivial
 ·show(0≤IntKind.i64.wrap (i+2)∧IntKind.i64.wrap (i+2)≤2000000000)∧((l.length:Int)-IntKind.i64.wrap (i+2)).toNat<((l.length:Int)-i).toNat
  rw[jc ac_];omega
end Go.Sp
end
section
namespace Go.Sp
open Go Go.Fw Go.Fx Go.Proofs
theorem Dm:Asks [2,4,1,0,0]:=⟨rfl,fun j hj h=>by
 match j,hj with
 | 0,_=>exact⟨1,by decide,by decide,rfl⟩
 | 1,_=>simp at h
 | 2,_=>simp at h
 | 3,_=>simp at h
 | 4,_=>simp at h⟩
theorem Hr:Asks [3,2,4,0,0]:=⟨rfl,fun j hj h=>by
 match j,hj with
 | 0,_=>exact⟨2,by decide,by decide,rfl⟩
 | 1,_=>exact⟨2,by decide,by decide,rfl⟩
 | 2,_=>simp at h
 | 3,_=>simp at h
 | 4,_=>simp at h⟩
theorem Ht:Asks [3,1,4,0,0]:=⟨rfl,fun j hj h=>by
 match j,hj with
 | 0,_=>exact⟨2,by decide,by decide,rfl⟩
 | 1,_=>simp at h
 | 2,_=>simp at h
 | 3,_=>simp at h
 | 4,_=>simp at h⟩
theorem Hu:Asks [2,2,4,0,0]:=⟨rfl,fun j hj h=>by
 match j,hj with
 | 0,_=>exact⟨2,by decide,by decide,rfl⟩
 | 1,_=>exact⟨2,by decide,by decide,rfl⟩
 | 2,_=>simp at h
 | 3,_=>simp at h
 | 4,_=>simp at h⟩
theorem Hv:Asks [1,0,0,0,0]:=⟨rfl,fun j hj h=>by
 match j,hj with
 | 0,_=>simp at h
 | 1,_=>simp at h
 | 2,_=>simp at h
 | 3,_=>simp at h
 | 4,_=>simp at h⟩
theorem Dn:Asks [1,1,0,0,0]:=⟨rfl,fun j hj h=>by
 match j,hj with
 | 0,_=>simp at h
 | 1,_=>simp at h
 | 2,_=>simp at h
 | 3,_=>simp at h
 | 4,_=>simp at h⟩
def yx(x:Int):List Int :=
 if x=1 then [2,4,1,0,0]else if x=2 then [3,2,4,0,0]else if x=3 then [3,1,4,0,0]else if x=4 then [2,2,4,0,0]else if x=5 then [2,4,1,0,0]else if x=6 then [1,0,0,0,0]else [1,1,0,0,0]
theorem Xd(x:Int):a6 (Sh.sO x) fun r=>r.2=true→r.1.args=yx x∧Asks (yx x):=by
 unfold Sh.sO yx
 refine a6.bif (fun c=>?_) fun c1=>a6.bif (fun c=>?_) fun c2=>a6.bif (fun c=>?_) fun c3=>a6.bif (fun c=>?_) fun c4=>a6.bif (fun c=>?_) fun c5=>a6.bif (fun c=>?_) fun c6=>a6.bif (fun c=>?_) fun c7=>a6.bif (fun c=>?_) fun c8=>a6.some (by simp)
 all_goals simp only[aad]at c
 all_goals subst c
 ·exact a6.some fun _=>⟨rfl,Dm⟩
 ·exact a6.some fun _=>⟨rfl,Hr⟩
 ·exact a6.some fun _=>⟨rfl,Ht⟩
 ·exact a6.some fun _=>⟨rfl,Hu⟩
 ·exact a6.some fun _=>⟨rfl,Dm⟩
 ·exact a6.some fun _=>⟨rfl,Hv⟩
 ·exact a6.some fun _=>⟨rfl,Dn⟩
 ·exact a6.some fun _=>⟨rfl,Dn⟩
section
variable {m:ai}{N:Nat}(G:xm m N)
include G
theorem rN{r:Int}(h0:0≤r)(h1:r≤10){p:aj}{n:Int}{wr:Prop}(hp:m.a8.l[r.toNat]? = some p)(P:Piece m p n wr):a6 (Sh.dH m r n) fun l=>(l.length:Int)=n:=by
 have e:Fx.get m.a8.l r=some p:=by unfold Fx.get;rw[aay h0,hp]
 unfold Sh.dH
 rw[e]
 have:=P.few
 exact a6.bind (a6.some (a6.bind (a6.some (a6.bindm (P7 G P.ptr ⟨ac_,ac_⟩ P.ok P.room) fun l hl=>a6.some hl))))
structure Db(m:ai)(N:Nat)(v0:aj)(st:Vec bn 32)(cx:List UInt8)(tb:List (List UInt8))(sn:List Int):Prop where
 val:kD m.ae.sizes v0
 mem:xg m.ae.sizes st cx tb N
 tabs:tb.map List.length=m.ae.ah.map List.length
 a7:vt m sn
theorem P0{i:bg}:a6 (Sh.fJ m i) fun r=>ot m r.2.2.a8∧Left m N r.2.2.ae∧vt m r.2.2.a7:=by
 have same:ot m m.a8∧Left m N m.ae∧vt m m.a7:=⟨G.a8,⟨G.mem,rfl⟩,.inl rfl⟩
 have keep:∀ {v0:aj},kD m.ae.sizes v0→Db m N v0 m.ae.bh m.ae.cq m.ae.ah m.a7:=fun h=>⟨h,G.mem,rfl,.inl rfl⟩
 unfold Sh.fJ
 refine a6.bindm (Xd i.jN) fun sg Y1=>a6.bif (fun _=>a6.some same) fun c1=>?_
 obtain⟨ea,hA⟩:=Y1 (by simpa using c1)
 rw[ea]
 refine a6.bindm (UM G hA) fun q hq=>a6.bif (fun _=>a6.some same) fun c2=>a6.bind (a6.some ?_)
 have H:=hq (by simpa using c2)
 refine a6.bind (qS G ac_ ac_ fun r1 h1 ok1=>a6.bind (qS G ac_ ac_ fun r2 h2 ok2=>a6.bind (qS G ac_ ac_ fun r3 h3 ok3=>?_)))
 have z_:∀ {k:Nat} {n:Int} {P:Int→Prop},k<6→q.1.l[k]? = some n→P n→a6 (Fx.get q.1.l (k:Int)) P:=fun {k n P} hk h hP=>a6.ku ac_ ac_ fun x hx=>by
  rw[abe,h]at hx;cases hx;exact hP
 have num:∀ x:Int,kD m.ae.sizes (aj.mk 1 0 0 x):=fun x=>kD.number x
 refine a6.seqm (R:=fun v=>Db m N v.1 v.2.1 v.2.2.1 v.2.2.2.1 v.2.2.2.2) ?_ fun v hv=>?_
 ·refine a6.bif (fun c=>?_) fun _=>a6.bif (fun c=>?_) fun _=>a6.bif (fun c=>?_) fun _=>a6.bif (fun c=>?_) fun _=>a6.bif (fun c=>?_) fun _=>a6.bif (fun c=>?_) fun _=>a6.bif (fun c=>?_) fun _=>a6.bif (fun c=>?_) fun _=>a6.some (keep (num 0))
  all_goals simp only[aad]at c
  all_goals rw[c]at H
  ·obtain⟨p,n,k1,kq,k2,k3⟩:=H 0 ac_ (.inl rfl)
   refine a6.bind (z_ (k:=1) ac_ k2 (a6.bindm (rN G ac_ ac_ k1 k3) fun l hl=>?_))
   have:=k3.few
   exact a6.bindm (U5 l ac_ _) fun y _=>a6.some (keep (num y))
  ·obtain⟨p,n,k1,kq,k2,k3⟩:=H 0 ac_ (.inr rfl)
   obtain⟨p',n',NP,Q8,NQ,NR⟩:=H 1 ac_ (.inl rfl)
   obtain⟨k,hk,YP,hkq⟩:=kq
   obtain⟨k',hk',MZ,Ij⟩:=Q8
   have uq:∀ k:Nat,k<5→([3,2,4,0,0]:List Int)[k]? = some 4→k=2:=by decide
   obtain rfl:=uq k hk YP
   obtain rfl:=uq k' hk' MZ
   obtain rfl:n=n':=by rw[hkq]at Ij;exact ac8 Ij
   obtain rfl:r1=p:=by
    have:m.a8.l[1]? = some r1:=h1
    rw[this]at k1;exact ac8 k1
   have:=k3.few
   refine a6.bind (qS G ac_ ac_ fun N5 EB _=>?_)
   obtain rfl:N5=r1:=by rw[h1]at EB;exact(ac8 EB).symm
   refine a6.bind (z_ (k:=2) ac_ NQ (a6.bindm (rN G ac_ ac_ NP NR) fun l hl=>?_))
   exact a6.bindm (xF G k3.ok k3.ptr ac_ (k3.wr rfl) (by rw[hl];exact k3.room)) fun m' hm=>a6.some ⟨num 0,hm.1,hm.2,.inl rfl⟩
  ·obtain⟨p,n,k1,kq,k2,k3⟩:=H 0 ac_ (.inr rfl)
   obtain rfl:r1=p:=by
    have:m.a8.l[1]? = some r1:=h1
    rw[this]at k1;exact ac8 k1
   have hf:=k3.few
   refine a6.bind (z_ (k:=1) ac_ k2 ?_)
   obtain⟨z,hz⟩ : ∃ z:Nat,n.x=(z:Int):=⟨n.x.toNat,ac_⟩
   rw[hz,Ld 1 ac_ ac_]
   refine a6.bind (a6.some (a6.seqm (R:=fun l=>l.length=z) ?_ fun l hl=>?_))
   ·refine a6.loop (fun s:List UInt8×Int=>((z:Int)-s.2).toNat) (fun s=>(0≤s.2∧s.2≤(z:Int))∧s.1.length=z) (fun s hs=>?_) _ ⟨⟨ac_,by show(0:Int)≤(z:Int);omega⟩,by simp⟩
    obtain⟨l,i⟩:=s
    simp only at hs
    obtain⟨hs,hl⟩:=hs
    show a6 (Sh.jC r2 (List.replicate z 0) l i) _
    unfold Sh.jC
    refine a6.bif (fun c=>?_) fun c=>a6.some hl
    simp only[aad,abu]at c
    refine a6.bind (a6.get hs.1 ac_ fun _ _=>a6.some ?_)
    show((0≤IntKind.i64.wrap (i+1)∧IntKind.i64.wrap (i+1)≤(z:Int))∧(l.set i.toNat _).length=z)∧((z:Int)-IntKind.i64.wrap (i+1)).toNat<((z:Int)-i).toNat
    rw[jc ac_,abv]
    omega
   ·unfold Sh.sY
    refine a6.bind (qS G ac_ ac_ fun N5 EB _=>?_)
    obtain rfl:N5=r1:=by rw[h1]at EB;exact(ac8 EB).symm
    exact a6.bindm (xF G k3.ok k3.ptr ac_ (k3.wr rfl) (by rw[hl,←hz];exact k3.room)) fun m' hm=>a6.some ⟨num 0,hm.1,hm.2,.inl rfl⟩
  ·obtain⟨p,n,k1,kq,k2,k3⟩:=H 0 ac_ (.inl rfl)
   obtain⟨p',n',NP,Q8,NQ,NR⟩:=H 1 ac_ (.inl rfl)
   exact a6.bind (z_ (k:=1) ac_ k2 (a6.bind (z_ (k:=2) ac_ NQ (a6.bindm (rN G ac_ ac_ k1 k3) fun l hl=>a6.bindm (rN G ac_ ac_ NP NR) fun l' hl'=>a6.bind (a6.bind (a6.some (a6.some (a6.some (keep (num _))))))))))
  ·obtain⟨p,n,k1,kq,k2,k3⟩:=H 0 ac_ (.inl rfl)
   exact a6.bind (z_ (k:=1) ac_ k2 (a6.bindm (rN G ac_ ac_ k1 k3) fun l hl=>a6.bind (a6.bind (a6.some (a6.some (a6.some (keep (num _))))))))
  ·refine a6.bif (fun _=>a6.some (keep (num _))) fun c=>?_
   have LA:m.a7.length<64:=by simp only[aat]at c;omega
   rw[cI (bytes:=8) (l:=m.a7) (m:=[r1.x]) (by simp;omega) (by simp;omega)]
   exact a6.bind (a6.some (a6.some ⟨num 0,G.mem,rfl,.inr ⟨LA,r1.x,rfl⟩⟩))
  ·refine a6.seqm (R:=fun b=>b=false→0≤r1.x∧r1.x<(m.ae.sizes.length:Int)) (a6.bif (fun _=>a6.some (by simp)) fun c=>a6.some ?_) fun b hb=>?_
   ·intro h;simp only[aat]at *; omega
   unfold Sh.nG
   refine a6.bif (fun _=>a6.some same) fun c=>?_
   have hr:=hb c
   refine a6.seqm (R:=fun b=>b=true→0≤r2.x ∧ ∀ t,m.ae.sizes[r1.x.toNat]? = some t→r2.x<t.rows) (a6.bif (fun c=>a6.bind (a6.get hr.1 hr.2 fun t ht=>a6.some fun h=>?_)) fun c=>a6.some (by simp)) fun b hb=>?_
   ·simp only[aad]at c h
    refine⟨c,fun u hu=>?_⟩
    rw[ht]at hu;cases hu;exact h
   ·unfold Sh.nH
    refine a6.bif (fun c=>a6.some (keep ⟨fun _=>?_,fun _=>⟨hr,fun t ht=>⟨(hb c).1,(hb c).2 t ht⟩⟩⟩)) fun _=>a6.some (keep (num _))
    show(-1048576:Int)≤0∧(0:Int)≤1048576
    omega
  ·exact a6.bind (a6.some (a6.some (keep (num _))))
 ·obtain⟨v0,st,cx,tb,sn⟩:=v
  obtain⟨e1,e2,e3,e4⟩:=hv
  simp only at e1 e2 e3 e4
  show a6 (Sh.cJ m v0 st cx tb sn) _
  unfold Sh.cJ
  refine a6.bind (qS G ac_ ac_ fun _ _ _=>a6.seqm (R:=fun g=>ot m g) ?_ fun g hg=>a6.some ⟨hg,⟨e2,e3⟩,e4⟩)
  refine a6.loop (fun s:Vec aj 11×Int=>(6-s.2).toNat) (fun s=>(0≤s.2∧s.2≤6)∧ot m s.1) (fun s hs=>?_) _ ⟨by show(0:Int)≤1∧(1:Int)≤6;omega,jK G.a8 e1⟩
  obtain⟨g,i⟩:=s
  simp only at hs
  obtain⟨hs,hg⟩:=hs
  show a6 (Sh.dI g i) _
  unfold Sh.dI
  refine a6.bif (fun c=>?_) fun c=>a6.some hg
  simp only[aad]at c
  refine a6.bind (a6.ku hs.1 (by show i<11;omega) fun _ _=>a6.some ⟨⟨?_,jK hg kD.zero⟩,?_⟩)
  ·show 0≤IntKind.i64.wrap (i+1)∧IntKind.i64.wrap (i+1)≤6
   rw[jc ac_];omega
  ·show(6-IntKind.i64.wrap (i+1)).toNat<(6-i).toNat
   rw[jc ac_];omega
end
end Go.Sp
end
section
namespace Go.Sp
open Go Go.Fw Go.Fx Go.Proofs
theorem FK{l:List (List UInt8)}(hl:l.length≤1099511627776)(he:∀ t∈l,t.length≤1099511627776):Sh.iY l=some l:=by
 unfold Sh.iY
 have e1:=wH (γ:=List (List UInt8)⊕List (List UInt8)) (body:=fun(v:List (List UInt8)×Int)=>match v with|(a,b)=>Sh.nZ l a b) l id (fun T i=>(T,i)) (fun T=>inl T) ac_
  (fun i hi T hT=>by
   have ha:Fx.app 24 T [id l[i]]=some (T ++ [id l[i]]):=cI (by simp;omega) (by simp;omega)
   simp only[Sh.nZ,bT,hi,decide_true,abw,aX hi,aaG,qG (he _ (abd hi))]
   exact(congrArg (fun o=>Option.bind o _) ha).trans rfl) (fun T=>by simp[Sh.nZ])
 rw[List.map_id]at e1
 exact bI e1 rfl
def nz(m:ai):br:=⟨m.a8,m.ae.bh,m.ae.cq,m.ae.ah,m.a7,m.at_,m.steps,m.done⟩
structure Whole(m:ai)(N:Nat):Prop where
 sound:xm m N
 code:∀ i∈m.code,Form i∧(i.op=21→i.jN≤(m.ae.data.length:Int))
 few:m.code.length≤4096
 dq:m.dq.length=m.code.length+1
 BV:∀ k v,Fx.il m.da k=some v→0≤v∧v<(m.code.length:Int)
 at_:0≤m.at_∧m.at_<(m.code.length:Int)
 a7:m.a7.length≤64
section
variable {m:ai}{N:Nat}(W:Whole m N)
include W
theorem P9:∀ t∈m.ae.ah,t.length≤4096:=fun b hb=>by
 obtain⟨i,hi,rfl⟩:=abH.1 hb
 have hi':i<m.ae.sizes.length:=by have:=W.sound.mem.tl;omega
 have h:=W.sound.mem.tab i _ _ (aa1 hi') (aa1 hi)
 obtain⟨⟨a1,a2⟩,a3,a4⟩:=W.sound.env.sz _ (abd hi')
 have q1:(m.ae.sizes[i]).rows*(m.ae.sizes[i]).wide≤64*(m.ae.sizes[i]).wide:=abD ac_ ac_
 omega
theorem F7:m.ae.ah.length≤8:=by have:=W.sound.mem.tl;have:=W.sound.env.few;omega
theorem FN:Sh.iY m.ae.ah=some m.ae.ah :=
 FK (by have:=F7 W;omega) fun t ht=>by have:=P9 W t ht;omega
theorem FX:Sh.aN m.ae.cq=some m.ae.cq:=qG (by have:=W.sound.mem.cq;have:=W.sound.env.cq;omega)
theorem FM:Sh.bG m.a7=some m.a7:=vV (by have:=W.a7;omega)
theorem Pz:Sh.cA m=some (nz m):=by
 unfold Sh.cA
 rw[FX W,FN W,FM W];rfl
theorem I6:B9 ⟨m.ae.cq,m.ae.ah⟩:=⟨by have:=W.sound.mem.cq;have:=W.sound.env.cq;show m.ae.cq.length≤65535;omega,F7 W,fun t ht=>by have:=P9 W t ht;omega⟩
theorem Vm(h:0≤m.steps∧m.steps≤4294967296):iG (nz m):=by
 have:=W.at_;have:=W.few
 exact⟨by show 0≤m.at_∧m.at_≤4095;omega,h,I6 W⟩
theorem Px:oM (nz m):=by
 obtain⟨h1,h2,h3⟩:=I6 W
 have:=W.a7
 exact⟨by show m.ae.cq.length≤_;simp only at h1;omega,by show m.ae.ah.length≤_;simp only at h2;omega,fun t ht=>by have:=h3 t ht;omega,by show m.a7.length≤_;omega⟩
end
structure Next(m m':ai)(N:Nat):Prop where
 whole:Whole m' N
 data:m'.ae.data=m.ae.data
 sizes:m'.ae.sizes=m.ae.sizes
 code:m'.code=m.code
 dq:m'.dq=m.dq
 BV:m'.da=m.da
 tP:m.done=false
 steps:m'.steps=IntKind.i64.wrap (m.steps+1)
 tabs:m'.ae.ah.map List.length=m.ae.ah.map List.length
 a7:vt m m'.a7
section
variable {m:ai}{N:Nat}(W:Whole m N){i:bg}(hi:i∈m.code)
include W hi
theorem Wc:a6 (Sh.nC m i) fun e=>e≠0:=by
 have G:=W.sound
 obtain⟨F,LI⟩:=W.code i hi
 unfold Sh.nC
 rw[FX W,FN W,FM W]
 refine a6.bind (a6.some (a6.bind (a6.some (a6.bind (a6.some ?_)))))
 refine a6.seqm (R:=fun _=>True) ?_ fun v _=>?_
 ·refine a6.seqm (R:=Sum.elim (fun _=>True) (Sum.elim (fun _=>True) (Sum.elim (fun _=>True) (Sum.elim (fun _=>22≤i.op∧i.op≤25) (Sum.elim (fun _=>22≤i.op∧i.op≤25) (Sum.elim (fun _=>22≤i.op∧i.op≤25) fun _=>True)))))) ?_ fun v hv=>?_
  ·refine a6.bif (fun _=>a6.some trivial) fun c1=>a6.bif (fun _=>a6.some trivial) fun c2=>a6.bif (fun _=>a6.some trivial) fun c3=>a6.bif (fun c=>a6.some ?_) fun c4=>a6.bif (fun c=>a6.some ?_) fun c5=>a6.bif (fun c=>a6.some ?_) fun c6=>?_
   ·simp only[aad,aat]at *; exact⟨ac_,ac_⟩
   ·simp only[aad,aat]at *; exact⟨ac_,ac_⟩
   ·simp only[aad,aat]at *; exact⟨ac_,ac_⟩
   ·repeat' first|exact a6.some trivial|(apply a6.bif<;>intro _)
  ·rcases v with _|_|_|_|_|_|_|_|_|_
   ·exact a6.bindm (uQ G F) fun _ _=>a6.some trivial
   ·exact a6.bindm (nD G F) fun _ _=>a6.some trivial
   ·exact a6.bindm (yV G F LI) fun _ _=>a6.some trivial
   ·exact a6.bindm (PT G F hv) fun _ _=>a6.some trivial
   ·exact a6.bindm (PD G F hv) fun _ _=>a6.some trivial
   ·exact a6.bindm (Hn G F hv) fun _ _=>a6.some trivial
   ·exact a6.bindm (Pn G F) fun _ _=>a6.some trivial
   ·exact a6.bindm (OO G F) fun _ _=>a6.some trivial
   ·exact a6.bindm (P0 G) fun _ _=>a6.some trivial
   ·exact a6.bindm (O5 G F) fun _ _=>a6.some trivial
 ·obtain⟨v1,v2,v3,v4,v5,v6,v7⟩:=v
  exact a6.bif (fun c=>a6.some (by simpa using c)) fun _=>a6.some ac_
end
theorem V8{m:ai}{N:Nat}(W:Whole m N):a6 (Sh.aH m) fun r=>r.1=0→Next m r.2 N:=by
 have G:=W.sound
 unfold Sh.aH
 refine a6.bif (fun _=>a6.some fun h=>absurd (show(4:Int)=0 from h) ac_) fun cd=>?_
 refine a6.bind (a6.get W.at_.1 W.at_.2 fun i YN=>?_)
 have hi:=abj YN
 obtain⟨F,LI⟩:=W.code i hi
 refine a6.seqm (R:=fun _=>True) (a6.bif (fun _=>a6.some trivial) fun _=>a6.some trivial) fun v _=>?_
 refine a6.seqm (R:=fun _=>True) (a6.bif (fun _=>a6.bif (fun _=>a6.some trivial) fun _=>a6.some trivial) fun _=>a6.some trivial) fun v _=>?_
 unfold Sh.bW
 refine a6.bif (fun _=>a6.bindm (Wc W hi) fun e he=>a6.some fun h=>absurd h he) fun _=>?_
 refine a6.seqm (R:=fun v=>xg m.ae.sizes v.1 v.2.1 v.2.2.1 N∧v.2.2.1.map List.length=m.ae.ah.map List.length∧ot m v.2.2.2.1∧vt m v.2.2.2.2.1) ?_ fun v hv=>?_
 ·have same:xg m.ae.sizes m.ae.bh m.ae.cq m.ae.ah N∧m.ae.ah.map List.length=m.ae.ah.map List.length∧ot m m.a8∧vt m m.a7:=⟨G.mem,rfl,G.a8,.inl rfl⟩
  refine a6.seqm (R:=Sum.elim (fun _=>True) (Sum.elim (fun _=>True) (Sum.elim (fun _=>True) (Sum.elim (fun _=>22≤i.op∧i.op≤25) (Sum.elim (fun _=>22≤i.op∧i.op≤25) (Sum.elim (fun _=>22≤i.op∧i.op≤25) fun _=>True)))))) ?_ fun v hv=>?_
  ·refine a6.bif (fun _=>a6.some trivial) fun c1=>a6.bif (fun _=>a6.some trivial) fun c2=>a6.bif (fun _=>a6.some trivial) fun c3=>a6.bif (fun c=>a6.some ?_) fun c4=>a6.bif (fun c=>a6.some ?_) fun c5=>a6.bif (fun c=>a6.some ?_) fun c6=>?_
   ·simp only[aad,aat]at *; exact⟨ac_,ac_⟩
   ·simp only[aad,aat]at *; exact⟨ac_,ac_⟩
   ·simp only[aad,aat]at *; exact⟨ac_,ac_⟩
   ·repeat' first|exact a6.some trivial|(apply a6.bif<;>intro _)
  ·rcases v with _|_|_|_|_|_|_|_|_|_
   ·exact a6.bindm (uQ G F) fun _ h=>a6.some ⟨G.mem,rfl,h,.inl rfl⟩
   ·exact a6.bindm (nD G F) fun _ h=>a6.some ⟨G.mem,rfl,h,.inl rfl⟩
   ·exact a6.bindm (yV G F LI) fun _ h=>a6.some ⟨G.mem,rfl,h,.inl rfl⟩
   ·exact a6.bindm (PT G F hv) fun _ h=>a6.some ⟨G.mem,rfl,h,.inl rfl⟩
   ·exact a6.bindm (PD G F hv) fun _ h=>a6.some ⟨h.1,h.2,G.a8,.inl rfl⟩
   ·exact a6.bindm (Hn G F hv) fun _ h=>a6.some ⟨h.2.1,h.2.2,h.1,.inl rfl⟩
   ·exact a6.bindm (Pn G F) fun _ _=>a6.some same
   ·exact a6.bindm (OO G F) fun _ _=>a6.some same
   ·exact a6.bindm (P0 G) fun _ h=>a6.some ⟨h.2.1.1,h.2.1.2,h.1,h.2.2⟩
   ·exact a6.bindm (O5 G F) fun _ _=>a6.some same
 ·obtain⟨st,cx,tb,rg,sn,dn,jp,er⟩:=v
  obtain⟨k1,k2,k3,k4⟩:=hv
  simp only at k1 k2 k3 k4
  have A1:sn.length≤64:=by
   rcases k4 with rfl|⟨h,x,rfl⟩
   ·exact W.a7
   ·simp;omega
  have next:∀ (a s:Int) (d:Bool),0≤a∧a<(m.code.length:Int)→s=IntKind.i64.wrap (m.steps+1)→Next m (ai.mk (fq.mk st cx tb m.ae.data m.ae.sizes) m.code m.dq m.da rg sn a s d) N:=fun a s d ha hs =>
   ⟨⟨⟨G.env,k1,k3⟩,W.code,W.few,W.dq,W.BV,ha,A1⟩,rfl,rfl,rfl,rfl,rfl,cd,hs,k2,k4⟩
  show a6 (Sh.eS m st cx tb rg sn dn jp er) _
  unfold Sh.eS
  refine a6.bif (fun c=>a6.some fun h=>absurd (show er=0 from h) (by simpa using c)) fun _=>a6.bif (fun _=>a6.some fun _=>next _ _ _ W.at_ rfl) fun _=>?_
  have ha:=W.at_;have hf:=W.few
  rw[jc (x:=m.at_+1) ac_]
  refine a6.bind (a6.get ac_ (by rw[W.dq];omega) fun u hu=>a6.bif (fun _=>a6.some fun h=>absurd (show(89:Int)=0 from h) ac_) fun c=>a6.some fun _=>next _ _ _ ?_ rfl)
  cases hb:Fx.il m.da (IntKind.i64.wrap (u+jp))with
  | none=>rw[hb]at c;cases c
  | some v=>exact W.BV _ v hb
theorem Vg{m m':ai}{N:Nat}(W:Whole m N)(h:Next m m' N):Gz (nz m) (nz m'):=by
 have e:=h.tabs
 have el:m'.ae.ah.length=m.ae.ah.length:=by have:=congrArg List.length e;simpa using this
 refine⟨h.tP,h.steps,?_,el.symm,fun i _ hi hk=>?_,?_,?_,fun i _ hi hk=>?_⟩
 ·show m.ae.cq.length=m'.ae.cq.length
  rw[W.sound.mem.cq,h.whole.sound.mem.cq]
 ·have:(m'.ae.ah.map List.length)[i]? = (m.ae.ah.map List.length)[i]?:=by rw[e]
  rw[abE,abE]at this
  have h1:i<m.ae.ah.length:=hi
  have h2:i<m'.ae.ah.length:=hk
  rw[aa1 h1,aa1 h2]at this
  exact(ac8 this).symm
 ·show m.a7.length≤m'.a7.length
  rcases h.a7 with k|⟨_,x,k⟩<;>rw[k]<;>simp
 ·show m'.a7.length≤m.a7.length+1
  rcases h.a7 with k|⟨_,x,k⟩<;>rw[k]<;>simp
 ·show m.a7[i]=m'.a7[i]
  have h1:i<m.a7.length:=hi
  have:m'.a7[i]? = m.a7[i]?:=by
   rcases h.a7 with k|⟨_,x,k⟩<;>rw[k]
   rw[aaZ h1]
  have h2:i<m'.a7.length:=hk
  rw[aa1 h1,aa1 h2]at this
  exact(ac8 this).symm
end Go.Sp
end
section
namespace Go.Sp
open Go Go.Fw Go.Fx Go.Proofs
theorem Ve {P:Int → Prop} {l:List (Int × Int)} {a x:Int} (h:∀ e ∈ l,P e.2) (hx:P x):∀ e ∈ Fx.jk l a x,P e.2:=by
  induction l with
  | nil => intro e he; obtain rfl : e = (a, x) := by simpa [Fx.jk] using he
           exact hx
  | cons b l ih =>
    obtain ⟨b,y⟩:=b
    intro e he
    unfold Fx.jk at he
    split at he
    · rcases aaM.1 he with rfl | he
      · exact hx
      · exact h e (aaN _ he)
    · rcases aaM.1 he with rfl | he
      · exact h _ (aaR ..)
      · exact ih (fun e he=>h e (aaN _ he)) e he
theorem Ul{l:List (Int×Int)}{a:Int}{n:Nat}{v:Int}(h:Fx.ik l a=some (n,v)):∃ e∈l,e.2=v:=by
 induction l generalizing n with
 | nil=>cases h
 | cons b l ih =>
  obtain⟨b,y⟩:=b
  unfold Fx.ik at h
  split at h
  ·cases h;exact⟨_,aaR ..,rfl⟩
  ·obtain⟨⟨n',v'⟩,k1,k2⟩:=aax.1 h
   cases k2
   obtain⟨e,he,rfl⟩:=ih k1
   exact⟨e,aaN _ he,rfl⟩
theorem UY{P:Int→Prop}{l:List (Int×Int)}(h:∀ e∈l,P e.2){a v:Int}(hg:Fx.il l a=some v):P v:=by
 unfold Fx.il at hg
 obtain⟨⟨n,v'⟩,k1,k2⟩:=aax.1 hg
 cases k2
 obtain⟨e,he,k⟩:=Ul k1
 have:=h e he
 rw[k]at this;exact this
def vl(u:List Int):Nat→List (Int×Int)
 | 0=>[]
 | n+1=>Fx.jk (vl u n) (u.getD n 0) (n:Int)
theorem FV(u:List Int):∀ n,∀ e∈vl u n,0≤e.2∧e.2<(n:Int)
 | 0=>by simp[vl]
 | n+1=>Ve (P:=fun v=>0≤v∧v<((n+1:Nat):Int)) (fun e he=>by have:=FV u n e he;omega) ac_
structure Made(p:fg):Prop where
 data:p.data.length≤4096
 hi:p.hi≤65535
 few:p.ah.length≤8
 sz:∀ t∈p.ah,(1≤t.rows∧t.rows≤64)∧(1≤t.wide∧t.wide≤64)
 some:0<p.code.length
 len:p.code.length≤4096
 code:∀ i∈p.code,Form i∧(i.op=21→i.jN≤(p.data.length:Int))
theorem Eb{X:Type}{P:X→Prop}{l:List X}{s:Int}{x:X}(h0:0≤s)(hx:l[s.toNat]? = some x)(h:∀ i∈l.take s.toNat,P i)(hp:P x):∀ i∈l.take (s+1).toNat,P i:=fun i hi=>by
 rw[show(s+1).toNat=s.toNat+1 by omega,aa9,hx]at hi
 rcases aaF.1 hi with hi|hi
 ·exact h i hi
 ·obtain rfl:i=x:=by simpa using hi
  exact hp
theorem TL(p:fg):a6 (Sh.sL p) fun b=>b=true→Made p:=by
 unfold Sh.sL
 refine a6.seqm (R:=fun b=>b=false→(p.data.length≤4096∧p.hi≤65535∧p.ah.length≤8∧0<p.code.length)) ?_ fun b hb=>?_
 ·refine a6.bif (fun _=>a6.some (by simp)) fun _=>a6.bif (fun _=>a6.some (by simp)) fun _=>a6.bif (fun _=>a6.some (by simp)) fun c1=>a6.bif (fun _=>a6.some (by simp)) fun c2=>a6.bif (fun _=>a6.some (by simp)) fun c3=>a6.some fun h=>?_
  simp only[aat]at *
  omega
 unfold Sh.rJ
 refine a6.bif (fun _=>a6.some (by simp)) fun c=>?_
 obtain⟨h1,h2,h3,h4⟩:=hb c
 refine a6.seqm (R:=fun _=>∀ t∈p.ah,(1≤t.rows∧t.rows≤64)∧(1≤t.wide∧t.wide≤64)) ?_ fun _ hsz=>?_
 ·refine a6.loop (fun s:Int=>((p.ah.length:Int)-s).toNat) (fun s=>(0≤s∧s≤(p.ah.length:Int)) ∧ ∀ t∈p.ah.take s.toNat,(1≤t.rows∧t.rows≤64)∧(1≤t.wide∧t.wide≤64)) (fun s hs=>?_) 0 ⟨ac_,by simp⟩
  obtain⟨hs,hI⟩:=hs
  show a6 (Sh.aAw p s) _
  unfold Sh.aAw
  refine a6.bif (fun c=>?_) fun c=>a6.some ?_
  ·simp only[aad]at c
   refine a6.bind (a6.get hs.1 c fun t ht=>a6.seqm (R:=fun b=>b=false→(1≤t.rows∧t.rows≤64)∧(1≤t.wide∧t.wide≤64)) ?_ fun b hb=>?_)
   ·refine a6.bif (fun _=>a6.some (by simp)) fun c1=>a6.bif (fun _=>a6.some (by simp)) fun c2=>a6.bif (fun _=>a6.some (by simp)) fun c3=>a6.some fun h=>?_
    simp only[aat]at *
    omega
   ·unfold Sh.D8
    rw[jc (x:=s+1) ac_]
    exact a6.bif (fun _=>a6.some (by simp)) fun cb=>a6.some ⟨⟨ac_,Eb hs.1 ht hI (hb cb)⟩,by show((p.ah.length:Int)-(s+1)).toNat<((p.ah.length:Int)-s).toNat;omega⟩
  ·simp only[aat]at c
   rw[show s.toNat=p.ah.length by omega,aby]at hI
   exact hI
 ·unfold Sh.rK
  refine a6.bindm (Ut p.code) fun r hr=>a6.bif (fun _=>a6.some (by simp)) fun c=>?_
  obtain⟨hlen,hform⟩:=hr (by simpa using c)
  refine a6.seqm (R:=fun _=>∀ i∈p.code,i.op=21→i.jN≤(p.data.length:Int)) ?_ fun _ hd=>a6.some fun _=>⟨h1,h2,h3,hsz,h4,hlen,fun i hi=>⟨hform i hi,hd i hi⟩⟩
  refine a6.loop (fun s:Int=>((p.code.length:Int)-s).toNat) (fun s=>(0≤s∧s≤(p.code.length:Int)) ∧ ∀ i∈p.code.take s.toNat,i.op=21→i.jN≤(p.data.length:Int)) (fun s hs=>?_) 0 ⟨ac_,by simp⟩
  obtain⟨hs,hI⟩:=hs
  show a6 (Sh.lE p s) _
  unfold Sh.lE
  refine a6.bif (fun c=>?_) fun c=>a6.some ?_
  ·simp only[aad]at c
   refine a6.bind (a6.get hs.1 c fun t ht=>a6.seqm (R:=fun b=>b=false→t.op=21→t.jN≤(p.data.length:Int)) (a6.bif (fun _=>a6.some fun h _=>?_) fun c2=>a6.some fun _ k=>?_) fun b hb=>?_)
   ·simp only[aat]at h;omega
   ·simp only[aat]at c2;exact absurd k c2
   ·unfold Sh.wE
    rw[jc (x:=s+1) ac_]
    exact a6.bif (fun _=>a6.some (by simp)) fun cb=>a6.some ⟨⟨ac_,Eb hs.1 ht hI (hb cb)⟩,by show((p.code.length:Int)-(s+1)).toNat<((p.code.length:Int)-s).toNat;omega⟩
  ·simp only[aat]at c
   rw[show s.toNat=p.code.length by omega,aby]at hI
   exact hI
structure Fits(p:fg)(x:gi):Prop where
 cq:x.cq.length≤65535
 tl:x.ah.length=p.ah.length
 tab:∀ (i:Nat) (t:gP) (b:List UInt8),p.ah[i]? = some t→x.ah[i]? = some b→(b.length:Int)=t.rows*t.wide
theorem TT{p:fg}(x:gi)(M:Made p):a6 (Sh.sK p x) fun b=>b=true→Fits p x:=by
 have h3:=M.few
 have h2:=M.hi
 unfold Sh.sK
 refine a6.seqm (R:=fun b=>b=false→(x.cq.length≤65535∧x.ah.length=p.ah.length)) ?_ fun b hb=>?_
 ·refine a6.bif (fun _=>a6.some (by simp)) fun _=>a6.bif (fun _=>a6.some (by simp)) fun c1=>a6.some fun h=>?_
  simp only[aat,abx,aad]at *
  omega
 unfold Sh.rI
 refine a6.bif (fun _=>a6.some (by simp)) fun c=>?_
 obtain⟨h1,h4⟩:=hb c
 refine a6.seqm (R:=fun _=>∀ (i:Nat) (t:gP) (b:List UInt8),i<p.ah.length→p.ah[i]? = some t→x.ah[i]? = some b→(b.length:Int)=t.rows*t.wide) ?_ fun _ ht=>a6.some fun _=>⟨h1,h4,fun i t b k1 k2=>ht i t b (aap.1 k1).1 k1 k2⟩
 refine a6.loop (fun s:Int=>((p.ah.length:Int)-s).toNat) (fun s=>(0≤s∧s≤(p.ah.length:Int)) ∧ ∀ (i:Nat) (t:gP) (b:List UInt8),(i:Int)<s→p.ah[i]? = some t→x.ah[i]? = some b→(b.length:Int)=t.rows*t.wide) (fun s hs=>?_) 0 ⟨ac_,fun i t b h=>by omega⟩
 obtain⟨hs,hI⟩:=hs
 show a6 (Sh.D7 p x s) _
 unfold Sh.D7
 refine a6.bif (fun c=>?_) fun c=>a6.some fun i t b hi=>hI i t b (by simp only[aat]at c;omega)
 simp only[aad]at c
 refine a6.bind (a6.get hs.1 c fun t ht=>a6.bind (a6.get hs.1 ac_ fun b hb=>a6.bif (fun _=>a6.some (by simp)) fun c2=>a6.some ?_))
 obtain⟨⟨a1,a2⟩,a3,a4⟩:=M.sz t (abj ht)
 have q1:t.rows*t.wide≤64*t.wide:=abD ac_ ac_
 have q0:0≤t.rows*t.wide:=Int.mul_nonneg ac_ ac_
 have e:(b.length:Int)=t.rows*t.wide:=by
  rw[jc (x:=t.rows*t.wide) ac_]at c2
  simpa using c2
 show((0≤IntKind.i64.wrap (s+1)∧IntKind.i64.wrap (s+1)≤(p.ah.length:Int)) ∧ ∀ (i:Nat) (t:gP) (b:List UInt8),(i:Int)<IntKind.i64.wrap (s+1)→p.ah[i]? = some t→x.ah[i]? = some b→(b.length:Int)=t.rows*t.wide)∧((p.ah.length:Int)-IntKind.i64.wrap (s+1)).toNat<((p.ah.length:Int)-s).toNat
 rw[jc (x:=s+1) ac_]
 refine⟨⟨ac_,fun i t' b' hi k1 k2=>?_⟩,ac_⟩
 by_cases e':(i:Int)<s
 ·exact hI i t' b' e' k1 k2
 ·obtain rfl:i=s.toNat:=ac_
  rw[ht]at k1;rw[hb]at k2
  cases k1;cases k2
  exact e
def xY(p:fg)(x:gi)(u:List Int):ai :=
 ⟨⟨(HJ x).bh,x.cq,x.ah,p.data,p.ah⟩,p.code,u,vl u p.code.length,(HJ x).a8,[],0,0,false⟩
theorem TD{p:fg}{x:gi}{u:List Int}(M:Made p)(F:Fits p x)(hu:u.length=p.code.length+1):Whole (xY p x u) x.cq.length:=by
 have hc:=F.cq
 refine⟨⟨⟨M.data,M.few,M.sz,F.cq⟩,⟨fun s hs=>?_,rfl,F.tl,F.tab⟩,?_⟩,M.code,M.len,hu,fun k v hk=>UY (P:=fun v=>0≤v∧v<(p.code.length:Int)) (FV u _) hk,?_,aau _⟩
 ·obtain rfl:s=bn.zero:=abI hs
  exact kD.zero
 ·refine jK (jK (jK (fun v hv=>?_) ⟨fun _=>?_,fun h=>?_⟩) (kD.number _)) ⟨fun _=>?_,fun h=>?_⟩
  ·obtain rfl:v=aj.zero:=abI hv
   exact kD.zero
  ·show(-1048576:Int)≤0∧(0:Int)≤1048576;omega
  ·exact absurd (show(5:Int)≤3 from h) ac_
  ·show(-1048576:Int)≤256∧(256:Int)≤1048576;omega
  ·exact absurd (show(5:Int)≤2 from h) ac_
 ·have:=M.some
  show(0:Int)≤0∧(0:Int)<(p.code.length:Int)
  omega
theorem Vf{p:fg}{x:gi}{u:List Int}(M:Made p)(F:Fits p x)(eb:Sh.sL p=some true)(ef:Sh.sK p x=some true)(eu:Sh.pL p.code=some u)(hu:u.length=p.code.length+1)(γ:Type) :
  Sh.kS (γ:=γ) p x=some (inl (inr (inr (xY p x u)))):=by
 have l1:=M.len;have l2:=M.few;have l3:=M.data;have l4:=F.cq;have l5:=F.tl
 have e1:Sh.gC p.code=some p.code:=(cI (by simp;omega) (by simp;omega)).trans (by rw[abA])
 have e2:Sh.eM p.ah=some p.ah:=(cI (by simp;omega) (by simp;omega)).trans (by rw[abA])
 have e3:Sh.iY x.ah=some x.ah:=FK ac_ fun t ht=>by
  obtain⟨i,hi,rfl⟩:=abH.1 ht
  have hi':i<p.ah.length:=ac_
  have h:=F.tab i _ _ (aa1 hi') (aa1 hi)
  obtain⟨⟨a1,a2⟩,a3,a4⟩:=M.sz _ (abd hi')
  have q1:(p.ah[i]).rows*(p.ah[i]).wide≤64*(p.ah[i]).wide:=abD ac_ ac_
  omega
 have e4:Sh.aN x.cq=some x.cq:=qG ac_
 have e5:Sh.aN p.data=some p.data:=qG ac_
 have e6:Fx.loop (fun(v:List (Int×Int)×Int)=>match v with|(Fj,Fo)=>Sh.qO (γ:=γ) p.code u Fj Fo) ([],0)=some (inl (vl u p.code.length)):=by
  obtain⟨o,e,rfl⟩:=bY (body:=fun(v:List (Int×Int)×Int)=>match v with|(Fj,Fo)=>Sh.qO (γ:=γ) p.code u Fj Fo) p.code.length (fun i T=>(T,(i:Int))) (fun i T=>T=vl u i) (fun o=>o=inl (vl u p.code.length))
   (fun i T hi hT=>.inl ⟨Fx.jk T (u.getD i 0) (i:Int),by
    have hg:Fx.get u (i:Int)=some (u.getD i 0):=by rw[aX (show i<u.length by omega)];simp[List.getD,aa1 (show i<u.length by omega)]
    simp only[Sh.qO,bT,hi,decide_true,abw,hg,aaG,gq hi ac_],by rw[hT];rfl⟩)
   (fun T hT=>⟨_,by simp only[Sh.qO,bT,abJ,decide_false,abt];rfl,by rw[hT]⟩) p.code.length 0 [] ac_ rfl
  exact e
 unfold Sh.kS
 rw[eb,aaG,ef,aaG,e1,aaG,eu,aaG]
 simp only[abK,abt,aQ,Sh.Ec]
 rw[e4,aaG,e3,aaG,e5,aaG,e2,aaG]
 refine bI e6 ?_
 rfl
end Go.Sp
end
section
namespace Go.Sp
open Go Go.Fw Go.Fx Go.Proofs
noncomputable def CY(m:ai):ai:=match Sh.aH m with
 | some (_,m')=>m'
 | none=>m
noncomputable def codeOf(m:ai):Int:=match Sh.aH m with
 | some (e,_)=>e
 | none=>0
noncomputable def iu(m:ai):Nat→ai
 | 0=>m
 | k+1=>CY (iu m k)
def Goes(m:ai)(k:Nat):Prop:=∀ j,j<k→codeOf (iu m j)=0
theorem Eg{m:ai}{N:Nat}(W:Whole m N):Sh.aH m=some (codeOf m,CY m)∧(codeOf m=0→Next m (CY m) N):=by
 obtain⟨⟨e,m'⟩,h1,h2⟩:=V8 W
 unfold codeOf CY
 rw[h1]
 exact⟨rfl,h2⟩
structure Fixed(v m:ai):Prop where
 data:m.ae.data=v.ae.data
 sizes:m.ae.sizes=v.ae.sizes
 code:m.code=v.code
 dq:m.dq=v.dq
 BV:m.da=v.da
abbrev KL(v:ai)(st:Vec bn 32)(cx:List UInt8)(tb:List (List UInt8))(rg:Vec aj 11)(sn:List Int)(a s:Int)(d:Bool):ai :=
 ai.mk (fq.mk st cx tb v.ae.data v.ae.sizes) v.code v.dq v.da rg sn a s d
theorem Qj{v m:ai}(h:Fixed v m):KL v m.ae.bh m.ae.cq m.ae.ah m.a8 m.a7 m.at_ m.steps m.done=m:=by
 unfold KL
 rw[←h.data,←h.sizes,←h.code,←h.dq,←h.BV]
section
variable {m:ai}{N:Nat}(W:Whole m N)
include W
theorem wE{k:Nat}(hk:Goes m k):Whole (iu m k) N∧Fixed m (iu m k):=by
 induction k with
 | zero=>exact⟨W,⟨rfl,rfl,rfl,rfl,rfl⟩⟩
 | succ k ih =>
  obtain⟨w,f⟩:=ih fun j hj=>hk j ac_
  have n:=(Eg w).2 (hk k ac_)
  exact⟨n.whole,n.data.trans f.data,n.sizes.trans f.sizes,n.code.trans f.code,n.dq.trans f.dq,n.BV.trans f.BV⟩
theorem FI{k:Nat}(hk:Goes m (k+1)):Sh.aH (iu m k)=some (0,iu m (k+1))∧Next (iu m k) (iu m (k+1)) N:=by
 obtain⟨w,f⟩:=wE W (k:=k) fun j hj=>hk j ac_
 have e:=hk k ac_
 have s:=Eg w
 rw[e]at s
 exact⟨s.1,s.2 rfl⟩
theorem Ti(h0:m.steps=0){k:Nat}(hk:Goes m k)(hn:k≤1000000000):(iu m k).steps=(k:Int):=by
 induction k with
 | zero=>exact h0
 | succ k ih =>
  have e:=ih (fun j hj=>hk j ac_) ac_
  have n:=(FI W hk).2.steps
  rw[e,jc ac_]at n
  rw[n];omega
theorem F6(h0:m.steps=0){k:Nat}(hk:Goes m k)(hn:k≤65536):iG (nz (iu m k))∧oM (nz (iu m k)):=by
 obtain⟨w,f⟩:=wE W hk
 have e:=Ti W h0 hk ac_
 exact⟨Vm w (by rw[e];omega),Px w⟩
end
theorem Goes.mono{m:ai}{k j:Nat}(h:Goes m k)(hj:j≤k):Goes m j:=fun i hi=>h i ac_
noncomputable def om(m:ai)(j:Nat):dw:=jq (nz (iu m j)) (nz (iu m (j+1)))
noncomputable def iQ(m:ai)(n:Nat):List dw:=(List.range n).map (om m)
theorem tE(m:ai)(n:Nat):(iQ m n).length=n:=by simp[iQ]
theorem UX{m:ai}{n i:Nat}(hi:i<(iQ m n).length):(iQ m n)[i]=om m i:=by simp[iQ]
theorem TA(m:ai)(n:Nat):iQ m (n+1)=iQ m n ++ [om m n]:=by simp[iQ,aa2]
section
variable {m:ai}{N:Nat}(W:Whole m N)(h0:m.steps=0)
include W h0
theorem Uz{k:Nat}(hk:Goes m (k+1))(hn:k+1≤65536):Sh.eW (nz (iu m k)) (nz (iu m (k+1)))=some (om m k,0)∧zc (om m k)∧Sh.bO (nz (iu m k)) (om m k)=some (nz (iu m (k+1)),0):=by
 obtain⟨p1,s1⟩:=F6 W h0 (hk.mono (abL _)) ac_
 obtain⟨p2,s2⟩:=F6 W h0 hk hn
 have b:=Vg (wE W (hk.mono (abL _))).1 (FI W hk).2
 have L:=TW p1 p2 b
 refine⟨(TN s1 s2).1 p1 p2 b,L,?_⟩
 have A:=(qX (x:=nz (iu m k)) (m:=om m k) s1 L.small).ok p1 (uZ p1 p2 b) (FZ p1 p2 b)
 rw[A]
 exact congrArg (fun y=>some (y,(0:Int))) (G2 p1 p2 b)
end
end Go.Sp
end
section
namespace Go.Sp
open Go Go.Fw Go.Fx Go.Proofs
structure Ends(m:ai)(lim:Int)(n:Nat)(e:Int):Prop where
 go:Goes m n
 le:(n:Int)≤lim∨n=0
 fin:((n:Int)<lim∧(iu m n).done=false∧codeOf (iu m n)=e∧e≠0)∨((iu m n).done=true∧e=0)∨(¬ (n:Int)<lim∧(iu m n).done=false∧e=88)
section
variable {m:ai}{N:Nat}(W:Whole m N)(h0:m.steps=0){lim:Int}(hlim:lim≤65536)
include W h0 hlim
theorem Hl(x:gi)(x2:Int)(CO:lim=if 65536<x2 then 65536 else x2){j:Nat}(hj:Goes m j)(hle:(j:Int)≤lim∨j=0) :
  a6 (Sh.uE x2 m x (nz (iu m j)) (iQ m j) 0 (iu m j).ae.bh (iu m j).ae.cq (iu m j).ae.ah (iu m j).a8 (iu m j).a7 (iu m j).at_ (iu m j).steps (iu m j).done (j:Int)) fun o =>
   ((j:Int)<lim∧(iu m j).done=false∧codeOf (iu m j)=0∧o = .inl (nz (iu m (j+1)),iQ m (j+1),0,(iu m (j+1)).ae.bh,(iu m (j+1)).ae.cq,(iu m (j+1)).ae.ah,(iu m (j+1)).a8,(iu m (j+1)).a7,(iu m (j+1)).at_,(iu m (j+1)).steps,(iu m (j+1)).done,((j+1:Nat):Int))) ∨
   (∃ e,Ends m lim j e∧e≠0∧e=codeOf (iu m j)∧o = .inr (.inr (⟨x,iQ m j,e⟩,0))) ∨
   (((¬ (j:Int)<lim∧(iu m j).done=false)∨(iu m j).done=true)∧o = .inr (.inl (nz (iu m j),iQ m j,0,(iu m j).ae.bh,(iu m j).ae.cq,(iu m j).ae.ah,(iu m j).a8,(iu m j).a7,(iu m j).at_,(iu m j).steps,(iu m j).done))):=by
 obtain⟨w,f⟩:=wE W hj
 unfold Sh.uE
 rw[←CO]
 refine a6.seqm (R:=fun b=>b=true↔((j:Int)<lim∧(iu m j).done=false)) (a6.bif (fun c=>a6.some ?_) fun c=>a6.some ?_) fun b hb=>?_
 ·simp only[aad]at c
  show(!(iu m j).done)=true↔_
  simp[c]
 ·simp only[aat]at c
  simp[c]
 unfold Sh.zC
 refine a6.bif (fun c=>?_) fun c=>?_
 ·obtain⟨k1,k2⟩:=hb.1 c
  have rb:=Qj f
  unfold KL at rb
  rw[rb,(Eg w).1]
  refine a6.bind (a6.some (a6.bif (fun c2=>a6.some (.inr (.inl ⟨codeOf (iu m j),⟨hj,hle,.inl ⟨k1,k2,rfl,by simpa using c2⟩⟩,by simpa using c2,rfl,rfl⟩))) fun c2=>?_))
  have e:codeOf (iu m j)=0:=by simpa using c2
  have hj':Goes m (j+1):=fun i hi=>by
   by_cases q:i<j
   ·exact hj i q
   ·rw[show i=j by omega];exact e
  obtain⟨w',f'⟩:=wE W hj'
  have RG:=Qj f'
  unfold KL at RG
  show a6 (Option.bind (Sh.cA _) _) _
  rw[show CY (iu m j)=iu m (j+1)from rfl,RG,Pz w']
  obtain⟨d1,d2,d3⟩:=Uz W h0 hj' ac_
  refine a6.bind (a6.some ?_)
  rw[d1]
  refine a6.bind (a6.some ?_)
  rw[cI (bytes:=120) (l:=iQ m j) (m:=[(om m j,(0:Int)).1]) (by rw[tE];simp;omega) (by rw[tE];simp;omega)]
  refine a6.bind (a6.some (a6.some (.inl ⟨k1,k2,e,?_⟩)))
  rw[e,jc (x:=(j:Int)+1) ac_,TA]
  rfl
 ·refine a6.some (.inr (.inr ⟨?_,rfl⟩))
  cases k:(iu m j).done with
  | true=>exact .inr rfl
  | false=>exact .inl ⟨fun h=>(by rw[hb.2 ⟨h,k⟩]at c;cases c),rfl⟩
theorem VG(hd:m.done=false)(x:gi)(x2:Int)(CO:lim=if 65536<x2 then 65536 else x2) :
  a6 (Sh.uC x2 m (nz m) x 0) fun r=>∃ n e,Ends m lim n e∧r=(⟨x,iQ m n,e⟩,0):=by
 unfold Sh.uC
 refine a6.seqm (R:=fun v=>∃ j,Goes m j∧((j:Int)≤lim∨j=0)∧((¬ (j:Int)<lim∧(iu m j).done=false)∨(iu m j).done=true)∧v=(nz (iu m j),iQ m j,0,(iu m j).ae.bh,(iu m j).ae.cq,(iu m j).ae.ah,(iu m j).a8,(iu m j).a7,(iu m j).at_,(iu m j).steps,(iu m j).done)) ?_ fun v hv=>?_
 ·refine a6.loop (fun s:br×List dw×Int×Vec bn 32×List UInt8×List (List UInt8)×Vec aj 11×List Int×Int×Int×Bool×Int=>(65536-s.2.2.2.2.2.2.2.2.2.2.2).toNat) (fun s=>∃ j:Nat,Goes m j∧((j:Int)≤lim∨j=0)∧s=(nz (iu m j),iQ m j,0,(iu m j).ae.bh,(iu m j).ae.cq,(iu m j).ae.ah,(iu m j).a8,(iu m j).a7,(iu m j).at_,(iu m j).steps,(iu m j).done,(j:Int))) (fun s hs=>?_) _ ⟨0,fun j hj=>by omega,.inr rfl,rfl⟩
  obtain⟨j,hj,hle,rfl⟩:=hs
  refine(Hl W h0 hlim x x2 CO hj hle).mono fun o ho=>?_
  rcases ho with⟨k1,k2,k3,rfl⟩|⟨e,k1,k2,k3,rfl⟩|⟨k1,rfl⟩
  ·refine⟨⟨j+1,fun i hi=>?_,.inl ac_,rfl⟩,by show(65536-((j+1:Nat):Int)).toNat<(65536-(j:Int)).toNat;omega⟩
   by_cases q:i<j
   ·exact hj i q
   ·rw[show i=j by omega];exact k3
  ·exact⟨j,e,k1,rfl⟩
  ·exact⟨j,hj,hle,k1,rfl⟩
 ·obtain⟨j,hj,hle,hf,rfl⟩:=hv
  show a6 (Sh.uD x (nz (iu m j)) (iQ m j) 0 _ _ _ _ _ _ _ _) _
  unfold Sh.uD
  show a6 (Fx.seq (bif !(iu m j).done then some (inl 88)else some (inl 0)) _) _
  rcases hf with⟨k1,k2⟩|k2
  ·rw[k2]
   exact a6.some ⟨j,88,⟨hj,hle,.inr (.inr ⟨k1,k2,rfl⟩)⟩,rfl⟩
  ·rw[k2]
   exact a6.some ⟨j,0,⟨hj,hle,.inr (.inl ⟨k2,rfl⟩)⟩,rfl⟩
end
theorem WJ{p:fg}{x:gi}{u:List Int}(M:Made p)(F:Fits p x)(hu:u.length=p.code.length+1)(hN:∀ γ:Type,Sh.kS (γ:=γ) p x=some (inl (inr (inr (xY p x u)))))(x2:Int) :
  ∃ n e,Ends (xY p x u) (if 65536<x2 then 65536 else x2) n e∧Sh.qD p x x2=some (⟨x,iQ (xY p x u) n,e⟩,0):=by
 have W:=TD M F hu
 have S:=Px W
 obtain⟨r,e,n,e',h1,rfl⟩:=VG W rfl (lim:=if 65536<x2 then 65536 else x2) (by split<;>omega) rfl x x2 rfl
 refine⟨n,e',h1,?_⟩
 unfold Sh.qD
 refine bI (hN _) ?_
 show Sh.uB x2 (xY p x u)=_
 unfold Sh.uB
 rw[Pz W,aaG]
 have ec:Sh.cY (nz (xY p x u)).cq=some x.cq:=qF (by have:=F.cq;show x.cq.length≤_;omega)
 rw[ec,aaG,wY S,aaG]
 exact e
end Go.Sp
end
section
namespace Go.Sp
open Go Go.Fw Go.Fx Go.Proofs
def Wd(x:Int):bg:=bg.mk 20 false false 0 1 0 0 x
def Em:bg:=bg.mk 38 false false 0 0 0 0 6
def Mv:bg:=bg.mk 15 false false 0 0 0 0 0
def Ex:bg:=bg.mk 39 false false 0 0 0 0 0
def w8:List Int→List bg
 | []=>[]
 | x::l=>Wd x::Em::w8 l
def oc(ys:List Int):List bg:=w8 ys ++ [Mv,Ex]
theorem sY:∀ ys:List Int,(w8 ys).length=2*ys.length
 | []=>rfl
 | x::l=>by simp[w8,sY l];omega
theorem PZ:∀ a b:List Int,w8 (a++b)=w8 a++w8 b
 | [],b=>rfl
 | x::l,b=>by simp[w8,PZ l b]
theorem Qq:∀ (ys:List Int) (i:Nat) (h:i<ys.length),(w8 ys)[2*i]? = some (Wd ys[i])∧(w8 ys)[2*i+1]? = some Em
 | [],i,h=>absurd h (abM _)
 | x::l,0,h=>⟨rfl,rfl⟩
 | x::l,i+1,h=>by
  have:=Qq l i (by simpa using h)
  rw[show 2*(i+1)=2*i+1+1 by omega]
  simpa[w8]using this
theorem PY{P:bg→Prop}(h1:∀ x,P (Wd x))(h2:P Em):∀ (ys:List Int),∀ i∈w8 ys,P i
 | [],i,hi=>absurd hi (abN)
 | x::l,i,hi=>by
  simp only[w8,aaM]at hi
  rcases hi with rfl|rfl|hi
  ·exact h1 x
  ·exact h2
  ·exact PY h1 h2 l i hi
theorem mB(ys:List Int):(oc ys).length=2*ys.length+2:=by simp[oc,sY]
theorem Qs{ys:List Int}{i:Nat}(h:i<ys.length):(oc ys)[2*i]? = some (Wd ys[i])∧(oc ys)[2*i+1]? = some Em:=by
 have e:=Qq ys i h
 have l:=sY ys
 unfold oc
 rw[aaZ ac_,aaZ ac_]
 exact e
theorem Qr(ys:List Int):(oc ys)[2*ys.length]? = some Mv∧(oc ys)[2*ys.length+1]? = some Ex:=by
 have l:=sY ys
 unfold oc
 rw[aa0 ac_,aa0 ac_,l,abg,show 2*ys.length+1-2*ys.length=1 by omega]
 exact⟨rfl,rfl⟩
theorem K4{ys:List Int}{P:bg→Prop}(h1:∀ x,P (Wd x))(h2:P Em)(h3:P Mv)(h4:P Ex):∀ i∈oc ys,P i:=by
 intro i hi
 rcases aaF.1 hi with hi|hi
 ·exact PY h1 h2 ys i hi
 ·simp only[aaM,abN,or_false]at hi
  rcases hi with rfl|rfl
  ·exact h3
  ·exact h4
def qs(ys:List Int):fg:=fg.mk 0 0 [] [] (oc ys)
def pv:gi:=gi.mk [] []
theorem Ux(ys:List Int):∀ i∈oc ys,Sh.sN i=some 0:=K4 (fun x=>rfl) rfl rfl rfl
theorem V1{l:List bg}(hl:l.length≤4096)(h:∀ i∈l,Sh.sN i=some 0):Sh.sM l=some (0,0):=by
 unfold Sh.sM
 obtain⟨o,e,rfl⟩:=bY (body:=fun Og=>Sh.mQ l Og) l.length (fun i (_:Unit)=>(i:Int)) (fun _ _=>True) (fun o=>o=inl ())
  (fun i _ hi _=>.inl ⟨(),by
   simp only[Sh.mQ,bT,hi,decide_true,abw,aX hi,aaG,h _ (abd hi),gq hi ac_,aaW (show ¬ (i:Int)=4096 by omega),abt]
   rfl,trivial⟩)
  (fun _ _=>⟨_,by simp only[Sh.mQ,bT,abJ,decide_false,abt],rfl⟩) l.length 0 () ac_ trivial
 exact bI e rfl
theorem Ql(ys:List Int):∀ i∈oc ys,decide (i.op=21)=false:=K4 (fun x=>rfl) rfl rfl rfl
theorem Xb{ys:List Int}(h:ys.length≤70):Sh.sL (qs ys)=some true:=by
 have hl:=mB ys
 unfold Sh.sL
 refine bI (o:=.inl false) ?_ ?_
 ·show(bif decide ((0:Int)<0)then _ else bif decide ((0:Int)<0)then _ else bif decide ((65535:Int)<0)then _ else bif decide ((4096:Int)<0)then _ else bif decide ((8:Int)<0)then _ else some (inl (decide (((oc ys).length:Int)=0))))=_
  rw[aaW (show ¬ ((oc ys).length:Int)=0 by omega)]
  rfl
 show Sh.rJ (qs ys) false=_
 unfold Sh.rJ
 refine bI (cV (g:=.inl ()) rfl) ?_
 show Sh.rK (qs ys)=_
 unfold Sh.rK
 rw[show(qs ys).code=oc ys from rfl,V1 ac_ (Ux ys),aaG]
 refine Eq.trans (b:=Fx.seq (Fx.loop (fun Fp=>Sh.lE (qs ys) Fp) 0) fun _=>Sh.Dh) rfl ?_
 obtain⟨o,e,rfl⟩:=bY (body:=fun Fp=>Sh.lE (qs ys) Fp) (oc ys).length (fun i (_:Unit)=>(i:Int)) (fun _ _=>True) (fun o=>o=inl ())
  (fun i _ hi _=>.inl ⟨(),by
   simp only[Sh.lE,show(qs ys).code=oc ys from rfl,bT,hi,decide_true,abw,aX hi,aaG,Ql ys _ (abd hi),abt,aQ,Sh.wE,gq hi ac_],trivial⟩)
  (fun _ _=>⟨_,by simp only[Sh.lE,show(qs ys).code=oc ys from rfl,bT,abJ,decide_false,abt],rfl⟩) (oc ys).length 0 () ac_ trivial
 exact bI e rfl
theorem W_(ys:List Int):Sh.sK (qs ys) pv=some true:=by
 unfold Sh.sK
 refine bI (o:=.inl false) rfl ?_
 show Sh.rI (qs ys) pv false=_
 unfold Sh.rI
 exact bI (cV (g:=.inl ()) rfl) rfl
theorem WI(x:Int)(h:x ∈ [(0:Int)]):0≤x∧x≤0:=by
 have e:x=0:=by simpa using h
 omega
theorem UB{l:List bg}(hl:l.length≤4096):a6 (Sh.pL l) fun u=>u.length=l.length+1∧u.Pairwise (· < ·) ∧ ∀ x∈u,0≤x∧x≤10000:=by
 unfold Sh.pL
 refine a6.seqm (R:=fun u=>u.length=l.length+1∧u.Pairwise (· < ·) ∧ ∀ x∈u,0≤x∧x≤10000) ?_ fun u hu=>a6.some hu
 refine a6.loop (fun s:Int×List Int×Int=>((l.length:Int)-s.1).toNat) (fun s=>(0≤s.1∧s.1≤(l.length:Int))∧(s.2.1.length:Int)=s.1+1∧s.2.1.Pairwise (· < ·)∧(∀ x∈s.2.1,0≤x∧x≤s.2.2)∧0≤s.2.2∧s.2.2≤2*s.1) (fun s hs=>?_) _
  ⟨by show(0:Int)≤0∧(0:Int)≤(l.length:Int);omega,by show(([0]:List Int).length:Int)=0+1;rfl,abb _ _,fun x hx=>WI x hx,abO _,abO _⟩
 obtain⟨i,u,a⟩:=s
 simp only at hs
 obtain⟨hs,hu,hp,ha,h0,h2⟩:=hs
 show a6 (Sh.mR l i u a) _
 unfold Sh.mR
 refine a6.bif (fun c=>?_) fun c=>a6.some ?_
 ·simp only[aad]at c
  have wd:∀ x,Def (Sh.wB x):=fun x=>by unfold Sh.wB;exact Def.seq (Def.bif Def.some Def.some) fun _=>Def.some
  refine a6.bind (a6.get hs.1 c fun x _=>a6.seqm (R:=fun v=>a<v∧v≤a+2) (a6.bindm (wd _) fun y _=>a6.bif (fun _=>a6.some ?_) fun _=>a6.some ?_) fun v hv=>?_)
  ·show a<IntKind.i64.wrap (IntKind.i64.wrap (a+1)+1)∧IntKind.i64.wrap (IntKind.i64.wrap (a+1)+1)≤a+2
   rw[jc (x:=a+1) ac_,jc ac_];omega
  ·show a<IntKind.i64.wrap (a+1)∧IntKind.i64.wrap (a+1)≤a+2
   rw[jc ac_];omega
  unfold Sh.tQ
  rw[cI (bytes:=8) (l:=u) (m:=[v]) (by simp;omega) (by simp;omega)]
  refine a6.bind (a6.some (a6.some ?_))
  show((0≤IntKind.i64.wrap (i+1)∧IntKind.i64.wrap (i+1)≤(l.length:Int))∧((u ++ [v]).length:Int)=IntKind.i64.wrap (i+1)+1∧(u ++ [v]).Pairwise (· < ·)∧(∀ x∈u ++ [v],0≤x∧x≤v)∧0≤v∧v≤2*IntKind.i64.wrap (i+1))∧((l.length:Int)-IntKind.i64.wrap (i+1)).toNat<((l.length:Int)-i).toNat
  rw[jc (x:=i+1) ac_]
  refine⟨⟨ac_,by simp;omega,aa_.2 ⟨hp,abb _ _,fun x hx y hy=>?_⟩,fun x hx=>?_,ac_,ac_⟩,ac_⟩
  ·obtain rfl:y=v:=by simpa using hy
   have:=ha x hx;omega
  ·rcases aaF.1 hx with hx|hx
   ·have:=ha x hx;omega
   ·obtain rfl:x=v:=by simpa using hx
    omega
 ·simp only[aat]at c
  show u.length=_∧_
  exact⟨ac_,hp,fun x hx=>by have:=ha x hx;omega⟩
theorem Um{X:Type}(l:List (Int×X))(a:Int)(x:X):Fx.il (Fx.jk l a x) a=some x:=by
 induction l with
 | nil=>simp[Fx.il,Fx.jk,Fx.ik]
 | cons b l ih =>
  obtain⟨b,y⟩:=b
  by_cases h:a=b
  ·simp[Fx.il,Fx.jk,Fx.ik,h]
  ·simp only[Fx.il,Fx.jk,aaz h,Fx.ik,abP]at ih ⊢
   exact ih
theorem TB{X:Type}(l:List (Int×X)){a b:Int}(x:X)(h:b≠a):Fx.il (Fx.jk l a x) b=Fx.il l b:=by
 induction l with
 | nil=>simp[Fx.il,Fx.jk,Fx.ik,h]
 | cons c l ih =>
  obtain⟨c,y⟩:=c
  by_cases k:a=c
  ·subst k;simp[Fx.il,Fx.jk,Fx.ik,h]
  ·simp only[Fx.il,Fx.jk,aaz k,Fx.ik]at ih ⊢
   by_cases q:b=c
   ·simp[q]
   ·simp only[aaz q,abP]at ih ⊢
    exact ih
theorem FW{u:List Int}(hp:u.Pairwise (· < ·)):∀ n,n≤u.length → ∀ k,k<n→Fx.il (vl u n) (u.getD k 0)=some (k:Int)
 | 0,_,k,hk=>absurd hk (abM _)
 | n+1,hn,k,hk=>by
  unfold vl
  by_cases e:k=n
  ·subst e;exact Um _ _ _
  ·have h:=aaO.1 hp k n ac_ ac_ ac_
   rw[TB _ _ (by simp only[List.getD,aa1 (show k<u.length by omega),aa1 (show n<u.length by omega),aaJ];omega)]
   exact FW hp n ac_ k ac_
end Go.Sp
end
section
namespace Go.Sp
open Go Go.Fw Go.Fx Go.Proofs
theorem ku(r:Vec aj 11){k:Nat}(h:k<11):Fx.get r.l (k:Int)=some (r.l.getD k aj.zero):=by
 rw[aX (by rw[r.len];exact h)]
 simp[List.getD,aa1 (show k<r.l.length by rw[r.len];exact h)]
theorem PL(r:Vec aj 11){k:Nat}(h:k<11)(v:aj):(r.set k v).l.getD k aj.zero=v:=by
 show(r.l.set k v).getD k aj.zero=v
 simp[List.getD,abG,show k<r.l.length by rw[r.len];exact h]
theorem VZ{m:ai}{x:Int}(h:m.a8.l.getD 1 aj.zero=⟨1,0,0,x⟩):Sh.gD m [1,0,0,0,0]=some ((⟨List.replicate 6 0,rfl⟩ : Vec Int 6),true):=by
 have g1:Fx.get m.a8.l 1=some ⟨1,0,0,x⟩:=by rw[←h];exact ku m.a8 (k:=1) (by decide)
 have g2:Fx.get m.a8.l 2=some (m.a8.l.getD 2 aj.zero):=ku m.a8 (k:=2) (by decide)
 have g3:Fx.get m.a8.l 3=some (m.a8.l.getD 3 aj.zero):=ku m.a8 (k:=3) (by decide)
 have g4:Fx.get m.a8.l 4=some (m.a8.l.getD 4 aj.zero):=ku m.a8 (k:=4) (by decide)
 have g5:Fx.get m.a8.l 5=some (m.a8.l.getD 5 aj.zero):=ku m.a8 (k:=5) (by decide)
 have a0:Sh.cD m [1,0,0,0,0] 0=some (.inl 1):=by
  show Option.bind (Fx.get m.a8.l 1) _=_
  rw[g1];rfl
 have a1:Sh.cD m [1,0,0,0,0] 1=some (.inl 2):=by
  show Option.bind (Fx.get m.a8.l 2) _=_
  rw[g2];rfl
 have a2:Sh.cD m [1,0,0,0,0] 2=some (.inl 3):=by
  show Option.bind (Fx.get m.a8.l 3) _=_
  rw[g3];rfl
 have a3:Sh.cD m [1,0,0,0,0] 3=some (.inl 4):=by
  show Option.bind (Fx.get m.a8.l 4) _=_
  rw[g4];rfl
 have a4:Sh.cD m [1,0,0,0,0] 4=some (.inl 5):=by
  show Option.bind (Fx.get m.a8.l 5) _=_
  rw[g5];rfl
 unfold Sh.gD
 refine bI (o:=.inl ()) (cR a0 (cR a1 (cR a2 (cR a3 (cR a4 (cV rfl)))))) ?_
 show Sh.fV m [1,0,0,0,0]=_
 unfold Sh.fV
 generalize hz:(⟨List.replicate 6 0,rfl⟩ : Vec Int 6)=z
 exact bI (o:=.inl z) (cR (s':=(z,1)) rfl (cR (s':=(z,2)) rfl (cR (s':=(z,3)) rfl (cR (s':=(z,4)) rfl (cR (s':=(z,5)) rfl (cV rfl)))))) rfl
theorem wipe(r:Vec aj 11):∃ rg,Fx.loop (γ:=Vec aj 11⊕(Int×Int×ai)) (fun(v:Vec aj 11×Int)=>match v with|(JA,JB)=>Sh.dI JA JB) (r,1)=some (.inl rg):=by
 have one:∀ (r:Vec aj 11) (k:Nat),k<11→k≤5→Sh.dI r (k:Int)=some (.inl (r.set k aj.zero,((k+1:Nat):Int))):=fun r k h h5=>by
  unfold Sh.dI
  rw[aaV (show(k:Int)≤5 by omega),ku r h,abw,aaG,gq h ac_]
  rfl
 refine⟨((((r.set 1 aj.zero).set 2 aj.zero).set 3 aj.zero).set 4 aj.zero).set 5 aj.zero,cR (one r 1 (by decide) (by decide)) (cR (one _ 2 (by decide) (by decide)) (cR (one _ 3 (by decide) (by decide)) (cR (one _ 4 (by decide) (by decide)) (cR (one _ 5 (by decide) (by decide)) (cV ?_)))))⟩
 rfl
theorem W6{m:ai}{x:Int}(h:m.a8.l.getD 1 aj.zero=⟨1,0,0,x⟩)(hs:m.a7.length≤64) :
  ∃ rg,Sh.fJ m Em=some (0,0,ai.mk (fq.mk m.ae.bh m.ae.cq m.ae.ah m.ae.data m.ae.sizes) m.code m.dq m.da rg (if 64≤m.a7.length then m.a7 else m.a7 ++ [x]) m.at_ m.steps m.done):=by
 have g0:Fx.get m.a8.l 0=some (m.a8.l.getD 0 aj.zero):=ku m.a8 (k:=0) (by decide)
 have g1:Fx.get m.a8.l 1=some ⟨1,0,0,x⟩:=by rw[←h];exact ku m.a8 (k:=1) (by decide)
 have g2:Fx.get m.a8.l 2=some (m.a8.l.getD 2 aj.zero):=ku m.a8 (k:=2) (by decide)
 have g3:Fx.get m.a8.l 3=some (m.a8.l.getD 3 aj.zero):=ku m.a8 (k:=3) (by decide)
 unfold Sh.fJ
 rw[show Sh.sO Em.jN=some (pe.mk [1,0,0,0,0] (cj.mk (-1) 0 false false),true)from rfl,aaG]
 simp only[abK,abt]
 rw[VZ h,aaG]
 simp only[abK,abt]
 rw[show Sh.cZ 0=some ⟨1,0,0,0⟩from rfl,aaG,g1,aaG,g2,aaG,g3,aaG]
 by_cases c:64≤m.a7.length
 ·obtain⟨rg,e⟩:=wipe (m.a8.set 0 ⟨1,0,0,-1⟩)
  refine⟨rg,bI (o:=.inl (⟨1,0,0,-1⟩,m.ae.bh,m.ae.cq,m.ae.ah,m.a7)) ?_ ?_⟩
  ·show(bif decide ((64:Int)≤(m.a7.length:Int))then _ else _)=_
   rw[aaV ac_];rfl
  ·show Sh.cJ m ⟨1,0,0,-1⟩ m.ae.bh m.ae.cq m.ae.ah m.a7=_
   unfold Sh.cJ
   rw[g0,aaG,aay c]
   exact bI e rfl
 ·obtain⟨rg,e⟩:=wipe (m.a8.set 0 ⟨1,0,0,0⟩)
  refine⟨rg,bI (o:=.inl (⟨1,0,0,0⟩,m.ae.bh,m.ae.cq,m.ae.ah,m.a7 ++ [x])) ?_ ?_⟩
  ·show(bif decide ((64:Int)≤(m.a7.length:Int))then _ else(Fx.app 8 m.a7 [x]).bind _)=_
   rw[aaW ac_,abt,cI (by simp;omega) (by simp;omega)];rfl
  ·show Sh.cJ m ⟨1,0,0,0⟩ m.ae.bh m.ae.cq m.ae.ah (m.a7 ++ [x])=_
   unfold Sh.cJ
   rw[g0,aaG,aaz c]
   exact bI e rfl
theorem V3(m:ai)(x:Int):Sh.eJ m (Wd x)=some (0,0,ai.mk m.ae m.code m.dq m.da (m.a8.set 1 ⟨1,0,0,x⟩) m.a7 m.at_ m.steps m.done):=by
 have g1:Fx.get m.a8.l 1=some (m.a8.l.getD 1 aj.zero):=ku m.a8 (k:=1) (by decide)
 show Option.bind (Fx.get m.a8.l 1) _=_
 rw[g1];rfl
theorem XM(m:ai):Sh.cH m Mv=some (0,0,ai.mk m.ae m.code m.dq m.da (m.a8.set 0 ⟨1,0,0,0⟩) m.a7 m.at_ m.steps m.done):=by
 have g0:Fx.get m.a8.l 0=some (m.a8.l.getD 0 aj.zero):=ku m.a8 (k:=0) (by decide)
 unfold Sh.cH
 refine bI (o:=.inl (m.a8.l.getD 0 aj.zero,⟨1,0,0,0⟩)) ?_ ?_
 ·show Option.bind (Fx.get m.a8.l 0) _=_
  rw[g0];rfl
 show Sh.hW m Mv (m.a8.l.getD 0 aj.zero) ⟨1,0,0,0⟩=_
 show Sh.hX m Mv (m.a8.l.getD 0 aj.zero) ⟨1,0,0,0⟩=_
 unfold Sh.hX
 refine bI (o:=.inr (0,0,ai.mk m.ae m.code m.dq m.da (m.a8.set 0 ⟨1,0,0,0⟩) m.a7 m.at_ m.steps m.done)) ?_ rfl
 show Sh.hY m Mv ⟨1,0,0,0⟩ true=_
 show Option.bind (Fx.get m.a8.l 0) _=_
 rw[g0];rfl
theorem Wh{m:ai}{x:Int}(h:m.a8.l.getD 0 aj.zero=⟨1,0,0,x⟩):Sh.eP m Ex=some (0,0,ai.mk m.ae m.code m.dq m.da m.a8 m.a7 m.at_ m.steps true):=by
 have g0:Fx.get m.a8.l 0=some ⟨1,0,0,x⟩:=by rw[←h];exact ku m.a8 (k:=0) (by decide)
 unfold Sh.eP
 rw[g0];rfl
structure KR(u:List Int)(n:Nat):Prop where
 len:u.length=n+1
 inc:u.Pairwise (· < ·)
 bd:∀ x∈u,0≤x∧x≤10000
structure Df(ys u:List Int)(m:ai)(k:Nat)(sn:List Int):Prop where
 code:m.code=oc ys
 dq:m.dq=u
 BV:m.da=vl u (oc ys).length
 at_:m.at_=(k:Int)
 steps:m.steps=(k:Int)
 done:m.done=false
 a7:m.a7=sn
section
variable {ys u:List Int}{m:ai}{k:Nat}{sn:List Int}(hn:ys.length≤70)(U:KR u (oc ys).length)(S:Df ys u m k sn)
include hn U S
theorem Lc(hk:k+1<(oc ys).length)(st:Vec bn 32)(cx:List UInt8)(tb:List (List UInt8))(rg:Vec aj 11)(yU:List Int) :
  ∃ m',Sh.eS m st cx tb rg yU m.done 0 0=some (0,m')∧Df ys u m' (k+1) yU∧m'.a8=rg:=by
 have hl:=mB ys
 have ul:=U.len
 have hu:Fx.get m.dq (IntKind.i64.wrap (m.at_+1))=some (u.getD (k+1) 0):=by
  rw[S.at_,S.dq,gq (show k<(oc ys).length by omega) ac_,aX ac_]
  simp[List.getD,aa1 (show k+1<u.length by omega)]
 have hb:=U.bd (u.getD (k+1) 0) (by simp only[List.getD,aa1 (show k+1<u.length by omega),aaJ];exact abd _)
 have hg:Fx.il m.da (IntKind.i64.wrap (u.getD (k+1) 0+0))=some ((k+1:Nat):Int):=by
  rw[jc ac_,Int.add_zero,S.BV]
  exact FW U.inc _ ac_ _ hk
 refine⟨ai.mk (fq.mk st cx tb m.ae.data m.ae.sizes) m.code m.dq m.da rg yU ((k+1:Nat):Int) (IntKind.i64.wrap (m.steps+1)) m.done,?_,⟨S.code,S.dq,S.BV,rfl,?_,S.done,rfl⟩,rfl⟩
 ·unfold Sh.eS
  rw[S.done,hu,aaG,hg]
  rfl
 ·show IntKind.i64.wrap (m.steps+1)=_
  rw[S.steps,gq (show k<(oc ys).length by omega) ac_]
omit U in
theorem Eh{i:bg}(hi:(oc ys)[k]? = some i)(hk:k+1<(oc ys).length)(hj:decide (26≤i.op)=true→decide (i.op≤37)=false)(hx:decide (i.op=39)=false):Sh.aH m=Sh.bW m i false:=by
 have hl:=mB ys
 unfold Sh.aH
 rw[S.done,abt]
 have hg:Fx.get m.code m.at_=some i:=by
  rw[S.code,S.at_,aX ac_]
  rw[aa1 ac_]at hi
  exact hi
 rw[hg,aaG]
 refine bI (o:=.inl false) ?_ ?_
 ·cases c:decide (26≤i.op)with
  | true=>rw[abw,hj c]
  | false=>rfl
 show Sh.eR m i false=_
 unfold Sh.eR
 refine bI (o:=.inl false) ?_ rfl
 rw[hx]
 show some (inl (decide (IntKind.i64.wrap (m.at_+1)=(m.code.length:Int))))=_
 rw[S.at_,S.code,gq (show k<(oc ys).length by omega) ac_,aaW ac_]
theorem Xg{i:Nat}(hi:i<ys.length)(hk:k=2*i):∃ m',Sh.aH m=some (0,m')∧Df ys u m' (k+1) sn∧m'.a8.l.getD 1 aj.zero=⟨1,0,0,ys[i]⟩:=by
 have hl:=mB ys
 obtain⟨m',e,S',hr⟩:=Lc hn U S ac_ m.ae.bh m.ae.cq m.ae.ah (m.a8.set 1 ⟨1,0,0,ys[i]⟩) m.a7
 rw[S.a7]at e S'
 refine⟨m',?_,S',by rw[hr];exact PL _ (by decide) _⟩
 rw[Eh hn S (i:=Wd ys[i]) (by rw[hk];exact(Qs hi).1) ac_ (fun h=>absurd h (by show ¬ decide ((26:Int)≤20)=true;decide)) rfl]
 unfold Sh.bW
 refine bI (o:=.inl (m.ae.bh,m.ae.cq,m.ae.ah,m.a8.set 1 ⟨1,0,0,ys[i]⟩,m.a7,m.done,0,0)) ?_ (by rw[S.a7];exact e)
 show Sh.jB m (Wd ys[i])=_
 unfold Sh.jB
 rw[V3];rfl
theorem Xe{i:Nat}(hi:i<ys.length)(hk:k=2*i+1){x:Int}(hr:m.a8.l.getD 1 aj.zero=⟨1,0,0,x⟩)(hs:sn.length≤64):∃ m',Sh.aH m=some (0,m')∧Df ys u m' (k+1) (if 64≤sn.length then sn else sn ++ [x]):=by
 have hl:=mB ys
 obtain⟨rg,ec⟩:=W6 hr (by rw[S.a7];exact hs)
 rw[S.a7]at ec
 obtain⟨m',e,S',_⟩:=Lc hn U S ac_ m.ae.bh m.ae.cq m.ae.ah rg (if 64≤sn.length then sn else sn ++ [x])
 refine⟨m',?_,S'⟩
 rw[Eh hn S (i:=Em) (by rw[hk];exact(Qs hi).2) ac_ (fun _=>rfl) rfl]
 unfold Sh.bW
 refine bI (o:=.inl (m.ae.bh,m.ae.cq,m.ae.ah,rg,(if 64≤sn.length then sn else sn ++ [x]),m.done,0,0)) ?_ e
 show Sh.iH m Em=_
 unfold Sh.iH
 rw[ec];rfl
theorem Xf(hk:k=2*ys.length):∃ m',Sh.aH m=some (0,m')∧Df ys u m' (k+1) sn∧m'.a8.l.getD 0 aj.zero=⟨1,0,0,0⟩:=by
 have hl:=mB ys
 obtain⟨m',e,S',hr⟩:=Lc hn U S ac_ m.ae.bh m.ae.cq m.ae.ah (m.a8.set 0 ⟨1,0,0,0⟩) m.a7
 rw[S.a7]at e S'
 refine⟨m',?_,S',by rw[hr];exact PL _ (by decide) _⟩
 rw[Eh hn S (i:=Mv) (by rw[hk];exact(Qr ys).1) ac_ (fun h=>absurd h (by show ¬ decide ((26:Int)≤15)=true;decide)) rfl]
 unfold Sh.bW
 refine bI (o:=.inl (m.ae.bh,m.ae.cq,m.ae.ah,m.a8.set 0 ⟨1,0,0,0⟩,m.a7,m.done,0,0)) ?_ (by rw[S.a7];exact e)
 show Sh.jA m Mv=_
 unfold Sh.jA
 rw[XM];rfl
omit hn U in
theorem Xh(hk:k=2*ys.length+1){x:Int}(hr:m.a8.l.getD 0 aj.zero=⟨1,0,0,x⟩):∃ m',Sh.aH m=some (0,m')∧m'.done=true∧m'.a7=sn:=by
 have hl:=mB ys
 refine⟨ai.mk (fq.mk m.ae.bh m.ae.cq m.ae.ah m.ae.data m.ae.sizes) m.code m.dq m.da m.a8 m.a7 m.at_ (IntKind.i64.wrap (m.steps+1)) true,?_,rfl,S.a7⟩
 unfold Sh.aH
 rw[S.done,abt]
 have hg:Fx.get m.code m.at_=some Ex:=by
  have hi:=(Qr ys).2
  rw[S.code,S.at_,aX ac_]
  rw[←hk,aa1 ac_]at hi
  exact hi
 rw[hg,aaG]
 refine bI (o:=.inl false) rfl ?_
 show Sh.eR m Ex false=_
 unfold Sh.eR
 refine bI (o:=.inl false) rfl ?_
 show Sh.bW m Ex false=_
 unfold Sh.bW
 refine bI (o:=.inl (m.ae.bh,m.ae.cq,m.ae.ah,m.a8,m.a7,true,0,0)) ?_ rfl
 show Sh.iI m Ex=_
 unfold Sh.iI
 rw[Wh hr];rfl
end
theorem J3{m m':ai}(h:Sh.aH m=some (0,m')):codeOf m=0∧CY m=m':=by
 unfold codeOf CY
 rw[h]
 exact⟨rfl,rfl⟩
def Ai(ys:List Int)(i:Nat):List Int:=(ys.take i).take 64
theorem V7(ys:List Int)(i:Nat):(Ai ys i).length≤64:=by simp[Ai];omega
theorem Py{ys:List Int}{i:Nat}(h:i<ys.length):(if 64≤(Ai ys i).length then Ai ys i else Ai ys i ++ [ys[i]])=Ai ys (i+1):=by
 unfold Ai
 by_cases c:64≤i
 ·rw[aay (by simp;omega),abQ,abQ,abR c,abR ac_]
 ·rw[aaz (by simp;omega),abQ,abQ,Nat.min_eq_right ac_,Nat.min_eq_right ac_,aa9,aa1 h]
  rfl
theorem VB{ys:List Int}{i:Nat}(h:i<ys.length):(Ai ys (i+1)).drop (Ai ys i).length=if i<64 then [ys[i]]else []:=by
 rw[←Py h]
 have e:(Ai ys i).length=min 64 i:=by simp[Ai];omega
 by_cases c:i<64
 ·rw[aaz ac_,aay c,List.drop_left]
 ·rw[aay ac_,aaz c,abS]
def said(ys:List Int)(k:Nat):List Int:=if k%2=1 then(if k/2<64 then(ys[k/2]?).toList else [])else []
section
variable {ys u:List Int}{M:ai}(hn:ys.length≤70)(U:KR u (oc ys).length)(S0:Df ys u M 0 [])
include hn U S0
theorem Qo:∀ i,i≤ys.length→Df ys u (iu M (2*i)) (2*i) (Ai ys i)∧Goes M (2*i)∧(∀ k,k<2*i→(iu M k).done=false) ∧ ∀ k,k<2*i→(om M k).a7=said ys k
 | 0,_=>⟨S0,fun j hj=>absurd hj (abM _),fun j hj=>absurd hj (abM _),fun j hj=>absurd hj (abM _)⟩
 | i+1,h=>by
  obtain⟨S,G,D,K⟩:=Qo i ac_
  obtain⟨m1,e1,S1,r1⟩:=Xg hn U S (i:=i) ac_ rfl
  obtain⟨c1,n1⟩:=J3 e1
  have a1:iu M (2*i+1)=m1:=n1
  obtain⟨m2,e2,S2⟩:=Xe hn U S1 (i:=i) ac_ rfl r1 (V7 _ _)
  obtain⟨c2,n2⟩:=J3 e2
  have a2:iu M (2*i+1+1)=m2:=by show CY (iu M (2*i+1))=m2;rw[a1];exact n2
  rw[Py ac_]at S2
  rw[show 2*(i+1)=2*i+1+1 by omega,a2]
  have lo:∀ k,k<2*i+1+1→k<2*i∨k=2*i∨k=2*i+1:=fun k hk=>by omega
  refine⟨S2,fun k hk=>?_,fun k hk=>?_,fun k hk=>?_⟩
  ·rcases lo k hk with q|rfl|rfl
   ·exact G k q
   ·exact c1
   ·rw[a1];exact c2
  ·rcases lo k hk with q|rfl|rfl
   ·exact D k q
   ·exact S.done
   ·rw[a1];exact S1.done
  ·rcases lo k hk with q|rfl|rfl
   ·exact K k q
   ·show(iu M (2*i+1)).a7.drop (iu M (2*i)).a7.length=_
    rw[a1,S1.a7,S.a7,abS,said,aaz ac_]
   ·show(iu M (2*i+1+1)).a7.drop (iu M (2*i+1)).a7.length=_
    have e3:said ys (2*i+1)=if i<64 then [ys[i]]else []:=by
     unfold said
     rw[aay ac_,show(2*i+1)/2=i by omega,aa1 ac_];rfl
    rw[a1,a2,S1.a7,S2.a7,VB ac_,e3]
theorem P8:Goes M (2*ys.length+2)∧(∀ k,k<2*ys.length+2→(iu M k).done=false)∧(iu M (2*ys.length+2)).done=true ∧ ∀ k,k<2*ys.length+2→(om M k).a7=said ys k:=by
 obtain⟨S,G,D,K⟩:=Qo hn U S0 ys.length (aal _)
 obtain⟨m1,e1,S1,r1⟩:=Xf hn U S rfl
 obtain⟨c1,n1⟩:=J3 e1
 have a1:iu M (2*ys.length+1)=m1:=n1
 obtain⟨m2,e2,d2,s2⟩:=Xh S1 rfl r1
 obtain⟨c2,n2⟩:=J3 e2
 have a2:iu M (2*ys.length+2)=m2:=by show CY (iu M (2*ys.length+1))=m2;rw[a1];exact n2
 have lo:∀ k,k<2*ys.length+2→k<2*ys.length∨k=2*ys.length∨k=2*ys.length+1:=fun k hk=>by omega
 refine⟨fun k hk=>?_,fun k hk=>?_,by rw[a2];exact d2,fun k hk=>?_⟩
 ·rcases lo k hk with q|rfl|rfl
  ·exact G k q
  ·exact c1
  ·rw[a1];exact c2
 ·rcases lo k hk with q|rfl|rfl
  ·exact D k q
  ·exact S.done
  ·rw[a1];exact S1.done
 ·rcases lo k hk with q|rfl|rfl
  ·exact K k q
  ·show(iu M (2*ys.length+1)).a7.drop (iu M (2*ys.length)).a7.length=_
   rw[a1,S1.a7,S.a7,abS,said,aaz ac_]
  ·show(iu M (2*ys.length+2)).a7.drop (iu M (2*ys.length+1)).a7.length=_
   rw[a1,a2,S1.a7,s2,abS,said,aay ac_,show(2*ys.length+1)/2=ys.length by omega,aaj (aal _)]
   split<;>rfl
theorem Vx{lim:Int}(hl:lim=1000){n:Nat}{e:Int}(E:Ends M lim n e):n=2*ys.length+2∧e=0:=by
 obtain⟨G,D,dn,K⟩:=P8 hn U S0
 have last:codeOf (iu M (2*ys.length+2))=4:=by
  unfold codeOf Sh.aH
  rw[dn];rfl
 have le:n≤2*ys.length+2:=by
  rcases aai (2*ys.length+2) n with h|h
  ·have:=E.go _ h
   rw[last]at this;cases this
  ·exact h
 rcases aai n (2*ys.length+2)with h|h
 ·rcases E.fin with⟨_,_,h1,h2⟩|⟨h1,_⟩|⟨h1,_,_⟩
  ·exact absurd ((G n h).symm.trans h1).symm h2
  ·rw[D n h]at h1;cases h1
  ·omega
 ·obtain rfl:n=2*ys.length+2:=ac_
  refine⟨rfl,?_⟩
  rcases E.fin with⟨_,h1,_⟩|⟨_,h1⟩|⟨_,h1,_⟩
  ·rw[dn]at h1;cases h1
  ·exact h1
  ·rw[dn]at h1;cases h1
end
theorem Xj{ys:List Int}(hn:ys.length≤70):∃ L:List dw,L.length=2*ys.length+2∧(∀ (k:Nat) (h:k<L.length),L[k].a7=said ys k)∧Sh.qD (qs ys) pv 1000=some (⟨pv,L,0⟩,0):=by
 have hl:=mB ys
 obtain⟨b,em,hM⟩:=TL (qs ys)
 obtain rfl:b=true:=by have:=em.symm.trans (Xb hn);injection this
 have M:=hM rfl
 obtain⟨b,ef,hF⟩:=TT pv M
 obtain rfl:b=true:=by have:=ef.symm.trans (W_ ys);injection this
 have F:=hF rfl
 obtain⟨u,eu,hu⟩:=UB (l:=oc ys) ac_
 have U:KR u (oc ys).length:=⟨hu.1,hu.2.1,hu.2.2⟩
 have S0:Df ys u (xY (qs ys) pv u) 0 []:=⟨rfl,rfl,rfl,rfl,rfl,rfl,rfl⟩
 obtain⟨n,e,E,T⟩:=WJ M F hu.1 (Vf M F em ef eu hu.1) 1000
 obtain⟨rfl,rfl⟩:=Vx hn U S0 rfl E
 obtain⟨_,_,_,K⟩:=P8 hn U S0
 refine⟨_,tE _ _,fun k h=>?_,T⟩
 rw[UX]
 rw[tE]at h
 exact K k h
end Go.Sp
end
section
namespace Go.Sp
open Go Go.Fw Go.Fx Go.Proofs
set_option maxRecDepth 10000
set_option maxHeartbeats 1000000
theorem fh{l:List ay}(h:l.length≤1000)(x:ay):Fx.app 80 l [x]=some (l ++ [x]):=cI (by simp;omega) (by simp;omega)
def o9(op d off:Int):ay:=⟨IntKind.i64.wrap (IntKind.i64.wrap (16*d)+7),op,0,false,false,-1,0,off,-1,0,true⟩
def rh(op d off:Int):ay:=⟨IntKind.i64.wrap (IntKind.i64.wrap (IntKind.i64.wrap (16*d)+7)+8),op,0,false,true,-1,-1,off,0,0,true⟩
def wq(op d off:Int):ay:=⟨IntKind.i64.wrap (IntKind.i64.wrap (IntKind.i64.wrap (16*d)+7)-3),op,0,true,false,-1,0,off,-1,0,true⟩
def An(op d off:Int):ay:=⟨IntKind.i64.wrap (IntKind.i64.wrap (IntKind.i64.wrap (IntKind.i64.wrap (16*d)+7)+8)-3),op,0,true,true,-1,-1,off,0,0,true⟩
def kr(op d off:Int):List ay:=[o9 op d off,rh op d off,wq op d off,An op d off]
theorem gJ{l:List ay}(h:l.length≤900)(op d off:Int):Sh.dJ l op d off=some (l++kr op d off):=by
 have h0:l.length≤900:=h
 have b0:Sh.oG op d off (l) 0=some (.inl (l ++ [o9 op d off],1)):=by
  show Option.bind (Fx.app 80 (l) [o9 op d off]) _=_
  rw[fh ac_];rfl
 have h1:(l ++ [o9 op d off]).length≤901:=by simp;omega
 have b1:Sh.oG op d off (l ++ [o9 op d off]) 1=some (.inl (l ++ [o9 op d off] ++ [rh op d off],2)):=by
  show Option.bind (Fx.app 80 (l ++ [o9 op d off]) [rh op d off]) _=_
  rw[fh ac_];rfl
 have h2:(l ++ [o9 op d off] ++ [rh op d off]).length≤902:=by simp;omega
 have b2:Sh.oG op d off (l ++ [o9 op d off] ++ [rh op d off]) 2=some (.inl (l ++ [o9 op d off] ++ [rh op d off] ++ [wq op d off],3)):=by
  show Option.bind (Fx.app 80 (l ++ [o9 op d off] ++ [rh op d off]) [wq op d off]) _=_
  rw[fh ac_];rfl
 have h3:(l ++ [o9 op d off] ++ [rh op d off] ++ [wq op d off]).length≤903:=by simp;omega
 have b3:Sh.oG op d off (l ++ [o9 op d off] ++ [rh op d off] ++ [wq op d off]) 3=some (.inl (l ++ [o9 op d off] ++ [rh op d off] ++ [wq op d off] ++ [An op d off],4)):=by
  show Option.bind (Fx.app 80 (l ++ [o9 op d off] ++ [rh op d off] ++ [wq op d off]) [An op d off]) _=_
  rw[fh ac_];rfl
 have e:Sh.dJ l op d off=some (l ++ [o9 op d off] ++ [rh op d off] ++ [wq op d off] ++ [An op d off]):=by unfold Sh.dJ;exact bI (o:=.inl (l ++ [o9 op d off] ++ [rh op d off] ++ [wq op d off] ++ [An op d off])) (cR b0 (cR b1 (cR b2 (cR b3 (cV rfl))))) rfl
 rw[e];simp[kr]
def lq(op d:Int):ay:=⟨IntKind.i64.wrap (IntKind.i64.wrap (16*d)+5),op,0,false,false,-1,0,-1,-1,0,false⟩
def ov(op d:Int):ay:=⟨IntKind.i64.wrap (IntKind.i64.wrap (IntKind.i64.wrap (16*d)+5)+8),op,0,false,true,-1,-1,-1,0,0,false⟩
def qq(op d:Int):ay:=⟨IntKind.i64.wrap (IntKind.i64.wrap (IntKind.i64.wrap (16*d)+5)+1),op,0,true,false,-1,0,-1,-1,0,false⟩
def xM(op d:Int):ay:=⟨IntKind.i64.wrap (IntKind.i64.wrap (IntKind.i64.wrap (IntKind.i64.wrap (16*d)+5)+8)+1),op,0,true,true,-1,-1,-1,0,0,false⟩
def jy(op d:Int):List ay:=[lq op d,ov op d,qq op d,xM op d]
theorem gW{l:List ay}(h:l.length≤900)(op d:Int):Sh.eC l op d=some (l++jy op d):=by
 have h0:l.length≤900:=h
 have b0:Sh.mU op d (l) 0=some (.inl (l ++ [lq op d],1)):=by
  show Option.bind (Fx.app 80 (l) [lq op d]) _=_
  rw[fh ac_];rfl
 have h1:(l ++ [lq op d]).length≤901:=by simp;omega
 have b1:Sh.mU op d (l ++ [lq op d]) 1=some (.inl (l ++ [lq op d] ++ [ov op d],2)):=by
  show Option.bind (Fx.app 80 (l ++ [lq op d]) [ov op d]) _=_
  rw[fh ac_];rfl
 have h2:(l ++ [lq op d] ++ [ov op d]).length≤902:=by simp;omega
 have b2:Sh.mU op d (l ++ [lq op d] ++ [ov op d]) 2=some (.inl (l ++ [lq op d] ++ [ov op d] ++ [qq op d],3)):=by
  show Option.bind (Fx.app 80 (l ++ [lq op d] ++ [ov op d]) [qq op d]) _=_
  rw[fh ac_];rfl
 have h3:(l ++ [lq op d] ++ [ov op d] ++ [qq op d]).length≤903:=by simp;omega
 have b3:Sh.mU op d (l ++ [lq op d] ++ [ov op d] ++ [qq op d]) 3=some (.inl (l ++ [lq op d] ++ [ov op d] ++ [qq op d] ++ [xM op d],4)):=by
  show Option.bind (Fx.app 80 (l ++ [lq op d] ++ [ov op d] ++ [qq op d]) [xM op d]) _=_
  rw[fh ac_];rfl
 have e:Sh.eC l op d=some (l ++ [lq op d] ++ [ov op d] ++ [qq op d] ++ [xM op d]):=by unfold Sh.eC;exact bI (o:=.inl (l ++ [lq op d] ++ [ov op d] ++ [qq op d] ++ [xM op d])) (cR b0 (cR b1 (cR b2 (cR b3 (cV rfl))))) rfl
 rw[e];simp[jy]
def CX:List ay:=[(⟨191,16,8,false,true,-1,-1,8,0,0,true⟩ : ay),(⟨188,16,8,true,true,-1,-1,8,0,0,true⟩ : ay),(⟨191,16,16,false,true,-1,-1,16,0,0,true⟩ : ay),(⟨188,16,16,true,true,-1,-1,16,0,0,true⟩ : ay),(⟨191,16,32,false,true,-1,-1,32,0,0,true⟩ : ay)]
theorem Up{l:List ay}(h:l.length≤900):Fx.loop (γ:=List ay⊕List ay) (fun(v:List ay×Int)=>match v with|(a,b)=>Sh.eX a b) (l,8)=some (.inl (l++CX)):=by
 have h0:l.length≤900:=h
 have b0:Sh.eX (l) 8=some (.inl (l ++ [(⟨191,16,8,false,true,-1,-1,8,0,0,true⟩ : ay)] ++ [(⟨188,16,8,true,true,-1,-1,8,0,0,true⟩ : ay)],16)):=by
  have e0:Fx.app 80 (l) [(⟨191,16,8,false,true,-1,-1,8,0,0,true⟩ : ay)]=some (l ++ [(⟨191,16,8,false,true,-1,-1,8,0,0,true⟩ : ay)]):=fh (by first|omega|(simp;omega)) _
  have e1:Fx.app 80 (l ++ [(⟨191,16,8,false,true,-1,-1,8,0,0,true⟩ : ay)]) [(⟨188,16,8,true,true,-1,-1,8,0,0,true⟩ : ay)]=some (l ++ [(⟨191,16,8,false,true,-1,-1,8,0,0,true⟩ : ay)] ++ [(⟨188,16,8,true,true,-1,-1,8,0,0,true⟩ : ay)]):=fh (by first|omega|(simp;omega)) _
  simp only[Sh.eX,Sh.tU,Int.reduceLE,Int.reduceLT,decide_true,decide_false,abw,abt,aaG,aQ,e0,e1]
  rfl
 have h1:(l ++ [(⟨191,16,8,false,true,-1,-1,8,0,0,true⟩ : ay)] ++ [(⟨188,16,8,true,true,-1,-1,8,0,0,true⟩ : ay)]).length≤902:=by simp;omega
 have b1:Sh.eX (l ++ [(⟨191,16,8,false,true,-1,-1,8,0,0,true⟩ : ay)] ++ [(⟨188,16,8,true,true,-1,-1,8,0,0,true⟩ : ay)]) 16=some (.inl (l ++ [(⟨191,16,8,false,true,-1,-1,8,0,0,true⟩ : ay)] ++ [(⟨188,16,8,true,true,-1,-1,8,0,0,true⟩ : ay)] ++ [(⟨191,16,16,false,true,-1,-1,16,0,0,true⟩ : ay)] ++ [(⟨188,16,16,true,true,-1,-1,16,0,0,true⟩ : ay)],32)):=by
  have e0:Fx.app 80 (l ++ [(⟨191,16,8,false,true,-1,-1,8,0,0,true⟩ : ay)] ++ [(⟨188,16,8,true,true,-1,-1,8,0,0,true⟩ : ay)]) [(⟨191,16,16,false,true,-1,-1,16,0,0,true⟩ : ay)]=some (l ++ [(⟨191,16,8,false,true,-1,-1,8,0,0,true⟩ : ay)] ++ [(⟨188,16,8,true,true,-1,-1,8,0,0,true⟩ : ay)] ++ [(⟨191,16,16,false,true,-1,-1,16,0,0,true⟩ : ay)]):=fh (by first|omega|(simp;omega)) _
  have e1:Fx.app 80 (l ++ [(⟨191,16,8,false,true,-1,-1,8,0,0,true⟩ : ay)] ++ [(⟨188,16,8,true,true,-1,-1,8,0,0,true⟩ : ay)] ++ [(⟨191,16,16,false,true,-1,-1,16,0,0,true⟩ : ay)]) [(⟨188,16,16,true,true,-1,-1,16,0,0,true⟩ : ay)]=some (l ++ [(⟨191,16,8,false,true,-1,-1,8,0,0,true⟩ : ay)] ++ [(⟨188,16,8,true,true,-1,-1,8,0,0,true⟩ : ay)] ++ [(⟨191,16,16,false,true,-1,-1,16,0,0,true⟩ : ay)] ++ [(⟨188,16,16,true,true,-1,-1,16,0,0,true⟩ : ay)]):=fh (by first|omega|(simp;omega)) _
  simp only[Sh.eX,Sh.tU,Int.reduceLE,Int.reduceLT,decide_true,decide_false,abw,abt,aaG,aQ,e0,e1]
  rfl
 have h2:(l ++ [(⟨191,16,8,false,true,-1,-1,8,0,0,true⟩ : ay)] ++ [(⟨188,16,8,true,true,-1,-1,8,0,0,true⟩ : ay)] ++ [(⟨191,16,16,false,true,-1,-1,16,0,0,true⟩ : ay)] ++ [(⟨188,16,16,true,true,-1,-1,16,0,0,true⟩ : ay)]).length≤904:=by simp;omega
 have b2:Sh.eX (l ++ [(⟨191,16,8,false,true,-1,-1,8,0,0,true⟩ : ay)] ++ [(⟨188,16,8,true,true,-1,-1,8,0,0,true⟩ : ay)] ++ [(⟨191,16,16,false,true,-1,-1,16,0,0,true⟩ : ay)] ++ [(⟨188,16,16,true,true,-1,-1,16,0,0,true⟩ : ay)]) 32=some (.inl (l ++ [(⟨191,16,8,false,true,-1,-1,8,0,0,true⟩ : ay)] ++ [(⟨188,16,8,true,true,-1,-1,8,0,0,true⟩ : ay)] ++ [(⟨191,16,16,false,true,-1,-1,16,0,0,true⟩ : ay)] ++ [(⟨188,16,16,true,true,-1,-1,16,0,0,true⟩ : ay)] ++ [(⟨191,16,32,false,true,-1,-1,32,0,0,true⟩ : ay)],64)):=by
  have e0:Fx.app 80 (l ++ [(⟨191,16,8,false,true,-1,-1,8,0,0,true⟩ : ay)] ++ [(⟨188,16,8,true,true,-1,-1,8,0,0,true⟩ : ay)] ++ [(⟨191,16,16,false,true,-1,-1,16,0,0,true⟩ : ay)] ++ [(⟨188,16,16,true,true,-1,-1,16,0,0,true⟩ : ay)]) [(⟨191,16,32,false,true,-1,-1,32,0,0,true⟩ : ay)]=some (l ++ [(⟨191,16,8,false,true,-1,-1,8,0,0,true⟩ : ay)] ++ [(⟨188,16,8,true,true,-1,-1,8,0,0,true⟩ : ay)] ++ [(⟨191,16,16,false,true,-1,-1,16,0,0,true⟩ : ay)] ++ [(⟨188,16,16,true,true,-1,-1,16,0,0,true⟩ : ay)] ++ [(⟨191,16,32,false,true,-1,-1,32,0,0,true⟩ : ay)]):=fh (by first|omega|(simp;omega)) _
  simp only[Sh.eX,Sh.tU,Int.reduceLE,Int.reduceLT,decide_true,decide_false,abw,abt,aaG,aQ,e0]
  rfl
 have e:Fx.loop (γ:=List ay⊕List ay) (fun(v:List ay×Int)=>match v with|(a,b)=>Sh.eX a b) (l,8)=some (.inl (l ++ [(⟨191,16,8,false,true,-1,-1,8,0,0,true⟩ : ay)] ++ [(⟨188,16,8,true,true,-1,-1,8,0,0,true⟩ : ay)] ++ [(⟨191,16,16,false,true,-1,-1,16,0,0,true⟩ : ay)] ++ [(⟨188,16,16,true,true,-1,-1,16,0,0,true⟩ : ay)] ++ [(⟨191,16,32,false,true,-1,-1,32,0,0,true⟩ : ay)])):=cR b0 (cR b1 (cR b2 (cV rfl)))
 rw[e];simp[CX]
def KF:List ay:=[(⟨212,17,16,false,false,-1,0,0,16,0,true⟩ : ay),(⟨220,18,16,false,false,-1,0,0,16,0,true⟩ : ay),(⟨215,19,16,false,false,-1,0,0,16,0,true⟩ : ay),(⟨212,17,32,false,false,-1,0,0,32,0,true⟩ : ay),(⟨220,18,32,false,false,-1,0,0,32,0,true⟩ : ay),(⟨215,19,32,false,false,-1,0,0,32,0,true⟩ : ay),(⟨212,17,64,false,false,-1,0,0,64,0,true⟩ : ay),(⟨220,18,64,false,false,-1,0,0,64,0,true⟩ : ay),(⟨215,19,64,false,false,-1,0,0,64,0,true⟩ : ay)]
theorem UQ{l:List ay}(h:l.length≤900):Fx.loop (γ:=List ay⊕List ay) (fun(v:List ay×Int)=>match v with|(a,b)=>Sh.eY a b) (l,16)=some (.inl (l++KF)):=by
 have h0:l.length≤900:=h
 have b0:Sh.eY (l) 16=some (.inl (l ++ [(⟨212,17,16,false,false,-1,0,0,16,0,true⟩ : ay)] ++ [(⟨220,18,16,false,false,-1,0,0,16,0,true⟩ : ay)] ++ [(⟨215,19,16,false,false,-1,0,0,16,0,true⟩ : ay)],32)):=by
  have e0:Fx.app 80 (l) [(⟨212,17,16,false,false,-1,0,0,16,0,true⟩ : ay)]=some (l ++ [(⟨212,17,16,false,false,-1,0,0,16,0,true⟩ : ay)]):=fh (by first|omega|(simp;omega)) _
  have e1:Fx.app 80 (l ++ [(⟨212,17,16,false,false,-1,0,0,16,0,true⟩ : ay)]) [(⟨220,18,16,false,false,-1,0,0,16,0,true⟩ : ay)]=some (l ++ [(⟨212,17,16,false,false,-1,0,0,16,0,true⟩ : ay)] ++ [(⟨220,18,16,false,false,-1,0,0,16,0,true⟩ : ay)]):=fh (by first|omega|(simp;omega)) _
  have e2:Fx.app 80 (l ++ [(⟨212,17,16,false,false,-1,0,0,16,0,true⟩ : ay)] ++ [(⟨220,18,16,false,false,-1,0,0,16,0,true⟩ : ay)]) [(⟨215,19,16,false,false,-1,0,0,16,0,true⟩ : ay)]=some (l ++ [(⟨212,17,16,false,false,-1,0,0,16,0,true⟩ : ay)] ++ [(⟨220,18,16,false,false,-1,0,0,16,0,true⟩ : ay)] ++ [(⟨215,19,16,false,false,-1,0,0,16,0,true⟩ : ay)]):=fh (by first|omega|(simp;omega)) _
  simp only[Sh.eY,Int.reduceLE,Int.reduceLT,decide_true,decide_false,abw,abt,aaG,aQ,e0,e1,e2]
  rfl
 have h1:(l ++ [(⟨212,17,16,false,false,-1,0,0,16,0,true⟩ : ay)] ++ [(⟨220,18,16,false,false,-1,0,0,16,0,true⟩ : ay)] ++ [(⟨215,19,16,false,false,-1,0,0,16,0,true⟩ : ay)]).length≤903:=by simp;omega
 have b1:Sh.eY (l ++ [(⟨212,17,16,false,false,-1,0,0,16,0,true⟩ : ay)] ++ [(⟨220,18,16,false,false,-1,0,0,16,0,true⟩ : ay)] ++ [(⟨215,19,16,false,false,-1,0,0,16,0,true⟩ : ay)]) 32=some (.inl (l ++ [(⟨212,17,16,false,false,-1,0,0,16,0,true⟩ : ay)] ++ [(⟨220,18,16,false,false,-1,0,0,16,0,true⟩ : ay)] ++ [(⟨215,19,16,false,false,-1,0,0,16,0,true⟩ : ay)] ++ [(⟨212,17,32,false,false,-1,0,0,32,0,true⟩ : ay)] ++ [(⟨220,18,32,false,false,-1,0,0,32,0,true⟩ : ay)] ++ [(⟨215,19,32,false,false,-1,0,0,32,0,true⟩ : ay)],64)):=by
  have e0:Fx.app 80 (l ++ [(⟨212,17,16,false,false,-1,0,0,16,0,true⟩ : ay)] ++ [(⟨220,18,16,false,false,-1,0,0,16,0,true⟩ : ay)] ++ [(⟨215,19,16,false,false,-1,0,0,16,0,true⟩ : ay)]) [(⟨212,17,32,false,false,-1,0,0,32,0,true⟩ : ay)]=some (l ++ [(⟨212,17,16,false,false,-1,0,0,16,0,true⟩ : ay)] ++ [(⟨220,18,16,false,false,-1,0,0,16,0,true⟩ : ay)] ++ [(⟨215,19,16,false,false,-1,0,0,16,0,true⟩ : ay)] ++ [(⟨212,17,32,false,false,-1,0,0,32,0,true⟩ : ay)]):=fh (by first|omega|(simp;omega)) _
  have e1:Fx.app 80 (l ++ [(⟨212,17,16,false,false,-1,0,0,16,0,true⟩ : ay)] ++ [(⟨220,18,16,false,false,-1,0,0,16,0,true⟩ : ay)] ++ [(⟨215,19,16,false,false,-1,0,0,16,0,true⟩ : ay)] ++ [(⟨212,17,32,false,false,-1,0,0,32,0,true⟩ : ay)]) [(⟨220,18,32,false,false,-1,0,0,32,0,true⟩ : ay)]=some (l ++ [(⟨212,17,16,false,false,-1,0,0,16,0,true⟩ : ay)] ++ [(⟨220,18,16,false,false,-1,0,0,16,0,true⟩ : ay)] ++ [(⟨215,19,16,false,false,-1,0,0,16,0,true⟩ : ay)] ++ [(⟨212,17,32,false,false,-1,0,0,32,0,true⟩ : ay)] ++ [(⟨220,18,32,false,false,-1,0,0,32,0,true⟩ : ay)]):=fh (by first|omega|(simp;omega)) _
  have e2:Fx.app 80 (l ++ [(⟨212,17,16,false,false,-1,0,0,16,0,true⟩ : ay)] ++ [(⟨220,18,16,false,false,-1,0,0,16,0,true⟩ : ay)] ++ [(⟨215,19,16,false,false,-1,0,0,16,0,true⟩ : ay)] ++ [(⟨212,17,32,false,false,-1,0,0,32,0,true⟩ : ay)] ++ [(⟨220,18,32,false,false,-1,0,0,32,0,true⟩ : ay)]) [(⟨215,19,32,false,false,-1,0,0,32,0,true⟩ : ay)]=some (l ++ [(⟨212,17,16,false,false,-1,0,0,16,0,true⟩ : ay)] ++ [(⟨220,18,16,false,false,-1,0,0,16,0,true⟩ : ay)] ++ [(⟨215,19,16,false,false,-1,0,0,16,0,true⟩ : ay)] ++ [(⟨212,17,32,false,false,-1,0,0,32,0,true⟩ : ay)] ++ [(⟨220,18,32,false,false,-1,0,0,32,0,true⟩ : ay)] ++ [(⟨215,19,32,false,false,-1,0,0,32,0,true⟩ : ay)]):=fh (by first|omega|(simp;omega)) _
  simp only[Sh.eY,Int.reduceLE,Int.reduceLT,decide_true,decide_false,abw,abt,aaG,aQ,e0,e1,e2]
  rfl
 have h2:(l ++ [(⟨212,17,16,false,false,-1,0,0,16,0,true⟩ : ay)] ++ [(⟨220,18,16,false,false,-1,0,0,16,0,true⟩ : ay)] ++ [(⟨215,19,16,false,false,-1,0,0,16,0,true⟩ : ay)] ++ [(⟨212,17,32,false,false,-1,0,0,32,0,true⟩ : ay)] ++ [(⟨220,18,32,false,false,-1,0,0,32,0,true⟩ : ay)] ++ [(⟨215,19,32,false,false,-1,0,0,32,0,true⟩ : ay)]).length≤906:=by simp;omega
 have b2:Sh.eY (l ++ [(⟨212,17,16,false,false,-1,0,0,16,0,true⟩ : ay)] ++ [(⟨220,18,16,false,false,-1,0,0,16,0,true⟩ : ay)] ++ [(⟨215,19,16,false,false,-1,0,0,16,0,true⟩ : ay)] ++ [(⟨212,17,32,false,false,-1,0,0,32,0,true⟩ : ay)] ++ [(⟨220,18,32,false,false,-1,0,0,32,0,true⟩ : ay)] ++ [(⟨215,19,32,false,false,-1,0,0,32,0,true⟩ : ay)]) 64=some (.inl (l ++ [(⟨212,17,16,false,false,-1,0,0,16,0,true⟩ : ay)] ++ [(⟨220,18,16,false,false,-1,0,0,16,0,true⟩ : ay)] ++ [(⟨215,19,16,false,false,-1,0,0,16,0,true⟩ : ay)] ++ [(⟨212,17,32,false,false,-1,0,0,32,0,true⟩ : ay)] ++ [(⟨220,18,32,false,false,-1,0,0,32,0,true⟩ : ay)] ++ [(⟨215,19,32,false,false,-1,0,0,32,0,true⟩ : ay)] ++ [(⟨212,17,64,false,false,-1,0,0,64,0,true⟩ : ay)] ++ [(⟨220,18,64,false,false,-1,0,0,64,0,true⟩ : ay)] ++ [(⟨215,19,64,false,false,-1,0,0,64,0,true⟩ : ay)],128)):=by
  have e0:Fx.app 80 (l ++ [(⟨212,17,16,false,false,-1,0,0,16,0,true⟩ : ay)] ++ [(⟨220,18,16,false,false,-1,0,0,16,0,true⟩ : ay)] ++ [(⟨215,19,16,false,false,-1,0,0,16,0,true⟩ : ay)] ++ [(⟨212,17,32,false,false,-1,0,0,32,0,true⟩ : ay)] ++ [(⟨220,18,32,false,false,-1,0,0,32,0,true⟩ : ay)] ++ [(⟨215,19,32,false,false,-1,0,0,32,0,true⟩ : ay)]) [(⟨212,17,64,false,false,-1,0,0,64,0,true⟩ : ay)]=some (l ++ [(⟨212,17,16,false,false,-1,0,0,16,0,true⟩ : ay)] ++ [(⟨220,18,16,false,false,-1,0,0,16,0,true⟩ : ay)] ++ [(⟨215,19,16,false,false,-1,0,0,16,0,true⟩ : ay)] ++ [(⟨212,17,32,false,false,-1,0,0,32,0,true⟩ : ay)] ++ [(⟨220,18,32,false,false,-1,0,0,32,0,true⟩ : ay)] ++ [(⟨215,19,32,false,false,-1,0,0,32,0,true⟩ : ay)] ++ [(⟨212,17,64,false,false,-1,0,0,64,0,true⟩ : ay)]):=fh (by first|omega|(simp;omega)) _
  have e1:Fx.app 80 (l ++ [(⟨212,17,16,false,false,-1,0,0,16,0,true⟩ : ay)] ++ [(⟨220,18,16,false,false,-1,0,0,16,0,true⟩ : ay)] ++ [(⟨215,19,16,false,false,-1,0,0,16,0,true⟩ : ay)] ++ [(⟨212,17,32,false,false,-1,0,0,32,0,true⟩ : ay)] ++ [(⟨220,18,32,false,false,-1,0,0,32,0,true⟩ : ay)] ++ [(⟨215,19,32,false,false,-1,0,0,32,0,true⟩ : ay)] ++ [(⟨212,17,64,false,false,-1,0,0,64,0,true⟩ : ay)]) [(⟨220,18,64,false,false,-1,0,0,64,0,true⟩ : ay)]=some (l ++ [(⟨212,17,16,false,false,-1,0,0,16,0,true⟩ : ay)] ++ [(⟨220,18,16,false,false,-1,0,0,16,0,true⟩ : ay)] ++ [(⟨215,19,16,false,false,-1,0,0,16,0,true⟩ : ay)] ++ [(⟨212,17,32,false,false,-1,0,0,32,0,true⟩ : ay)] ++ [(⟨220,18,32,false,false,-1,0,0,32,0,true⟩ : ay)] ++ [(⟨215,19,32,false,false,-1,0,0,32,0,true⟩ : ay)] ++ [(⟨212,17,64,false,false,-1,0,0,64,0,true⟩ : ay)] ++ [(⟨220,18,64,false,false,-1,0,0,64,0,true⟩ : ay)]):=fh (by first|omega|(simp;omega)) _
  have e2:Fx.app 80 (l ++ [(⟨212,17,16,false,false,-1,0,0,16,0,true⟩ : ay)] ++ [(⟨220,18,16,false,false,-1,0,0,16,0,true⟩ : ay)] ++ [(⟨215,19,16,false,false,-1,0,0,16,0,true⟩ : ay)] ++ [(⟨212,17,32,false,false,-1,0,0,32,0,true⟩ : ay)] ++ [(⟨220,18,32,false,false,-1,0,0,32,0,true⟩ : ay)] ++ [(⟨215,19,32,false,false,-1,0,0,32,0,true⟩ : ay)] ++ [(⟨212,17,64,false,false,-1,0,0,64,0,true⟩ : ay)] ++ [(⟨220,18,64,false,false,-1,0,0,64,0,true⟩ : ay)]) [(⟨215,19,64,false,false,-1,0,0,64,0,true⟩ : ay)]=some (l ++ [(⟨212,17,16,false,false,-1,0,0,16,0,true⟩ : ay)] ++ [(⟨220,18,16,false,false,-1,0,0,16,0,true⟩ : ay)] ++ [(⟨215,19,16,false,false,-1,0,0,16,0,true⟩ : ay)] ++ [(⟨212,17,32,false,false,-1,0,0,32,0,true⟩ : ay)] ++ [(⟨220,18,32,false,false,-1,0,0,32,0,true⟩ : ay)] ++ [(⟨215,19,32,false,false,-1,0,0,32,0,true⟩ : ay)] ++ [(⟨212,17,64,false,false,-1,0,0,64,0,true⟩ : ay)] ++ [(⟨220,18,64,false,false,-1,0,0,64,0,true⟩ : ay)] ++ [(⟨215,19,64,false,false,-1,0,0,64,0,true⟩ : ay)]):=fh (by first|omega|(simp;omega)) _
  simp only[Sh.eY,Int.reduceLE,Int.reduceLT,decide_true,decide_false,abw,abt,aaG,aQ,e0,e1,e2]
  rfl
 have e:Fx.loop (γ:=List ay⊕List ay) (fun(v:List ay×Int)=>match v with|(a,b)=>Sh.eY a b) (l,16)=some (.inl (l ++ [(⟨212,17,16,false,false,-1,0,0,16,0,true⟩ : ay)] ++ [(⟨220,18,16,false,false,-1,0,0,16,0,true⟩ : ay)] ++ [(⟨215,19,16,false,false,-1,0,0,16,0,true⟩ : ay)] ++ [(⟨212,17,32,false,false,-1,0,0,32,0,true⟩ : ay)] ++ [(⟨220,18,32,false,false,-1,0,0,32,0,true⟩ : ay)] ++ [(⟨215,19,32,false,false,-1,0,0,32,0,true⟩ : ay)] ++ [(⟨212,17,64,false,false,-1,0,0,64,0,true⟩ : ay)] ++ [(⟨220,18,64,false,false,-1,0,0,64,0,true⟩ : ay)] ++ [(⟨215,19,64,false,false,-1,0,0,64,0,true⟩ : ay)])):=cR b0 (cR b1 (cR b2 (cV rfl)))
 rw[e];simp[KF]
def CW:List ay:=[(⟨113,22,1,false,false,-1,-1,-1,0,0,true⟩ : ay),(⟨145,23,1,false,false,-1,-1,-1,0,0,true⟩ : ay),(⟨115,24,1,false,true,-1,-1,-1,0,0,false⟩ : ay),(⟨114,24,1,false,false,-1,0,-1,-1,0,false⟩ : ay),(⟨105,22,2,false,false,-1,-1,-1,0,0,true⟩ : ay),(⟨137,23,2,false,false,-1,-1,-1,0,0,true⟩ : ay),(⟨107,24,2,false,true,-1,-1,-1,0,0,false⟩ : ay),(⟨106,24,2,false,false,-1,0,-1,-1,0,false⟩ : ay),(⟨97,22,4,false,false,-1,-1,-1,0,0,true⟩ : ay),(⟨129,23,4,false,false,-1,-1,-1,0,0,true⟩ : ay),(⟨99,24,4,false,true,-1,-1,-1,0,0,false⟩ : ay),(⟨98,24,4,false,false,-1,0,-1,-1,0,false⟩ : ay),(⟨195,25,4,false,false,-1,-1,-1,-1,0,false⟩ : ay),(⟨121,22,8,false,false,-1,-1,-1,0,0,true⟩ : ay),(⟨123,24,8,false,true,-1,-1,-1,0,0,false⟩ : ay),(⟨122,24,8,false,false,-1,0,-1,-1,0,false⟩ : ay),(⟨219,25,8,false,false,-1,-1,-1,-1,0,false⟩ : ay)]
theorem Uk{l:List ay}(h:l.length≤900):Fx.loop (γ:=List ay⊕List ay) (fun(v:List ay×Int)=>match v with|(a,b)=>Sh.dC a b) (l,0)=some (.inl (l++CW)):=by
 have h0:l.length≤900:=h
 have b0:Sh.dC (l) 0=some (.inl (l ++ [(⟨113,22,1,false,false,-1,-1,-1,0,0,true⟩ : ay)] ++ [(⟨145,23,1,false,false,-1,-1,-1,0,0,true⟩ : ay)] ++ [(⟨115,24,1,false,true,-1,-1,-1,0,0,false⟩ : ay)] ++ [(⟨114,24,1,false,false,-1,0,-1,-1,0,false⟩ : ay)],1)):=by
  have e0:Fx.app 80 (l) [(⟨113,22,1,false,false,-1,-1,-1,0,0,true⟩ : ay)]=some (l ++ [(⟨113,22,1,false,false,-1,-1,-1,0,0,true⟩ : ay)]):=fh (by first|omega|(simp;omega)) _
  have e1:Fx.app 80 (l ++ [(⟨113,22,1,false,false,-1,-1,-1,0,0,true⟩ : ay)]) [(⟨145,23,1,false,false,-1,-1,-1,0,0,true⟩ : ay)]=some (l ++ [(⟨113,22,1,false,false,-1,-1,-1,0,0,true⟩ : ay)] ++ [(⟨145,23,1,false,false,-1,-1,-1,0,0,true⟩ : ay)]):=fh (by first|omega|(simp;omega)) _
  have e2:Fx.app 80 (l ++ [(⟨113,22,1,false,false,-1,-1,-1,0,0,true⟩ : ay)] ++ [(⟨145,23,1,false,false,-1,-1,-1,0,0,true⟩ : ay)]) [(⟨115,24,1,false,true,-1,-1,-1,0,0,false⟩ : ay)]=some (l ++ [(⟨113,22,1,false,false,-1,-1,-1,0,0,true⟩ : ay)] ++ [(⟨145,23,1,false,false,-1,-1,-1,0,0,true⟩ : ay)] ++ [(⟨115,24,1,false,true,-1,-1,-1,0,0,false⟩ : ay)]):=fh (by first|omega|(simp;omega)) _
  have e3:Fx.app 80 (l ++ [(⟨113,22,1,false,false,-1,-1,-1,0,0,true⟩ : ay)] ++ [(⟨145,23,1,false,false,-1,-1,-1,0,0,true⟩ : ay)] ++ [(⟨115,24,1,false,true,-1,-1,-1,0,0,false⟩ : ay)]) [(⟨114,24,1,false,false,-1,0,-1,-1,0,false⟩ : ay)]=some (l ++ [(⟨113,22,1,false,false,-1,-1,-1,0,0,true⟩ : ay)] ++ [(⟨145,23,1,false,false,-1,-1,-1,0,0,true⟩ : ay)] ++ [(⟨115,24,1,false,true,-1,-1,-1,0,0,false⟩ : ay)] ++ [(⟨114,24,1,false,false,-1,0,-1,-1,0,false⟩ : ay)]):=fh (by first|omega|(simp;omega)) _
  have g0:Fx.get ([16,8,0,24]:List Int) 0=some (16:Int):=rfl
  have g1:decide (0≤IntKind.u64.wrap 0)=true:=rfl
  have g2:shl .i64 1 (IntKind.u64.wrap 0).toNat=(1:Int):=rfl
  have g3:IntKind.i64.wrap (97+16)=113:=rfl
  have g4:IntKind.i64.wrap (129+16)=145:=rfl
  have g5:IntKind.i64.wrap (99+16)=115:=rfl
  have g6:IntKind.i64.wrap (98+16)=114:=rfl
  have g7:IntKind.i64.wrap (195+16)=211:=rfl
  simp only[Sh.dC,Sh.pD,Sh.pE,Fx.must,Int.reduceLE,Int.reduceLT,decide_true,decide_false,abw,abt,aaG,aQ,e0,e1,e2,e3,g0,g1,g2,g3,g4,g5,g6,g7]
  rfl
 have h1:(l ++ [(⟨113,22,1,false,false,-1,-1,-1,0,0,true⟩ : ay)] ++ [(⟨145,23,1,false,false,-1,-1,-1,0,0,true⟩ : ay)] ++ [(⟨115,24,1,false,true,-1,-1,-1,0,0,false⟩ : ay)] ++ [(⟨114,24,1,false,false,-1,0,-1,-1,0,false⟩ : ay)]).length≤904:=by simp;omega
 have b1:Sh.dC (l ++ [(⟨113,22,1,false,false,-1,-1,-1,0,0,true⟩ : ay)] ++ [(⟨145,23,1,false,false,-1,-1,-1,0,0,true⟩ : ay)] ++ [(⟨115,24,1,false,true,-1,-1,-1,0,0,false⟩ : ay)] ++ [(⟨114,24,1,false,false,-1,0,-1,-1,0,false⟩ : ay)]) 1=some (.inl (l ++ [(⟨113,22,1,false,false,-1,-1,-1,0,0,true⟩ : ay)] ++ [(⟨145,23,1,false,false,-1,-1,-1,0,0,true⟩ : ay)] ++ [(⟨115,24,1,false,true,-1,-1,-1,0,0,false⟩ : ay)] ++ [(⟨114,24,1,false,false,-1,0,-1,-1,0,false⟩ : ay)] ++ [(⟨105,22,2,false,false,-1,-1,-1,0,0,true⟩ : ay)] ++ [(⟨137,23,2,false,false,-1,-1,-1,0,0,true⟩ : ay)] ++ [(⟨107,24,2,false,true,-1,-1,-1,0,0,false⟩ : ay)] ++ [(⟨106,24,2,false,false,-1,0,-1,-1,0,false⟩ : ay)],2)):=by
  have e0:Fx.app 80 (l ++ [(⟨113,22,1,false,false,-1,-1,-1,0,0,true⟩ : ay)] ++ [(⟨145,23,1,false,false,-1,-1,-1,0,0,true⟩ : ay)] ++ [(⟨115,24,1,false,true,-1,-1,-1,0,0,false⟩ : ay)] ++ [(⟨114,24,1,false,false,-1,0,-1,-1,0,false⟩ : ay)]) [(⟨105,22,2,false,false,-1,-1,-1,0,0,true⟩ : ay)]=some (l ++ [(⟨113,22,1,false,false,-1,-1,-1,0,0,true⟩ : ay)] ++ [(⟨145,23,1,false,false,-1,-1,-1,0,0,true⟩ : ay)] ++ [(⟨115,24,1,false,true,-1,-1,-1,0,0,false⟩ : ay)] ++ [(⟨114,24,1,false,false,-1,0,-1,-1,0,false⟩ : ay)] ++ [(⟨105,22,2,false,false,-1,-1,-1,0,0,true⟩ : ay)]):=fh (by first|omega|(simp;omega)) _
  have e1:Fx.app 80 (l ++ [(⟨113,22,1,false,false,-1,-1,-1,0,0,true⟩ : ay)] ++ [(⟨145,23,1,false,false,-1,-1,-1,0,0,true⟩ : ay)] ++ [(⟨115,24,1,false,true,-1,-1,-1,0,0,false⟩ : ay)] ++ [(⟨114,24,1,false,false,-1,0,-1,-1,0,false⟩ : ay)] ++ [(⟨105,22,2,false,false,-1,-1,-1,0,0,true⟩ : ay)]) [(⟨137,23,2,false,false,-1,-1,-1,0,0,true⟩ : ay)]=some (l ++ [(⟨113,22,1,false,false,-1,-1,-1,0,0,true⟩ : ay)] ++ [(⟨145,23,1,false,false,-1,-1,-1,0,0,true⟩ : ay)] ++ [(⟨115,24,1,false,true,-1,-1,-1,0,0,false⟩ : ay)] ++ [(⟨114,24,1,false,false,-1,0,-1,-1,0,false⟩ : ay)] ++ [(⟨105,22,2,false,false,-1,-1,-1,0,0,true⟩ : ay)] ++ [(⟨137,23,2,false,false,-1,-1,-1,0,0,true⟩ : ay)]):=fh (by first|omega|(simp;omega)) _
  have e2:Fx.app 80 (l ++ [(⟨113,22,1,false,false,-1,-1,-1,0,0,true⟩ : ay)] ++ [(⟨145,23,1,false,false,-1,-1,-1,0,0,true⟩ : ay)] ++ [(⟨115,24,1,false,true,-1,-1,-1,0,0,false⟩ : ay)] ++ [(⟨114,24,1,false,false,-1,0,-1,-1,0,false⟩ : ay)] ++ [(⟨105,22,2,false,false,-1,-1,-1,0,0,true⟩ : ay)] ++ [(⟨137,23,2,false,false,-1,-1,-1,0,0,true⟩ : ay)]) [(⟨107,24,2,false,true,-1,-1,-1,0,0,false⟩ : ay)]=some (l ++ [(⟨113,22,1,false,false,-1,-1,-1,0,0,true⟩ : ay)] ++ [(⟨145,23,1,false,false,-1,-1,-1,0,0,true⟩ : ay)] ++ [(⟨115,24,1,false,true,-1,-1,-1,0,0,false⟩ : ay)] ++ [(⟨114,24,1,false,false,-1,0,-1,-1,0,false⟩ : ay)] ++ [(⟨105,22,2,false,false,-1,-1,-1,0,0,true⟩ : ay)] ++ [(⟨137,23,2,false,false,-1,-1,-1,0,0,true⟩ : ay)] ++ [(⟨107,24,2,false,true,-1,-1,-1,0,0,false⟩ : ay)]):=fh (by first|omega|(simp;omega)) _
  have e3:Fx.app 80 (l ++ [(⟨113,22,1,false,false,-1,-1,-1,0,0,true⟩ : ay)] ++ [(⟨145,23,1,false,false,-1,-1,-1,0,0,true⟩ : ay)] ++ [(⟨115,24,1,false,true,-1,-1,-1,0,0,false⟩ : ay)] ++ [(⟨114,24,1,false,false,-1,0,-1,-1,0,false⟩ : ay)] ++ [(⟨105,22,2,false,false,-1,-1,-1,0,0,true⟩ : ay)] ++ [(⟨137,23,2,false,false,-1,-1,-1,0,0,true⟩ : ay)] ++ [(⟨107,24,2,false,true,-1,-1,-1,0,0,false⟩ : ay)]) [(⟨106,24,2,false,false,-1,0,-1,-1,0,false⟩ : ay)]=some (l ++ [(⟨113,22,1,false,false,-1,-1,-1,0,0,true⟩ : ay)] ++ [(⟨145,23,1,false,false,-1,-1,-1,0,0,true⟩ : ay)] ++ [(⟨115,24,1,false,true,-1,-1,-1,0,0,false⟩ : ay)] ++ [(⟨114,24,1,false,false,-1,0,-1,-1,0,false⟩ : ay)] ++ [(⟨105,22,2,false,false,-1,-1,-1,0,0,true⟩ : ay)] ++ [(⟨137,23,2,false,false,-1,-1,-1,0,0,true⟩ : ay)] ++ [(⟨107,24,2,false,true,-1,-1,-1,0,0,false⟩ : ay)] ++ [(⟨106,24,2,false,false,-1,0,-1,-1,0,false⟩ : ay)]):=fh (by first|omega|(simp;omega)) _
  have g0:Fx.get ([16,8,0,24]:List Int) 1=some (8:Int):=rfl
  have g1:decide (0≤IntKind.u64.wrap 1)=true:=rfl
  have g2:shl .i64 1 (IntKind.u64.wrap 1).toNat=(2:Int):=rfl
  have g3:IntKind.i64.wrap (97+8)=105:=rfl
  have g4:IntKind.i64.wrap (129+8)=137:=rfl
  have g5:IntKind.i64.wrap (99+8)=107:=rfl
  have g6:IntKind.i64.wrap (98+8)=106:=rfl
  have g7:IntKind.i64.wrap (195+8)=203:=rfl
  simp only[Sh.dC,Sh.pD,Sh.pE,Fx.must,Int.reduceLE,Int.reduceLT,decide_true,decide_false,abw,abt,aaG,aQ,e0,e1,e2,e3,g0,g1,g2,g3,g4,g5,g6,g7]
  rfl
 have h2:(l ++ [(⟨113,22,1,false,false,-1,-1,-1,0,0,true⟩ : ay)] ++ [(⟨145,23,1,false,false,-1,-1,-1,0,0,true⟩ : ay)] ++ [(⟨115,24,1,false,true,-1,-1,-1,0,0,false⟩ : ay)] ++ [(⟨114,24,1,false,false,-1,0,-1,-1,0,false⟩ : ay)] ++ [(⟨105,22,2,false,false,-1,-1,-1,0,0,true⟩ : ay)] ++ [(⟨137,23,2,false,false,-1,-1,-1,0,0,true⟩ : ay)] ++ [(⟨107,24,2,false,true,-1,-1,-1,0,0,false⟩ : ay)] ++ [(⟨106,24,2,false,false,-1,0,-1,-1,0,false⟩ : ay)]).length≤908:=by simp;omega
 have b2:Sh.dC (l ++ [(⟨113,22,1,false,false,-1,-1,-1,0,0,true⟩ : ay)] ++ [(⟨145,23,1,false,false,-1,-1,-1,0,0,true⟩ : ay)] ++ [(⟨115,24,1,false,true,-1,-1,-1,0,0,false⟩ : ay)] ++ [(⟨114,24,1,false,false,-1,0,-1,-1,0,false⟩ : ay)] ++ [(⟨105,22,2,false,false,-1,-1,-1,0,0,true⟩ : ay)] ++ [(⟨137,23,2,false,false,-1,-1,-1,0,0,true⟩ : ay)] ++ [(⟨107,24,2,false,true,-1,-1,-1,0,0,false⟩ : ay)] ++ [(⟨106,24,2,false,false,-1,0,-1,-1,0,false⟩ : ay)]) 2=some (.inl (l ++ [(⟨113,22,1,false,false,-1,-1,-1,0,0,true⟩ : ay)] ++ [(⟨145,23,1,false,false,-1,-1,-1,0,0,true⟩ : ay)] ++ [(⟨115,24,1,false,true,-1,-1,-1,0,0,false⟩ : ay)] ++ [(⟨114,24,1,false,false,-1,0,-1,-1,0,false⟩ : ay)] ++ [(⟨105,22,2,false,false,-1,-1,-1,0,0,true⟩ : ay)] ++ [(⟨137,23,2,false,false,-1,-1,-1,0,0,true⟩ : ay)] ++ [(⟨107,24,2,false,true,-1,-1,-1,0,0,false⟩ : ay)] ++ [(⟨106,24,2,false,false,-1,0,-1,-1,0,false⟩ : ay)] ++ [(⟨97,22,4,false,false,-1,-1,-1,0,0,true⟩ : ay)] ++ [(⟨129,23,4,false,false,-1,-1,-1,0,0,true⟩ : ay)] ++ [(⟨99,24,4,false,true,-1,-1,-1,0,0,false⟩ : ay)] ++ [(⟨98,24,4,false,false,-1,0,-1,-1,0,false⟩ : ay)] ++ [(⟨195,25,4,false,false,-1,-1,-1,-1,0,false⟩ : ay)],3)):=by
  have e0:Fx.app 80 (l ++ [(⟨113,22,1,false,false,-1,-1,-1,0,0,true⟩ : ay)] ++ [(⟨145,23,1,false,false,-1,-1,-1,0,0,true⟩ : ay)] ++ [(⟨115,24,1,false,true,-1,-1,-1,0,0,false⟩ : ay)] ++ [(⟨114,24,1,false,false,-1,0,-1,-1,0,false⟩ : ay)] ++ [(⟨105,22,2,false,false,-1,-1,-1,0,0,true⟩ : ay)] ++ [(⟨137,23,2,false,false,-1,-1,-1,0,0,true⟩ : ay)] ++ [(⟨107,24,2,false,true,-1,-1,-1,0,0,false⟩ : ay)] ++ [(⟨106,24,2,false,false,-1,0,-1,-1,0,false⟩ : ay)]) [(⟨97,22,4,false,false,-1,-1,-1,0,0,true⟩ : ay)]=some (l ++ [(⟨113,22,1,false,false,-1,-1,-1,0,0,true⟩ : ay)] ++ [(⟨145,23,1,false,false,-1,-1,-1,0,0,true⟩ : ay)] ++ [(⟨115,24,1,false,true,-1,-1,-1,0,0,false⟩ : ay)] ++ [(⟨114,24,1,false,false,-1,0,-1,-1,0,false⟩ : ay)] ++ [(⟨105,22,2,false,false,-1,-1,-1,0,0,true⟩ : ay)] ++ [(⟨137,23,2,false,false,-1,-1,-1,0,0,true⟩ : ay)] ++ [(⟨107,24,2,false,true,-1,-1,-1,0,0,false⟩ : ay)] ++ [(⟨106,24,2,false,false,-1,0,-1,-1,0,false⟩ : ay)] ++ [(⟨97,22,4,false,false,-1,-1,-1,0,0,true⟩ : ay)]):=fh (by first|omega|(simp;omega)) _
  have e1:Fx.app 80 (l ++ [(⟨113,22,1,false,false,-1,-1,-1,0,0,true⟩ : ay)] ++ [(⟨145,23,1,false,false,-1,-1,-1,0,0,true⟩ : ay)] ++ [(⟨115,24,1,false,true,-1,-1,-1,0,0,false⟩ : ay)] ++ [(⟨114,24,1,false,false,-1,0,-1,-1,0,false⟩ : ay)] ++ [(⟨105,22,2,false,false,-1,-1,-1,0,0,true⟩ : ay)] ++ [(⟨137,23,2,false,false,-1,-1,-1,0,0,true⟩ : ay)] ++ [(⟨107,24,2,false,true,-1,-1,-1,0,0,false⟩ : ay)] ++ [(⟨106,24,2,false,false,-1,0,-1,-1,0,false⟩ : ay)] ++ [(⟨97,22,4,false,false,-1,-1,-1,0,0,true⟩ : ay)]) [(⟨129,23,4,false,false,-1,-1,-1,0,0,true⟩ : ay)]=some (l ++ [(⟨113,22,1,false,false,-1,-1,-1,0,0,true⟩ : ay)] ++ [(⟨145,23,1,false,false,-1,-1,-1,0,0,true⟩ : ay)] ++ [(⟨115,24,1,false,true,-1,-1,-1,0,0,false⟩ : ay)] ++ [(⟨114,24,1,false,false,-1,0,-1,-1,0,false⟩ : ay)] ++ [(⟨105,22,2,false,false,-1,-1,-1,0,0,true⟩ : ay)] ++ [(⟨137,23,2,false,false,-1,-1,-1,0,0,true⟩ : ay)] ++ [(⟨107,24,2,false,true,-1,-1,-1,0,0,false⟩ : ay)] ++ [(⟨106,24,2,false,false,-1,0,-1,-1,0,false⟩ : ay)] ++ [(⟨97,22,4,false,false,-1,-1,-1,0,0,true⟩ : ay)] ++ [(⟨129,23,4,false,false,-1,-1,-1,0,0,true⟩ : ay)]):=fh (by first|omega|(simp;omega)) _
  have e2:Fx.app 80 (l ++ [(⟨113,22,1,false,false,-1,-1,-1,0,0,true⟩ : ay)] ++ [(⟨145,23,1,false,false,-1,-1,-1,0,0,true⟩ : ay)] ++ [(⟨115,24,1,false,true,-1,-1,-1,0,0,false⟩ : ay)] ++ [(⟨114,24,1,false,false,-1,0,-1,-1,0,false⟩ : ay)] ++ [(⟨105,22,2,false,false,-1,-1,-1,0,0,true⟩ : ay)] ++ [(⟨137,23,2,false,false,-1,-1,-1,0,0,true⟩ : ay)] ++ [(⟨107,24,2,false,true,-1,-1,-1,0,0,false⟩ : ay)] ++ [(⟨106,24,2,false,false,-1,0,-1,-1,0,false⟩ : ay)] ++ [(⟨97,22,4,false,false,-1,-1,-1,0,0,true⟩ : ay)] ++ [(⟨129,23,4,false,false,-1,-1,-1,0,0,true⟩ : ay)]) [(⟨99,24,4,false,true,-1,-1,-1,0,0,false⟩ : ay)]=some (l ++ [(⟨113,22,1,false,false,-1,-1,-1,0,0,true⟩ : ay)] ++ [(⟨145,23,1,false,false,-1,-1,-1,0,0,true⟩ : ay)] ++ [(⟨115,24,1,false,true,-1,-1,-1,0,0,false⟩ : ay)] ++ [(⟨114,24,1,false,false,-1,0,-1,-1,0,false⟩ : ay)] ++ [(⟨105,22,2,false,false,-1,-1,-1,0,0,true⟩ : ay)] ++ [(⟨137,23,2,false,false,-1,-1,-1,0,0,true⟩ : ay)] ++ [(⟨107,24,2,false,true,-1,-1,-1,0,0,false⟩ : ay)] ++ [(⟨106,24,2,false,false,-1,0,-1,-1,0,false⟩ : ay)] ++ [(⟨97,22,4,false,false,-1,-1,-1,0,0,true⟩ : ay)] ++ [(⟨129,23,4,false,false,-1,-1,-1,0,0,true⟩ : ay)] ++ [(⟨99,24,4,false,true,-1,-1,-1,0,0,false⟩ : ay)]):=fh (by first|omega|(simp;omega)) _
  have e3:Fx.app 80 (l ++ [(⟨113,22,1,false,false,-1,-1,-1,0,0,true⟩ : ay)] ++ [(⟨145,23,1,false,false,-1,-1,-1,0,0,true⟩ : ay)] ++ [(⟨115,24,1,false,true,-1,-1,-1,0,0,false⟩ : ay)] ++ [(⟨114,24,1,false,false,-1,0,-1,-1,0,false⟩ : ay)] ++ [(⟨105,22,2,false,false,-1,-1,-1,0,0,true⟩ : ay)] ++ [(⟨137,23,2,false,false,-1,-1,-1,0,0,true⟩ : ay)] ++ [(⟨107,24,2,false,true,-1,-1,-1,0,0,false⟩ : ay)] ++ [(⟨106,24,2,false,false,-1,0,-1,-1,0,false⟩ : ay)] ++ [(⟨97,22,4,false,false,-1,-1,-1,0,0,true⟩ : ay)] ++ [(⟨129,23,4,false,false,-1,-1,-1,0,0,true⟩ : ay)] ++ [(⟨99,24,4,false,true,-1,-1,-1,0,0,false⟩ : ay)]) [(⟨98,24,4,false,false,-1,0,-1,-1,0,false⟩ : ay)]=some (l ++ [(⟨113,22,1,false,false,-1,-1,-1,0,0,true⟩ : ay)] ++ [(⟨145,23,1,false,false,-1,-1,-1,0,0,true⟩ : ay)] ++ [(⟨115,24,1,false,true,-1,-1,-1,0,0,false⟩ : ay)] ++ [(⟨114,24,1,false,false,-1,0,-1,-1,0,false⟩ : ay)] ++ [(⟨105,22,2,false,false,-1,-1,-1,0,0,true⟩ : ay)] ++ [(⟨137,23,2,false,false,-1,-1,-1,0,0,true⟩ : ay)] ++ [(⟨107,24,2,false,true,-1,-1,-1,0,0,false⟩ : ay)] ++ [(⟨106,24,2,false,false,-1,0,-1,-1,0,false⟩ : ay)] ++ [(⟨97,22,4,false,false,-1,-1,-1,0,0,true⟩ : ay)] ++ [(⟨129,23,4,false,false,-1,-1,-1,0,0,true⟩ : ay)] ++ [(⟨99,24,4,false,true,-1,-1,-1,0,0,false⟩ : ay)] ++ [(⟨98,24,4,false,false,-1,0,-1,-1,0,false⟩ : ay)]):=fh (by first|omega|(simp;omega)) _
  have e4:Fx.app 80 (l ++ [(⟨113,22,1,false,false,-1,-1,-1,0,0,true⟩ : ay)] ++ [(⟨145,23,1,false,false,-1,-1,-1,0,0,true⟩ : ay)] ++ [(⟨115,24,1,false,true,-1,-1,-1,0,0,false⟩ : ay)] ++ [(⟨114,24,1,false,false,-1,0,-1,-1,0,false⟩ : ay)] ++ [(⟨105,22,2,false,false,-1,-1,-1,0,0,true⟩ : ay)] ++ [(⟨137,23,2,false,false,-1,-1,-1,0,0,true⟩ : ay)] ++ [(⟨107,24,2,false,true,-1,-1,-1,0,0,false⟩ : ay)] ++ [(⟨106,24,2,false,false,-1,0,-1,-1,0,false⟩ : ay)] ++ [(⟨97,22,4,false,false,-1,-1,-1,0,0,true⟩ : ay)] ++ [(⟨129,23,4,false,false,-1,-1,-1,0,0,true⟩ : ay)] ++ [(⟨99,24,4,false,true,-1,-1,-1,0,0,false⟩ : ay)] ++ [(⟨98,24,4,false,false,-1,0,-1,-1,0,false⟩ : ay)]) [(⟨195,25,4,false,false,-1,-1,-1,-1,0,false⟩ : ay)]=some (l ++ [(⟨113,22,1,false,false,-1,-1,-1,0,0,true⟩ : ay)] ++ [(⟨145,23,1,false,false,-1,-1,-1,0,0,true⟩ : ay)] ++ [(⟨115,24,1,false,true,-1,-1,-1,0,0,false⟩ : ay)] ++ [(⟨114,24,1,false,false,-1,0,-1,-1,0,false⟩ : ay)] ++ [(⟨105,22,2,false,false,-1,-1,-1,0,0,true⟩ : ay)] ++ [(⟨137,23,2,false,false,-1,-1,-1,0,0,true⟩ : ay)] ++ [(⟨107,24,2,false,true,-1,-1,-1,0,0,false⟩ : ay)] ++ [(⟨106,24,2,false,false,-1,0,-1,-1,0,false⟩ : ay)] ++ [(⟨97,22,4,false,false,-1,-1,-1,0,0,true⟩ : ay)] ++ [(⟨129,23,4,false,false,-1,-1,-1,0,0,true⟩ : ay)] ++ [(⟨99,24,4,false,true,-1,-1,-1,0,0,false⟩ : ay)] ++ [(⟨98,24,4,false,false,-1,0,-1,-1,0,false⟩ : ay)] ++ [(⟨195,25,4,false,false,-1,-1,-1,-1,0,false⟩ : ay)]):=fh (by first|omega|(simp;omega)) _
  have g0:Fx.get ([16,8,0,24]:List Int) 2=some (0:Int):=rfl
  have g1:decide (0≤IntKind.u64.wrap 2)=true:=rfl
  have g2:shl .i64 1 (IntKind.u64.wrap 2).toNat=(4:Int):=rfl
  have g3:IntKind.i64.wrap (97+0)=97:=rfl
  have g4:IntKind.i64.wrap (129+0)=129:=rfl
  have g5:IntKind.i64.wrap (99+0)=99:=rfl
  have g6:IntKind.i64.wrap (98+0)=98:=rfl
  have g7:IntKind.i64.wrap (195+0)=195:=rfl
  simp only[Sh.dC,Sh.pD,Sh.pE,Fx.must,Int.reduceLE,Int.reduceLT,decide_true,decide_false,abw,abt,aaG,aQ,e0,e1,e2,e3,e4,g0,g1,g2,g3,g4,g5,g6,g7]
  rfl
 have h3:(l ++ [(⟨113,22,1,false,false,-1,-1,-1,0,0,true⟩ : ay)] ++ [(⟨145,23,1,false,false,-1,-1,-1,0,0,true⟩ : ay)] ++ [(⟨115,24,1,false,true,-1,-1,-1,0,0,false⟩ : ay)] ++ [(⟨114,24,1,false,false,-1,0,-1,-1,0,false⟩ : ay)] ++ [(⟨105,22,2,false,false,-1,-1,-1,0,0,true⟩ : ay)] ++ [(⟨137,23,2,false,false,-1,-1,-1,0,0,true⟩ : ay)] ++ [(⟨107,24,2,false,true,-1,-1,-1,0,0,false⟩ : ay)] ++ [(⟨106,24,2,false,false,-1,0,-1,-1,0,false⟩ : ay)] ++ [(⟨97,22,4,false,false,-1,-1,-1,0,0,true⟩ : ay)] ++ [(⟨129,23,4,false,false,-1,-1,-1,0,0,true⟩ : ay)] ++ [(⟨99,24,4,false,true,-1,-1,-1,0,0,false⟩ : ay)] ++ [(⟨98,24,4,false,false,-1,0,-1,-1,0,false⟩ : ay)] ++ [(⟨195,25,4,false,false,-1,-1,-1,-1,0,false⟩ : ay)]).length≤913:=by simp;omega
 have b3:Sh.dC (l ++ [(⟨113,22,1,false,false,-1,-1,-1,0,0,true⟩ : ay)] ++ [(⟨145,23,1,false,false,-1,-1,-1,0,0,true⟩ : ay)] ++ [(⟨115,24,1,false,true,-1,-1,-1,0,0,false⟩ : ay)] ++ [(⟨114,24,1,false,false,-1,0,-1,-1,0,false⟩ : ay)] ++ [(⟨105,22,2,false,false,-1,-1,-1,0,0,true⟩ : ay)] ++ [(⟨137,23,2,false,false,-1,-1,-1,0,0,true⟩ : ay)] ++ [(⟨107,24,2,false,true,-1,-1,-1,0,0,false⟩ : ay)] ++ [(⟨106,24,2,false,false,-1,0,-1,-1,0,false⟩ : ay)] ++ [(⟨97,22,4,false,false,-1,-1,-1,0,0,true⟩ : ay)] ++ [(⟨129,23,4,false,false,-1,-1,-1,0,0,true⟩ : ay)] ++ [(⟨99,24,4,false,true,-1,-1,-1,0,0,false⟩ : ay)] ++ [(⟨98,24,4,false,false,-1,0,-1,-1,0,false⟩ : ay)] ++ [(⟨195,25,4,false,false,-1,-1,-1,-1,0,false⟩ : ay)]) 3=some (.inl (l ++ [(⟨113,22,1,false,false,-1,-1,-1,0,0,true⟩ : ay)] ++ [(⟨145,23,1,false,false,-1,-1,-1,0,0,true⟩ : ay)] ++ [(⟨115,24,1,false,true,-1,-1,-1,0,0,false⟩ : ay)] ++ [(⟨114,24,1,false,false,-1,0,-1,-1,0,false⟩ : ay)] ++ [(⟨105,22,2,false,false,-1,-1,-1,0,0,true⟩ : ay)] ++ [(⟨137,23,2,false,false,-1,-1,-1,0,0,true⟩ : ay)] ++ [(⟨107,24,2,false,true,-1,-1,-1,0,0,false⟩ : ay)] ++ [(⟨106,24,2,false,false,-1,0,-1,-1,0,false⟩ : ay)] ++ [(⟨97,22,4,false,false,-1,-1,-1,0,0,true⟩ : ay)] ++ [(⟨129,23,4,false,false,-1,-1,-1,0,0,true⟩ : ay)] ++ [(⟨99,24,4,false,true,-1,-1,-1,0,0,false⟩ : ay)] ++ [(⟨98,24,4,false,false,-1,0,-1,-1,0,false⟩ : ay)] ++ [(⟨195,25,4,false,false,-1,-1,-1,-1,0,false⟩ : ay)] ++ [(⟨121,22,8,false,false,-1,-1,-1,0,0,true⟩ : ay)] ++ [(⟨123,24,8,false,true,-1,-1,-1,0,0,false⟩ : ay)] ++ [(⟨122,24,8,false,false,-1,0,-1,-1,0,false⟩ : ay)] ++ [(⟨219,25,8,false,false,-1,-1,-1,-1,0,false⟩ : ay)],4)):=by
  have e0:Fx.app 80 (l ++ [(⟨113,22,1,false,false,-1,-1,-1,0,0,true⟩ : ay)] ++ [(⟨145,23,1,false,false,-1,-1,-1,0,0,true⟩ : ay)] ++ [(⟨115,24,1,false,true,-1,-1,-1,0,0,false⟩ : ay)] ++ [(⟨114,24,1,false,false,-1,0,-1,-1,0,false⟩ : ay)] ++ [(⟨105,22,2,false,false,-1,-1,-1,0,0,true⟩ : ay)] ++ [(⟨137,23,2,false,false,-1,-1,-1,0,0,true⟩ : ay)] ++ [(⟨107,24,2,false,true,-1,-1,-1,0,0,false⟩ : ay)] ++ [(⟨106,24,2,false,false,-1,0,-1,-1,0,false⟩ : ay)] ++ [(⟨97,22,4,false,false,-1,-1,-1,0,0,true⟩ : ay)] ++ [(⟨129,23,4,false,false,-1,-1,-1,0,0,true⟩ : ay)] ++ [(⟨99,24,4,false,true,-1,-1,-1,0,0,false⟩ : ay)] ++ [(⟨98,24,4,false,false,-1,0,-1,-1,0,false⟩ : ay)] ++ [(⟨195,25,4,false,false,-1,-1,-1,-1,0,false⟩ : ay)]) [(⟨121,22,8,false,false,-1,-1,-1,0,0,true⟩ : ay)]=some (l ++ [(⟨113,22,1,false,false,-1,-1,-1,0,0,true⟩ : ay)] ++ [(⟨145,23,1,false,false,-1,-1,-1,0,0,true⟩ : ay)] ++ [(⟨115,24,1,false,true,-1,-1,-1,0,0,false⟩ : ay)] ++ [(⟨114,24,1,false,false,-1,0,-1,-1,0,false⟩ : ay)] ++ [(⟨105,22,2,false,false,-1,-1,-1,0,0,true⟩ : ay)] ++ [(⟨137,23,2,false,false,-1,-1,-1,0,0,true⟩ : ay)] ++ [(⟨107,24,2,false,true,-1,-1,-1,0,0,false⟩ : ay)] ++ [(⟨106,24,2,false,false,-1,0,-1,-1,0,false⟩ : ay)] ++ [(⟨97,22,4,false,false,-1,-1,-1,0,0,true⟩ : ay)] ++ [(⟨129,23,4,false,false,-1,-1,-1,0,0,true⟩ : ay)] ++ [(⟨99,24,4,false,true,-1,-1,-1,0,0,false⟩ : ay)] ++ [(⟨98,24,4,false,false,-1,0,-1,-1,0,false⟩ : ay)] ++ [(⟨195,25,4,false,false,-1,-1,-1,-1,0,false⟩ : ay)] ++ [(⟨121,22,8,false,false,-1,-1,-1,0,0,true⟩ : ay)]):=fh (by first|omega|(simp;omega)) _
  have e1:Fx.app 80 (l ++ [(⟨113,22,1,false,false,-1,-1,-1,0,0,true⟩ : ay)] ++ [(⟨145,23,1,false,false,-1,-1,-1,0,0,true⟩ : ay)] ++ [(⟨115,24,1,false,true,-1,-1,-1,0,0,false⟩ : ay)] ++ [(⟨114,24,1,false,false,-1,0,-1,-1,0,false⟩ : ay)] ++ [(⟨105,22,2,false,false,-1,-1,-1,0,0,true⟩ : ay)] ++ [(⟨137,23,2,false,false,-1,-1,-1,0,0,true⟩ : ay)] ++ [(⟨107,24,2,false,true,-1,-1,-1,0,0,false⟩ : ay)] ++ [(⟨106,24,2,false,false,-1,0,-1,-1,0,false⟩ : ay)] ++ [(⟨97,22,4,false,false,-1,-1,-1,0,0,true⟩ : ay)] ++ [(⟨129,23,4,false,false,-1,-1,-1,0,0,true⟩ : ay)] ++ [(⟨99,24,4,false,true,-1,-1,-1,0,0,false⟩ : ay)] ++ [(⟨98,24,4,false,false,-1,0,-1,-1,0,false⟩ : ay)] ++ [(⟨195,25,4,false,false,-1,-1,-1,-1,0,false⟩ : ay)] ++ [(⟨121,22,8,false,false,-1,-1,-1,0,0,true⟩ : ay)]) [(⟨123,24,8,false,true,-1,-1,-1,0,0,false⟩ : ay)]=some (l ++ [(⟨113,22,1,false,false,-1,-1,-1,0,0,true⟩ : ay)] ++ [(⟨145,23,1,false,false,-1,-1,-1,0,0,true⟩ : ay)] ++ [(⟨115,24,1,false,true,-1,-1,-1,0,0,false⟩ : ay)] ++ [(⟨114,24,1,false,false,-1,0,-1,-1,0,false⟩ : ay)] ++ [(⟨105,22,2,false,false,-1,-1,-1,0,0,true⟩ : ay)] ++ [(⟨137,23,2,false,false,-1,-1,-1,0,0,true⟩ : ay)] ++ [(⟨107,24,2,false,true,-1,-1,-1,0,0,false⟩ : ay)] ++ [(⟨106,24,2,false,false,-1,0,-1,-1,0,false⟩ : ay)] ++ [(⟨97,22,4,false,false,-1,-1,-1,0,0,true⟩ : ay)] ++ [(⟨129,23,4,false,false,-1,-1,-1,0,0,true⟩ : ay)] ++ [(⟨99,24,4,false,true,-1,-1,-1,0,0,false⟩ : ay)] ++ [(⟨98,24,4,false,false,-1,0,-1,-1,0,false⟩ : ay)] ++ [(⟨195,25,4,false,false,-1,-1,-1,-1,0,false⟩ : ay)] ++ [(⟨121,22,8,false,false,-1,-1,-1,0,0,true⟩ : ay)] ++ [(⟨123,24,8,false,true,-1,-1,-1,0,0,false⟩ : ay)]):=fh (by first|omega|(simp;omega)) _
  have e2:Fx.app 80 (l ++ [(⟨113,22,1,false,false,-1,-1,-1,0,0,true⟩ : ay)] ++ [(⟨145,23,1,false,false,-1,-1,-1,0,0,true⟩ : ay)] ++ [(⟨115,24,1,false,true,-1,-1,-1,0,0,false⟩ : ay)] ++ [(⟨114,24,1,false,false,-1,0,-1,-1,0,false⟩ : ay)] ++ [(⟨105,22,2,false,false,-1,-1,-1,0,0,true⟩ : ay)] ++ [(⟨137,23,2,false,false,-1,-1,-1,0,0,true⟩ : ay)] ++ [(⟨107,24,2,false,true,-1,-1,-1,0,0,false⟩ : ay)] ++ [(⟨106,24,2,false,false,-1,0,-1,-1,0,false⟩ : ay)] ++ [(⟨97,22,4,false,false,-1,-1,-1,0,0,true⟩ : ay)] ++ [(⟨129,23,4,false,false,-1,-1,-1,0,0,true⟩ : ay)] ++ [(⟨99,24,4,false,true,-1,-1,-1,0,0,false⟩ : ay)] ++ [(⟨98,24,4,false,false,-1,0,-1,-1,0,false⟩ : ay)] ++ [(⟨195,25,4,false,false,-1,-1,-1,-1,0,false⟩ : ay)] ++ [(⟨121,22,8,false,false,-1,-1,-1,0,0,true⟩ : ay)] ++ [(⟨123,24,8,false,true,-1,-1,-1,0,0,false⟩ : ay)]) [(⟨122,24,8,false,false,-1,0,-1,-1,0,false⟩ : ay)]=some (l ++ [(⟨113,22,1,false,false,-1,-1,-1,0,0,true⟩ : ay)] ++ [(⟨145,23,1,false,false,-1,-1,-1,0,0,true⟩ : ay)] ++ [(⟨115,24,1,false,true,-1,-1,-1,0,0,false⟩ : ay)] ++ [(⟨114,24,1,false,false,-1,0,-1,-1,0,false⟩ : ay)] ++ [(⟨105,22,2,false,false,-1,-1,-1,0,0,true⟩ : ay)] ++ [(⟨137,23,2,false,false,-1,-1,-1,0,0,true⟩ : ay)] ++ [(⟨107,24,2,false,true,-1,-1,-1,0,0,false⟩ : ay)] ++ [(⟨106,24,2,false,false,-1,0,-1,-1,0,false⟩ : ay)] ++ [(⟨97,22,4,false,false,-1,-1,-1,0,0,true⟩ : ay)] ++ [(⟨129,23,4,false,false,-1,-1,-1,0,0,true⟩ : ay)] ++ [(⟨99,24,4,false,true,-1,-1,-1,0,0,false⟩ : ay)] ++ [(⟨98,24,4,false,false,-1,0,-1,-1,0,false⟩ : ay)] ++ [(⟨195,25,4,false,false,-1,-1,-1,-1,0,false⟩ : ay)] ++ [(⟨121,22,8,false,false,-1,-1,-1,0,0,true⟩ : ay)] ++ [(⟨123,24,8,false,true,-1,-1,-1,0,0,false⟩ : ay)] ++ [(⟨122,24,8,false,false,-1,0,-1,-1,0,false⟩ : ay)]):=fh (by first|omega|(simp;omega)) _
  have e3:Fx.app 80 (l ++ [(⟨113,22,1,false,false,-1,-1,-1,0,0,true⟩ : ay)] ++ [(⟨145,23,1,false,false,-1,-1,-1,0,0,true⟩ : ay)] ++ [(⟨115,24,1,false,true,-1,-1,-1,0,0,false⟩ : ay)] ++ [(⟨114,24,1,false,false,-1,0,-1,-1,0,false⟩ : ay)] ++ [(⟨105,22,2,false,false,-1,-1,-1,0,0,true⟩ : ay)] ++ [(⟨137,23,2,false,false,-1,-1,-1,0,0,true⟩ : ay)] ++ [(⟨107,24,2,false,true,-1,-1,-1,0,0,false⟩ : ay)] ++ [(⟨106,24,2,false,false,-1,0,-1,-1,0,false⟩ : ay)] ++ [(⟨97,22,4,false,false,-1,-1,-1,0,0,true⟩ : ay)] ++ [(⟨129,23,4,false,false,-1,-1,-1,0,0,true⟩ : ay)] ++ [(⟨99,24,4,false,true,-1,-1,-1,0,0,false⟩ : ay)] ++ [(⟨98,24,4,false,false,-1,0,-1,-1,0,false⟩ : ay)] ++ [(⟨195,25,4,false,false,-1,-1,-1,-1,0,false⟩ : ay)] ++ [(⟨121,22,8,false,false,-1,-1,-1,0,0,true⟩ : ay)] ++ [(⟨123,24,8,false,true,-1,-1,-1,0,0,false⟩ : ay)] ++ [(⟨122,24,8,false,false,-1,0,-1,-1,0,false⟩ : ay)]) [(⟨219,25,8,false,false,-1,-1,-1,-1,0,false⟩ : ay)]=some (l ++ [(⟨113,22,1,false,false,-1,-1,-1,0,0,true⟩ : ay)] ++ [(⟨145,23,1,false,false,-1,-1,-1,0,0,true⟩ : ay)] ++ [(⟨115,24,1,false,true,-1,-1,-1,0,0,false⟩ : ay)] ++ [(⟨114,24,1,false,false,-1,0,-1,-1,0,false⟩ : ay)] ++ [(⟨105,22,2,false,false,-1,-1,-1,0,0,true⟩ : ay)] ++ [(⟨137,23,2,false,false,-1,-1,-1,0,0,true⟩ : ay)] ++ [(⟨107,24,2,false,true,-1,-1,-1,0,0,false⟩ : ay)] ++ [(⟨106,24,2,false,false,-1,0,-1,-1,0,false⟩ : ay)] ++ [(⟨97,22,4,false,false,-1,-1,-1,0,0,true⟩ : ay)] ++ [(⟨129,23,4,false,false,-1,-1,-1,0,0,true⟩ : ay)] ++ [(⟨99,24,4,false,true,-1,-1,-1,0,0,false⟩ : ay)] ++ [(⟨98,24,4,false,false,-1,0,-1,-1,0,false⟩ : ay)] ++ [(⟨195,25,4,false,false,-1,-1,-1,-1,0,false⟩ : ay)] ++ [(⟨121,22,8,false,false,-1,-1,-1,0,0,true⟩ : ay)] ++ [(⟨123,24,8,false,true,-1,-1,-1,0,0,false⟩ : ay)] ++ [(⟨122,24,8,false,false,-1,0,-1,-1,0,false⟩ : ay)] ++ [(⟨219,25,8,false,false,-1,-1,-1,-1,0,false⟩ : ay)]):=fh (by first|omega|(simp;omega)) _
  have g0:Fx.get ([16,8,0,24]:List Int) 3=some (24:Int):=rfl
  have g1:decide (0≤IntKind.u64.wrap 3)=true:=rfl
  have g2:shl .i64 1 (IntKind.u64.wrap 3).toNat=(8:Int):=rfl
  have g3:IntKind.i64.wrap (97+24)=121:=rfl
  have g4:IntKind.i64.wrap (129+24)=153:=rfl
  have g5:IntKind.i64.wrap (99+24)=123:=rfl
  have g6:IntKind.i64.wrap (98+24)=122:=rfl
  have g7:IntKind.i64.wrap (195+24)=219:=rfl
  simp only[Sh.dC,Sh.pD,Sh.pE,Fx.must,Int.reduceLE,Int.reduceLT,decide_true,decide_false,abw,abt,aaG,aQ,e0,e1,e2,e3,g0,g1,g2,g3,g4,g5,g6,g7]
  rfl
 have e:Fx.loop (γ:=List ay⊕List ay) (fun(v:List ay×Int)=>match v with|(a,b)=>Sh.dC a b) (l,0)=some (.inl (l ++ [(⟨113,22,1,false,false,-1,-1,-1,0,0,true⟩ : ay)] ++ [(⟨145,23,1,false,false,-1,-1,-1,0,0,true⟩ : ay)] ++ [(⟨115,24,1,false,true,-1,-1,-1,0,0,false⟩ : ay)] ++ [(⟨114,24,1,false,false,-1,0,-1,-1,0,false⟩ : ay)] ++ [(⟨105,22,2,false,false,-1,-1,-1,0,0,true⟩ : ay)] ++ [(⟨137,23,2,false,false,-1,-1,-1,0,0,true⟩ : ay)] ++ [(⟨107,24,2,false,true,-1,-1,-1,0,0,false⟩ : ay)] ++ [(⟨106,24,2,false,false,-1,0,-1,-1,0,false⟩ : ay)] ++ [(⟨97,22,4,false,false,-1,-1,-1,0,0,true⟩ : ay)] ++ [(⟨129,23,4,false,false,-1,-1,-1,0,0,true⟩ : ay)] ++ [(⟨99,24,4,false,true,-1,-1,-1,0,0,false⟩ : ay)] ++ [(⟨98,24,4,false,false,-1,0,-1,-1,0,false⟩ : ay)] ++ [(⟨195,25,4,false,false,-1,-1,-1,-1,0,false⟩ : ay)] ++ [(⟨121,22,8,false,false,-1,-1,-1,0,0,true⟩ : ay)] ++ [(⟨123,24,8,false,true,-1,-1,-1,0,0,false⟩ : ay)] ++ [(⟨122,24,8,false,false,-1,0,-1,-1,0,false⟩ : ay)] ++ [(⟨219,25,8,false,false,-1,-1,-1,-1,0,false⟩ : ay)])):=cR b0 (cR b1 (cR b2 (cR b3 (cV rfl))))
 rw[e];simp[CW]
def qw:List ay:=[]++kr 1 0 0++kr 2 1 0++kr 3 2 0++kr 4 3 0++kr 6 3 1++kr 8 4 0++kr 9 5 0++kr 11 6 0++kr 12 7 0++kr 5 9 0++kr 7 9 1++kr 10 10 0++kr 15 11 0++kr 13 12 0++CX ++ [(⟨135,14,0,false,false,-1,0,0,0,0,true⟩ : ay)] ++ [(⟨132,14,0,true,false,-1,0,0,0,0,true⟩ : ay)]++KF ++ [(⟨24,20,0,false,false,-1,0,0,-1,-1,true⟩ : ay)] ++ [(⟨24,21,0,false,false,-1,6,0,0,-1,true⟩ : ay)]++CW ++ [(⟨5,26,0,false,false,0,0,-1,0,0,false⟩ : ay)] ++ [(⟨6,26,0,true,false,0,0,0,-1,0,false⟩ : ay)]++jy 27 1++jy 29 2++jy 30 3++jy 37 4++jy 28 5++jy 33 6++jy 34 7++jy 31 10++jy 32 11++jy 35 12++jy 36 13 ++ [(⟨133,38,0,false,false,0,0,0,-1,0,false⟩ : ay)] ++ [(⟨149,39,0,false,false,0,0,0,0,0,false⟩ : ay)]
end Go.Sp
end
section
namespace Go.Sp
open Go Go.Fw Go.Fx Go.Proofs
set_option maxRecDepth 10000
set_option maxHeartbeats 1000000
theorem dZ{X Y:Type}{o:Option X}{a:X}{f:X→Option Y}{r:Option Y}(h:o=some a)(k:f a=r):o.bind f=r:=by rw[h];exact k
theorem K7{A X:Type}{t:Option (A⊕X)}{a:A}{k:A→Option X}{r:Option X}(h:t=some (.inl a))(h2:k a=r):Fx.seq t k=r:=by rw[h];exact h2
theorem jz{l m:List ay}{n k:Nat}(h:l.length≤n)(h2:m.length=k):(l++m).length≤n+k:=by rw[abT];omega
theorem WE:Sh.D3=some qw:=by
 have l0:([]:List ay).length≤0:=aal _
 unfold Sh.D3
 refine dZ (gJ (aam l0 (by decide)) _ _ _) ?_
 have l1:=jz (k:=4) l0 (show(kr 1 0 0).length=4 from rfl)
 refine dZ (gJ (aam l1 (by decide)) _ _ _) ?_
 have l2:=jz (k:=4) l1 (show(kr 2 1 0).length=4 from rfl)
 refine dZ (gJ (aam l2 (by decide)) _ _ _) ?_
 have l3:=jz (k:=4) l2 (show(kr 3 2 0).length=4 from rfl)
 refine dZ (gJ (aam l3 (by decide)) _ _ _) ?_
 have l4:=jz (k:=4) l3 (show(kr 4 3 0).length=4 from rfl)
 refine dZ (gJ (aam l4 (by decide)) _ _ _) ?_
 have l5:=jz (k:=4) l4 (show(kr 6 3 1).length=4 from rfl)
 refine dZ (gJ (aam l5 (by decide)) _ _ _) ?_
 have l6:=jz (k:=4) l5 (show(kr 8 4 0).length=4 from rfl)
 refine dZ (gJ (aam l6 (by decide)) _ _ _) ?_
 have l7:=jz (k:=4) l6 (show(kr 9 5 0).length=4 from rfl)
 refine dZ (gJ (aam l7 (by decide)) _ _ _) ?_
 have l8:=jz (k:=4) l7 (show(kr 11 6 0).length=4 from rfl)
 refine dZ (gJ (aam l8 (by decide)) _ _ _) ?_
 have l9:=jz (k:=4) l8 (show(kr 12 7 0).length=4 from rfl)
 refine dZ (gJ (aam l9 (by decide)) _ _ _) ?_
 have l10:=jz (k:=4) l9 (show(kr 5 9 0).length=4 from rfl)
 refine dZ (gJ (aam l10 (by decide)) _ _ _) ?_
 have Q9:=jz (k:=4) l10 (show(kr 7 9 1).length=4 from rfl)
 refine dZ (gJ (aam Q9 (by decide)) _ _ _) ?_
 have Q_:=jz (k:=4) Q9 (show(kr 10 10 0).length=4 from rfl)
 refine dZ (gJ (aam Q_ (by decide)) _ _ _) ?_
 have Rb:=jz (k:=4) Q_ (show(kr 15 11 0).length=4 from rfl)
 refine dZ (gJ (aam Rb (by decide)) _ _ _) ?_
 have Rf:=jz (k:=4) Rb (show(kr 13 12 0).length=4 from rfl)
 refine K7 (Up (aam Rf (by decide))) ?_
 unfold Sh.aEs
 have Rh:=jz (k:=5) Rf (show(CX).length=5 from rfl)
 refine dZ (fh (aam Rh (by decide)) _) ?_
 have Ri:=jz (k:=1) Rh (show([(⟨135,14,0,false,false,-1,0,0,0,0,true⟩ : ay)]).length=1 from rfl)
 refine dZ (fh (aam Ri (by decide)) _) ?_
 have Rj:=jz (k:=1) Ri (show([(⟨132,14,0,true,false,-1,0,0,0,0,true⟩ : ay)]).length=1 from rfl)
 refine K7 (UQ (aam Rj (by decide))) ?_
 unfold Sh.aEt
 have Rk:=jz (k:=9) Rj (show(KF).length=9 from rfl)
 refine dZ (fh (aam Rk (by decide)) _) ?_
 have Rl:=jz (k:=1) Rk (show([(⟨24,20,0,false,false,-1,0,0,-1,-1,true⟩ : ay)]).length=1 from rfl)
 refine dZ (fh (aam Rl (by decide)) _) ?_
 have Rm:=jz (k:=1) Rl (show([(⟨24,21,0,false,false,-1,6,0,0,-1,true⟩ : ay)]).length=1 from rfl)
 refine K7 (Uk (aam Rm (by decide))) ?_
 unfold Sh.aEu
 have Rn:=jz (k:=17) Rm (show(CW).length=17 from rfl)
 refine dZ (fh (aam Rn (by decide)) _) ?_
 have Ro:=jz (k:=1) Rn (show([(⟨5,26,0,false,false,0,0,-1,0,0,false⟩ : ay)]).length=1 from rfl)
 refine dZ (fh (aam Ro (by decide)) _) ?_
 have KC:=jz (k:=1) Ro (show([(⟨6,26,0,true,false,0,0,0,-1,0,false⟩ : ay)]).length=1 from rfl)
 refine dZ (gW (aam KC (by decide)) _ _) ?_
 have Rq:=jz (k:=4) KC (show(jy 27 1).length=4 from rfl)
 refine dZ (gW (aam Rq (by decide)) _ _) ?_
 have Rt:=jz (k:=4) Rq (show(jy 29 2).length=4 from rfl)
 refine dZ (gW (aam Rt (by decide)) _ _) ?_
 have Ru:=jz (k:=4) Rt (show(jy 30 3).length=4 from rfl)
 refine dZ (gW (aam Ru (by decide)) _ _) ?_
 have Rw:=jz (k:=4) Ru (show(jy 37 4).length=4 from rfl)
 refine dZ (gW (aam Rw (by decide)) _ _) ?_
 have KD:=jz (k:=4) Rw (show(jy 28 5).length=4 from rfl)
 refine dZ (gW (aam KD (by decide)) _ _) ?_
 have Rx:=jz (k:=4) KD (show(jy 33 6).length=4 from rfl)
 refine dZ (gW (aam Rx (by decide)) _ _) ?_
 have Ry:=jz (k:=4) Rx (show(jy 34 7).length=4 from rfl)
 refine dZ (gW (aam Ry (by decide)) _ _) ?_
 have Rz:=jz (k:=4) Ry (show(jy 31 10).length=4 from rfl)
 refine dZ (gW (aam Rz (by decide)) _ _) ?_
 have RA:=jz (k:=4) Rz (show(jy 32 11).length=4 from rfl)
 refine dZ (gW (aam RA (by decide)) _ _) ?_
 have KE:=jz (k:=4) RA (show(jy 35 12).length=4 from rfl)
 refine dZ (gW (aam KE (by decide)) _ _) ?_
 have RB:=jz (k:=4) KE (show(jy 36 13).length=4 from rfl)
 refine dZ (fh (aam RB (by decide)) _) ?_
 have RD:=jz (k:=1) RB (show([(⟨133,38,0,false,false,0,0,0,-1,0,false⟩ : ay)]).length=1 from rfl)
 refine dZ (fh (aam RD (by decide)) _) ?_
 have l36:=jz (k:=1) RD (show([(⟨149,39,0,false,false,0,0,0,0,0,false⟩ : ay)]).length=1 from rfl)
 rfl
def Ez(x:bg)(y:ay):Bool:=decide (y.op=x.op)&&(decide (y.narrow=x.narrow)&&(decide (y.reg=x.reg)&&decide (y.size=x.size)))
theorem J0{L:List ay}(hL:L.length≤1000){x:bg}{y:ay}(h:L.find? (Ez x)=some y):Sh.D4 L x=some (y,true):=by
 obtain⟨hy,n,hn,e,hlt⟩:=List.find?_eq_some_iff_getElem.1 h
 unfold Sh.D4
 obtain⟨o,e,rfl⟩:=bY (body:=fun Oi=>Sh.tV L x Oi) L.length (fun i (_:Unit)=>(i:Int)) (fun i _=>i≤n) (fun o=>o=inr (y,true))
  (fun i _ hi hI=>by
   have RQ:∀ b,Ez x L[i]=b→Sh.tV L x (i:Int)=Sh.yL (i:Int) L[i] b:=fun b hb=>by
    unfold Sh.tV
    rw[bT,aaV hi,abw,aX hi,aaG]
    refine bI (o:=.inl b) ?_ rfl
    rw[←hb];unfold Ez
    cases decide (L[i].op=x.op)<;>cases decide (L[i].narrow=x.narrow)<;>cases decide (L[i].reg=x.reg)<;>rfl
   by_cases c:i=n
   ·subst c
    right
    refine⟨_,(RQ true (by rw[e];exact hy)).trans rfl,by rw[e]⟩
   ·left
    have:=hlt i ac_
    refine⟨(),(RQ false (by simpa using this)).trans ?_,ac_⟩
    show some (inl (IntKind.i64.wrap ((i:Int)+1)))=_
    rw[gq hi ac_])
  (fun _ hI=>absurd hI ac_) L.length 0 () ac_ (aau _)
 exact bI e rfl
theorem wV:qw.length≤1000:=by
 have e:qw.length=139:=by kernel_rfl
 omega
theorem WB(n:Int):Sh.gK qw (Wd n)=some 0:=by
 unfold Sh.gK
 rw[J0 wV (x:=Wd n) (y:=(⟨24,20,0,false,false,-1,0,0,-1,-1,true⟩ : ay)) ada,aaG]
 rfl
theorem Wy:Sh.gK qw Em=some 0:=by
 unfold Sh.gK
 rw[J0 wV (x:=Em) (y:=(⟨133,38,0,false,false,0,0,0,-1,0,false⟩ : ay)) ada,aaG]
 rfl
theorem WA:Sh.gK qw Mv=some 0:=by
 unfold Sh.gK
 rw[J0 wV (x:=Mv) (y:=o9 15 11 0) ada,aaG]
 rfl
theorem WC:Sh.gK qw Ex=some 0:=by
 unfold Sh.gK
 rw[J0 wV (x:=Ex) (y:=(⟨149,39,0,false,false,0,0,0,0,0,false⟩ : ay)) ada,aaG]
 rfl
theorem Fb(ys:List Int):∀ i∈oc ys,Sh.gK qw i=some 0:=K4 WB Wy WA WC
theorem V0{ys:List Int}(h:ys.length≤70):Sh.uM (qs ys)=some (0,0):=by
 have hl:=mB ys
 unfold Sh.uM
 have e1:Sh.yB (qs ys).lo (qs ys).hi (qs ys).data (qs ys).ah=some 0:=by
  unfold Sh.yB
  refine bI (o:=.inl false) rfl ?_
  show Sh.rN (qs ys).data (qs ys).ah false=_
  unfold Sh.rN
  exact bI (cV (g:=.inl ()) rfl) rfl
 have e2:Sh.uL (qs ys).code=some (0,0):=by
  unfold Sh.uL
  rw[WE,aaG,show(qs ys).code=oc ys from rfl]
  obtain⟨o,e,rfl⟩:=bY (body:=fun Oe=>Sh.rM (oc ys) qw Oe) (oc ys).length (fun i (_:Unit)=>(i:Int)) (fun _ _=>True) (fun o=>o=inl ())
   (fun i _ hi _=>.inl ⟨(),by
    simp only[Sh.rM,bT,hi,decide_true,abw,aX hi,aaG,Fb ys _ (abd hi),gq hi ac_,aaW (show ¬ (i:Int)=4096 by omega),abt]
    rfl,trivial⟩)
   (fun _ _=>⟨_,by simp only[Sh.rM,bT,abJ,decide_false,abt],rfl⟩) (oc ys).length 0 () ac_ trivial
  exact bI e rfl
 have e3:Sh.wF (qs ys).code ((qs ys).data.length:Int)=some (-1):=by
  unfold Sh.wF
  rw[show(qs ys).code=oc ys from rfl]
  obtain⟨o,e,rfl⟩:=bY (body:=fun Oh=>Sh.pT (oc ys) ((qs ys).data.length:Int) Oh) (oc ys).length (fun i (_:Unit)=>(i:Int)) (fun _ _=>True) (fun o=>o=inl ())
   (fun i _ hi _=>.inl ⟨(),by
    simp only[Sh.pT,bT,hi,decide_true,abw,aX hi,aaG,Ql ys _ (abd hi),abt,aQ,Sh.vH,gq hi ac_],trivial⟩)
   (fun _ _=>⟨_,by simp only[Sh.pT,bT,abJ,decide_false,abt],rfl⟩) (oc ys).length 0 () ac_ trivial
  exact bI e rfl
 rw[e1,aaG]
 refine Eq.trans (b:=(Sh.uL (qs ys).code).bind _) rfl ?_
 rw[e2,aaG]
 show(bif decide (((oc ys).length:Int)=0)then _ else _)=_
 rw[aaW (show ¬ ((oc ys).length:Int)=0 by omega),abt,e3]
 rfl
end Go.Sp
end
section
namespace Go.Sp
open Go Go.Fw Go.Fx Go.Proofs
theorem laid(xs:List Int):Fx.loop (γ:=List bg⊕Bool) (fun(v:List bg×Int)=>match v with|(BP,BQ)=>Sh.cV xs BP BQ) ([],0)=some (.inl (w8 (xs.take 70))):=by
 have h70:(xs.take 70).length≤xs.length:=by simp;omega
 have h7:(xs.take 70).length≤70:=by simp;omega
 have h71:(xs.take 70).length=70∨(xs.take 70).length=xs.length:=by simp;omega
 obtain⟨o,e,rfl⟩:=bY (body:=fun(v:List bg×Int)=>match v with|(BP,BQ)=>Sh.cV xs BP BQ) (xs.take 70).length (fun i c=>(c,(i:Int))) (fun i c=>c=w8 ((xs.take 70).take i)) (fun o=>o=inl (w8 (xs.take 70)))
  (fun i c hi hc=>.inl ⟨c ++ [Wd (xs.take 70)[i],Em],by
   show Sh.cV xs c (i:Int)=_
   unfold Sh.cV
   refine bI (o:=.inl true) (by rw[aaV (show(i:Int)<(xs.length:Int) by omega),abw,aaV (show(i:Int)<70 by omega)]) ?_
   show(Fx.get xs (i:Int)).bind _=_
   rw[aX (show i<xs.length by omega),aaG,show xs[i]'ac_=(xs.take 70)[i] by simp]
   have hb:c.length≤140:=by rw[hc,sY];simp;omega
   show(Fx.app 56 c [Wd (xs.take 70)[i],Em]).bind _=_
   rw[cI (by simp;omega) (by simp;omega),aaG,gq hi ac_],by
   rw[hc,←tY hi,PZ];rfl⟩)
  (fun c hc=>⟨_,by
   show Sh.cV xs c ((xs.take 70).length:Int)=_
   unfold Sh.cV
   refine bI (o:=.inl false) ?_ rfl
   by_cases q:(((xs.take 70).length:Nat):Int)<(xs.length:Int)
   ·rw[aaV q,abw,aaW ac_]
   ·rw[aaW q,abt],by rw[hc,aby]⟩) (xs.take 70).length 0 [] ac_ rfl
 exact e
theorem Qa(m:dw)(i j:Int):Sh.aGf m 4 i j=some (decide (0<(m.a7.length:Int))):=rfl
theorem Wb{x:gi}{L:List dw}{E:Int}(hL:L.length≤1000){p:Nat}(hp:p≤L.length){q:Nat}(hq:q≤p)(h0:∀ (k:Nat) (h:k<L.length),q≤k→k<p→L[k].a7 = [])(h1:∀ (h:q-1<L.length),0<q→L[q-1].a7 ≠ []) :
  Sh.lB ⟨x,L,E⟩ (p:Int) 4 0 0=some ((q:Int)-1):=by
 unfold Sh.lB
 have key:∀ d,q+d≤p → ∃ o,Fx.loop (fun Oj=>Sh.tY ⟨x,L,E⟩ 4 0 0 Oj) (((q+d:Nat):Int)-1)=some o∧Fx.fin (fun _=>Sh.yZ) o=some ((q:Int)-1):=by
  intro d
  induction d with
  | zero =>
   intro hd
   by_cases hz:q=0
   ·subst hz
    exact⟨.inl (),cV rfl,rfl⟩
   ·refine⟨.inr ((q:Int)-1),cV ?_,rfl⟩
    unfold Sh.tY
    rw[aaV (show(0:Int)≤((q+0:Nat):Int)-1 by omega),abw,show((q+0:Nat):Int)-1=((q-1:Nat):Int) by omega,aX (show q-1<L.length by omega),aaG,Qa,aaG]
    have hs:=h1 ac_ ac_
    have hl:0<(L[q-1]'ac_).a7.length:=abU.2 hs
    rw[aaV (show(0:Int)<((L[q-1]'ac_).a7.length:Int) by omega),abw,show((q-1:Nat):Int)=(q:Int)-1 by omega]
  | succ d ih =>
   intro hd
   obtain⟨o,e,ho⟩:=ih ac_
   refine⟨o,cR ?_ e,ho⟩
   unfold Sh.tY
   rw[aaV (show(0:Int)≤((q+(d+1):Nat):Int)-1 by omega),abw,show((q+(d+1):Nat):Int)-1=((q+d:Nat):Int) by omega,aX (show q+d<L.length by omega),aaG,Qa,aaG,h0 (q+d) ac_ ac_ ac_]
   show some (inl (IntKind.i64.wrap (((q+d:Nat):Int)-1)))=_
   rw[jc ac_]
 obtain⟨o,e,ho⟩:=key (p-q) ac_
 rw[show q+(p-q)=p by omega]at e
 refine bI (o:=o) ?_ ho
 rw[←e]
 congr 1
 show IntKind.i64.wrap ((if(L.length:Int)<(if(p:Int)<0 then 0 else(p:Int))then(L.length:Int)else(if(p:Int)<0 then 0 else(p:Int)))-1)=_
 rw[aaz (show ¬ (p:Int)<0 by omega),aaz (show ¬ (L.length:Int)<(p:Int) by omega),jc ac_]
section
variable {xs:List Int}{L:List dw}(hL:L.length=2*(xs.take 70).length+2)(hs:∀ (k:Nat) (h:k<L.length),L[k].a7=said (xs.take 70) k)
include hL hs
theorem Jj{p i:Nat}(hi:i≤(xs.take 64).length)(hp:2*i≤p)(hp2:(p=2*i+1∧i<(xs.take 64).length)∨(p=L.length∧i=(xs.take 64).length)):Sh.lB ⟨pv,L,0⟩ (p:Int) 4 0 0=some (2*(i:Int)-1):=by
 have l1:(xs.take 70).length≤70:=by simp;omega
 have l2:(xs.take 64).length≤(xs.take 70).length:=by simp;omega
 have l3:(xs.take 64).length=64∨(xs.take 64).length=(xs.take 70).length:=by simp;omega
 have l4:(xs.take 64).length≤64:=by simp;omega
 have h:=Wb (x:=pv) (L:=L) (E:=0) ac_ (p:=p) ac_ (q:=2*i) hp (fun k h k1 k2=>by
  rw[hs k h]
  unfold said
  by_cases c:k%2=1
  ·rw[aay c]
   rcases hp2 with⟨a,b⟩|⟨a,b⟩
   ·omega
   ·by_cases d:k/2<64
    ·rw[aay d,aaj ac_];rfl
    ·rw[aaz d]
  ·rw[aaz c]) (fun h k1=>by
  rw[hs _ h]
  unfold said
  rw[aay ac_,aay ac_,aa1 ac_]
  simp)
 rw[h]
 congr 1
end
theorem BI(xs:List Int):Sh.sU xs=some true:=by
 have l1:(xs.take 70).length≤70:=by simp;omega
 have l2:(xs.take 64).length≤(xs.take 70).length:=by simp;omega
 have l4:(xs.take 64).length≤64:=by simp;omega
 unfold Sh.sU
 simp only[Sh.bV,aaG,abK,abt]
 refine bI (laid xs) ?_
 show Sh.oS xs (w8 (xs.take 70))=_
 unfold Sh.oS
 have hb:=sY (xs.take 70)
 rw[cI (bytes:=56) (l:=w8 (xs.take 70)) (m:=[bg.mk 15 false false 0 0 0 0 0,bg.mk 39 false false 0 0 0 0 0]) (by simp only[abm,abV];omega) (by simp only[abm,abV];omega),aaG]
 obtain⟨L,hL,hs,ht⟩:=Xj l1
 show(Sh.uM (qs (xs.take 70))).bind _=_
 rw[V0 l1,aaG]
 show(Sh.qD (qs (xs.take 70)) pv 1000).bind _=_
 rw[ht,aaG]
 refine bI (o:=.inl false) ?_ ?_
 ·show some (inl (!decide ((L.length:Int)=((oc (xs.take 70)).length:Int))))=_
  rw[aaV (by rw[mB];omega)];rfl
 show Sh.kO xs (⟨pv,L,0⟩,0) false=_
 unfold Sh.kO
 refine bI (o:=.inl (xs.take 64)) ?_ ?_
 ·by_cases c:(64:Int)<(xs.length:Int)
  ·rw[aaV c,abw]
   unfold Fx.ny
   rw[aay ac_]
   rfl
  ·rw[aaW c,abt,abW ac_]
 show Sh.oT (⟨pv,L,0⟩,0) (xs.take 64)=_
 unfold Sh.oT
 -- from the last that was a7 to the first
 have key:∀ (i p:Nat),i≤(xs.take 64).length→((p=2*i+1∧i<(xs.take 64).length)∨(p=L.length∧i=(xs.take 64).length)) →
   ∃ o,Fx.loop (γ:=Int⊕Bool) (fun(v:Int×Int)=>match v with|(JI,JJ)=>Sh.hJ (⟨pv,L,0⟩,0) (xs.take 64) JI JJ) ((p:Int),(i:Int)-1)=some o∧Fx.fin (fun v=>Sh.hI (⟨pv,L,0⟩,0) v) o=some true:=by
  intro i
  induction i with
  | zero =>
   intro p hi hp
   refine⟨.inl (p:Int),cV rfl,?_⟩
   show Sh.hI (⟨pv,L,0⟩,0) (p:Int)=_
   unfold Sh.hI
   rw[show Sh.lB ((⟨pv,L,0⟩,0):gy×Int).1 (p:Int) 4 0 0=some (2*((0:Nat):Int)-1)from Jj hL hs hi ac_ hp]
   rfl
  | succ i ih =>
   intro p hi hp
   obtain⟨o,e,ho⟩:=ih (2*i+1) ac_ (.inl ⟨rfl,ac_⟩)
   refine⟨o,cR (s':=(((2*i+1:Nat):Int),(i:Int)-1)) ?_ e,ho⟩
   show Sh.hJ (⟨pv,L,0⟩,0) (xs.take 64) (p:Int) (((i+1:Nat):Int)-1)=_
   unfold Sh.hJ
   have hm:said (xs.take 70) (2*i+1) = [(xs.take 64)[i]]:=by
    unfold said
    rw[aay ac_,aay ac_,show(2*i+1)/2=i by omega,aa1 ac_]
    simp
   have hg:Fx.get L (((2*i+1:Nat):Int))=some (L[2*i+1]'ac_):=aX ac_
   rw[show((i+1:Nat):Int)-1=(i:Int) by omega,aaV (show(0:Int)≤(i:Int) by omega),abw,
    show Sh.lB ((⟨pv,L,0⟩,0):gy×Int).1 (p:Int) 4 0 0=some (((2*i+1:Nat):Int))from(Jj hL hs hi ac_ hp).trans (by congr 1;omega),aaG]
   refine bI (o:=.inl false) ?_ ?_
   ·rw[jc (x:=2*(i:Int)) ac_,jc ac_,aaV (show((2*i+1:Nat):Int)=2*(i:Int)+1 by omega)]
    simp only[abK,abt,hg,aaG,hs _ (show 2*i+1<L.length by omega),hm,aX (show i<(xs.take 64).length by omega),show Fx.get [(xs.take 64)[i]] 0=some (xs.take 64)[i]from rfl,decide_true]
    rfl
   ·show some (inl ((((2*i+1:Nat):Int)),IntKind.i64.wrap ((i:Int)-1)))=_
    rw[jc ac_]
 obtain⟨o,e,ho⟩:=key (xs.take 64).length L.length (aal _) (.inr ⟨rfl,rfl⟩)
 refine bI (o:=o) ?_ ho
 rw[←e]
 show Fx.loop _ ((L.length:Int),IntKind.i64.wrap (((xs.take 64).length:Int)-1))=_
 rw[jc ac_]
end Go.Sp
end
