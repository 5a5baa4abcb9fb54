/- Ground for the claim TraceSends. -/
import Derived.Laws.CopyRow
import Derived.Laws.Cover3
import Derived.Laws.IdiomCopy
import Derived.Laws.IdiomStrings
import Derived.Test.YtmgnkohlfbjjnaaGreatRSe2
set_option linter.unusedVariables false
set_option linter.unusedSimpArgs false
section
namespace Go.Fw
def SV.cut(s:SV)(i j sz:Nat):SV:=⟨if s.cap-i=0 then s.a else s.a.map (·.add (i*sz)),j-i,s.cap-i⟩
theorem cg.cut{X:Type}[du X]{lo:Nat}{w:World}{s:SV}{l:List X}(h:cg lo w s l){i j:Nat}(hij:i≤j)(hj:j≤l.length):cg lo w (s.cut i j (du.sz X)) ((l.drop i).take (j-i)):=by
 have hl:=h.len
 have hr:=h.room
 have hc:=h.cells
 refine⟨by simp[SV.cut];omega,by simp only[SV.cut];omega,?_⟩
 obtain⟨sa,sl,sc⟩:=s
 simp only at hl hr
 subst hl
 by_cases h0:sc-i=0
 ·simp only[SV.cut,aay h0]
  have hd:(l.drop i).take (j-i) = []:=by rw[aci ac_];simp
  cases sa with
  | none=>exact⟨hd,h0⟩
  | some ad =>
   obtain⟨h1,h2,h3⟩:=hc
   exact⟨.inl hd,h2,by rw[hd];intro k v hv;simp[jS]at hv⟩
 ·simp only[SV.cut,aaz h0]
  cases sa with
  | none =>
   obtain⟨h1,h2⟩:=hc
   subst h1
   exact⟨by simp,by simp at h2;omega⟩
  | some ad =>
   obtain⟨b,off,sp⟩:=ad
   obtain⟨h1,h2,h3⟩:=hc
   simp only at h1
   rcases h1 with h1|h1
   ·have hd:(l.drop i).take (j-i) = []:=by rw[h1];simp
    simp only[aaI]
    exact⟨.inl hd,by simpa[Addr.add]using(by split<;>exact h2:lo≤(if i*du.sz X=0 then(⟨b,off,sp⟩ : Addr)else⟨b,off+i*du.sz X,none⟩).block),by rw[hd];intro k v hv;simp[jS]at hv⟩
   subst h1
   simp only[aaI,eC]
   refine⟨.inr trivial,h2,fun k v hv=>?_⟩
   have hk:k<(encs ((l.drop i).take (j-i))).length:=(aap.1 hv).1
   have e:encs l=encs (l.take i)++(encs ((l.drop i).take (j-i))++encs ((l.drop i).drop (j-i))):=by
    rw[←dY,←dY,abo,abo]
   have e1:(encs (l.take i)).length=i*du.sz X:=by rw[dN];simp[abR (show i≤l.length by omega)]
   have:=h3 (i*du.sz X+k) v (by rw[e,aa0 ac_,e1,Nat.add_sub_cancel_left,aaZ hk,hv])
   simpa[Addr.add,aaY]using this
theorem t_.cut{X:Type}[du X]{lo:Nat}{w:World}{s:SV}{l:List X}(h:t_ lo w s l){i j:Nat}(hij:i≤j)(hj:j≤l.length):t_ lo w (s.cut i j (du.sz X)) ((l.drop i).take (j-i)) :=
 ⟨h.sl.cut hij hj,by have:=h.big;simp;omega⟩
theorem cg.ofArr{X:Type}[du X]{lo b off n:Nat}{w:World}{l:List X}(hc:i_ w b off (encs l))(hb:lo≤b)(hn:l.length=n):cg lo w ⟨some ⟨b,off,none⟩,n,n⟩ l:=by
 subst hn;exact⟨rfl,aal _,.inr rfl,hb,hc⟩
theorem cg.isNil{X:Type}[du X]{lo:Nat}{w:World}{s:SV}{l:List X}(h:cg lo w s l)(hn:s.a.isNone=true):l = []:=by
 have hc:=h.cells
 cases ha:s.a with
 | none=>rw[ha]at hc;exact hc.1
 | some _=>rw[ha]at hn;cases hn
theorem cg.empty{X:Type}[du X]{lo b n:Nat}{w:World}(hb:lo≤b):cg lo w ⟨some ⟨b,0,none⟩,0,n⟩ ([]:List X):=⟨rfl,aau _,.inr rfl,hb,fun k v hv=>by simp[jS]at hv⟩
theorem qH{X:Type}[du X]{l:List X}{i:Nat}{y:X}{v:Value}(h:l[i]? = some y)(hv:(du.enc y)[0]? = some v):(encs l)[i*du.sz X]? = some v:=by
 have:=cL (kV l i y h) hv
 simpa using this
theorem Own.ofPt{X:Type}[du X]{lo b e n c:Nat}{w:World}{l:List X}(hb:w.heap[b]? = some (.cells (encs l).toArray e (0,0)))(hlo:lo≤b)(hn:n=l.length)(hc:c=n)(hm:n≤maxLen):Own lo w e ⟨some ⟨b,0,none⟩,n,c⟩ l:=by
 subst hn hc
 exact⟨by rw[dN],.inr ⟨b,l.length,(encs l).toArray,rfl,hlo,hb,aal _,hm,by simp[dN],by simp[abW,dN]⟩⟩
theorem au.ptRow{w:World}{L:List di}{X:Type}[du X]{lo i b e n c:Nat}{l:List X}{cs:List Value}(h:au w L)(hi:L[i]? = some (pt b cs e))(hc:cs=encs l)(hlo:lo≤b)(hn:n=l.length)(hcc:c=n)(hm:n≤maxLen) :
  au w (L.set i (ak lo ⟨some ⟨b,0,none⟩,n,c⟩ e l)):=by
 subst hc
 refine h.upd i hi (Io.refl w) (aal _) (fun _ _ _=>rfl) (Own.ofPt (h.obj hi) hlo hn hcc hm) fun k hk=>.inl ?_
 simp[di.fp,SV.v,Value.ownBlock]at hk ⊢
 exact hk.symm
theorem U2{X:Type}[du X]{l:List X}{i:Nat}{y:X}{vs:List Value}{d:Nat}{z:X}(h:l[i]? = some y)(hd:d+vs.length≤du.sz X)(hp:put (du.enc y) d vs=du.enc z):put (encs l) (i*du.sz X+d) vs=encs (l.set i z):=by
 induction l generalizing i with
 | nil=>simp at h
 | cons x l ih =>
  cases i with
  | zero =>
   simp at h;subst h
   simp only[ab5,ab_,List.set_cons_zero,kE]
   rw[qQ (n:=vs.length) (by rw[du.len];exact hd) rfl hp]
  | succ i =>
   simp only[ace,kE]
   rw[show(i+1)*du.sz X+d=du.sz X+(i*du.sz X+d) by rw[ab4];omega]
   exact jI (du.len _) (ih (by simpa using h))
section
variable {P:Program}{n:Nat}{F:List (Nat×Value)}{a:Act}{dd:List Deferred}{w:World}{o:Oper}{J:Value→World→Prop}
theorem lA{t yt e:TypeId}{x y:Operand}{s:SV}(ht:P.underlying t=some (.slice e))(hF:Fr n F a dd)(ho:o.op = .binOp .eql t x y yt)(hx:ev F x=some s.v)(hy:ev F y=some (.slice none 0 0)) :
  (execOp a.eval o).run P w = .ok (.value (.bool s.a.isNone)) w:=by
 obtain⟨sa,sl,sc⟩:=s
 have e:(binOp .eql t (.slice sa sl sc) (.slice none 0 0)).run P w = .ok (.bool sa.isNone) w:=by
  have:=run_equal_slice_nil (P:=P) w t e sa sl sc ht
  simp only[binOp,Sem.run_bind,this,Result.andThen_ok,Sem.run_pure]
 simp only[execOp,ho,hF.eval hx,hF.eval hy,SV.v,eqGuard,abK,abq,if_false,Sem.run_bind,Sem.run_pure,Result.andThen_ok,e]
theorem XO{X:Type}[du X]{t e:TypeId}{x:Operand}{ol oh:Option Operand}{s:SV}{i j lo sz:Nat}{l:List X}{w1:World}{ti:TypeInfo}(hs:cg lo w1 s l)(ht:P.underlying t=some (.slice e))(hi:P.info? e=some ti)(hsz:ti.size=sz)(hF:Fr n F a dd)(ho:o.op = .slice t x ol oh none)
  (hx:ev F x=some s.v) (hl:(ol=none∧i=0) ∨ ∃ y k z,ol=some y∧ev F y=some (.int k z)∧z=(i:Nat)) (hh:(oh=none∧j=l.length) ∨ ∃ y k z,oh=some y∧ev F y=some (.int k z)∧z=(j:Nat)) (hij:i≤j∧j≤l.length) :
  (execOp a.eval o).run P w = .ok (.value (s.cut i j sz).v) w:=by
 have h1:=hs.len
 have h2:=hs.room
 subst hsz
 obtain⟨sa,sl,sc⟩:=s
 simp only at h1 h2
 have eb:∀ (v:Value) (k:IntKind) (q c:Nat) (bc:BoundsCode),v = .int k (q:Nat)→q≤c→(Instr.sliceBound v c bc).run P w = .ok q w:=by
  intro v k q c bc hv hq
  subst hv
  have w_:(0:Int)≤(q:Int)∧(q:Int)≤(c:Int):=ac_
  simp only[Instr.sliceBound,asIntOf,Sem.run_bind,Sem.run_pure,Result.andThen_ok,aay w_,abe]
 have e2:(Instr.sliceBounds true sl sc (ol.map a.eval) (oh.map a.eval) none).run P w = .ok (i,j,sc) w:=by
  rcases hl with⟨rfl,rfl⟩|⟨y,k,_,rfl,hy,rfl⟩<;>rcases hh with⟨rfl,rfl⟩|⟨z,k',_,rfl,hz,rfl⟩
  ·simp[Instr.sliceBounds,h1]
  ·simp[Instr.sliceBounds,hF.eval hz,eb _ k' j sc _ rfl ac_]
  ·simp[Instr.sliceBounds,hF.eval hy,eb _ k i sl _ rfl ac_,h1]
   simp[eb _ k i l.length _ rfl ac_]
  ·simp[Instr.sliceBounds,hF.eval hy,hF.eval hz,eb _ k' j sc _ rfl ac_,eb _ k i j _ rfl ac_]
 have e3:(Instr.sliceAt t (.slice sa sl sc) (ol.map a.eval) (oh.map a.eval) none).run P w = .ok (SV.cut ⟨sa,sl,sc⟩ i j ti.size).v w:=by
  by_cases hc:sc=i
  ·subst hc
   simp[Instr.sliceAt,Instr.slice,run_underlying ht,e2,sizeOf,typeInfo,hi,SV.cut,SV.v]
  ·have:¬ sc-i=0:=ac_
   simp[Instr.sliceAt,Instr.slice,run_underlying ht,e2,sizeOf,typeInfo,hi,SV.cut,SV.v,hc,this]
 simp only[execOp,ho,hF.eval hx,SV.v,acu,Sem.run_bind,Result.andThen_ok,Sem.run_pure]at e3 ⊢
 simp only[e3,Result.andThen_ok]
theorem gZ{X:Type}[du X]{t e:Nat}{ie:TypeInfo}(lo:Nat)(hlo:lo≤w.heap.size)(hu:P.underlying t=some (.slice e))(hie:P.info? e=some ie)(ho:o.op = .buildSlice t 0 #[])
  (next:∀ (s:SV) w',iz (ak lo s e ([]:List X)) w w' → J s.v w'):Yd P o a.eval w J:=by
 have hA:iz (ak lo ⟨some ⟨w.heap.size,0,none⟩,0,0⟩ e ([]:List X)) w (w.alloc (.cells #[] e (0,0))) :=
  ⟨gw.alloc w _,⟨by simp[jS],.inr ⟨w.heap.size,0,#[],rfl,hlo,heap_alloc_new w _,aal _,by simp[maxLen],by simp,by simp[jS]⟩⟩,fun k hk=>by simp[di.fp,SV.v,Value.ownBlock]at hk;omega⟩
 have h:=next _ _ hA
 have hr:(Instr.buildSlice t 0 #[]).run P w = .ok (SV.v ⟨some ⟨w.heap.size,0,none⟩,0,0⟩) (w.alloc (.cells #[] e (0,0))):=by
  have e1:∀ w,(sizeOf e).run P w = .ok ie.size w:=fun w=>by simp[sizeOf,typeInfo,hie]
  simp only[Instr.buildSlice,Sem.run_bind,run_underlying hu,Result.andThen_ok,e1,ab5]
  have e0:Array.range 0 = #[]:=by simp
  simp[Instr.fill,newRow]
  rw[e0,acv]
 unfold Yd
 simp only[execOp,ho,Sem.run_bind,ab0,aa5,acv,hr,Result.andThen_ok,Sem.run_pure]
 exact h
theorem qR{t e:TypeId}{x:Operand}{b off len:Nat}{ti:TypeInfo}(ht:P.underlying t=some (.array len e))(hi:P.info? e=some ti)(hpos:Nat.beq len 0=false)(hF:Fr n F a dd)(ho:o.op = .slice t x none none none)(hx:ev F x=some (.pointer (some ⟨b,off,none⟩))) :
  (execOp a.eval o).run P w = .ok (.value (SV.v ⟨some ⟨b,off,none⟩,len,len⟩)) w:=by
 have hp:¬ len=0:=fun h=>by subst h;cases hpos
 simp[execOp,ho,hF.eval hx,Instr.sliceAt,Instr.sliceBounds,Instr.sureAddr,run_underlying ht,sizeOf,typeInfo,hi,hp,eC,SV.v]
theorem SH{X:Type}[du X]{t e lo i d sz off:Nat}{x y:Operand}{s:SV}{l:List X}{v:Value}{vs:List Value}{p q:X}(hsz:∀ w,(sizeOf t).run P w = .ok sz w)(hown:Own lo w e s l)(hp:l[i]? = some p)(hF:Fr n F a dd)(ho:o.op = .store t x y)
  (hx:ev F x=some (.pointer (some ⟨s.blk,off,none⟩))) (hoff:off=s.off+(i*du.sz X+d)) (hy:ev F y=some v) (hv:v.cells=vs.toArray) (hl:vs.length=sz) (h1:∀ u∈vs,u.oneCell' = true) (hd:d+vs.length≤du.sz X) (oe:put (du.enc p) d vs=du.enc q)
  (next:∀ w',oa (ak lo s e l) (ak lo s e (l.set i q)) w w' → J undef w'):Yd P o a.eval w J:=by
 have hi:i<l.length:=(aap.1 hp).1
 rcases hown.2 with⟨h2,h3⟩|⟨g,cap,cur,h2,h3,h4,h5,h6,h7,h8⟩
 ·omega
 ·have hs:s=⟨some ⟨g,0,none⟩,l.length,cap⟩:=by obtain⟨a,b,c⟩:=s;cases h2;rfl
  have hb:s.blk=g:=by rw[hs];rfl
  have YT:s.off=0:=by rw[hs];rfl
  rw[hb,hoff,YT,ab_]at hx
  have hel:(encs l).length=l.length*du.sz X:=dN l
  have hle:i*du.sz X+d+vs.length≤l.length*du.sz X:=by
   have:(i+1)*du.sz X≤l.length*du.sz X:=aca _ hi
   rw[ab4,acr]at this;omega
  have hcap:l.length*du.sz X≤cap*du.sz X:=aca _ h5
  have MR:cur=(cur.toList).toArray:=by simp
  rw[MR]at h4
  refine aU (cs:=cur.toList) (cs':=put cur.toList (i*du.sz X+d) vs) hsz h4 hF ho hx hy hv hl h1 (by simp;omega) rfl fun w' hU=>next w' ?_
  have e1:cur.toList=encs l++cur.toList.drop (l.length*du.sz X):=by rw[←h8];exact(abo _ _).symm
  have e2:put cur.toList (i*du.sz X+d) vs=encs (l.set i q)++cur.toList.drop (l.length*du.sz X):=by
   rw[e1,qQ (n:=vs.length) (s':=encs (l.set i q)) ac_ rfl (U2 hp hd oe)]
   congr 1
   have e3:((encs l++cur.toList.drop (l.length*du.sz X)).drop (l.length*du.sz X))=cur.toList.drop (l.length*du.sz X):=List.drop_left' hel
   exact e3.symm
  have hown':Own lo w' e s (l.set i q):=by
   refine⟨by rw[dN],.inr ⟨g,cap,(put cur.toList (i*du.sz X+d) vs).toArray,by rw[abv];exact h2,h3,hU.holds,by rw[abv];exact h5,h6,?_,?_⟩⟩
   ·have:(put cur.toList (i*du.sz X+d) vs).length=cur.toList.length:=by simp[put];omega
    simp[this,h7]
   ·simp only[e2]
    exact acw (by rw[dN])
  exact⟨hU.io,hU.size,fun k hk hf=>hU.block k hk fun e'=>hf (by simp only[di.fp]at e' ⊢; subst e'; rw[hs];rfl),hown',fun k hk=>.inl hk⟩
theorem dE{X:Type}[du X]{t e lo i d off:Nat}{x y:Operand}{s:SV}{l:List X}{v:Value}{p q:X}(hsz:∀ w,(sizeOf t).run P w = .ok 1 w)(hown:Own lo w e s l)(hp:l[i]? = some p)(hF:Fr n F a dd)(ho:o.op = .store t x y)
  (hx:ev F x=some (.pointer (some ⟨s.blk,off,none⟩))) (hoff:off=s.off+(i*du.sz X+d)) (hy:ev F y=some v) (h1:v.oneCell' = true) (hd:d<du.sz X) (oe:(du.enc p).set d v=du.enc q)
  (next:∀ w',oa (ak lo s e l) (ak lo s e (l.set i q)) w w' → J undef w'):Yd P o a.eval w J:=by
 have hc:v.cells = #[v]:=by cases v<;>first|rfl|cases h1
 refine SH (vs:=[v]) (d:=d) hsz hown hp hF ho hx hoff hy hc rfl (by simpa using h1) (by simp;omega) ?_ next
 rw[←oe,abZ,aay (by rw[du.len];exact hd)]
 simp[put]
end
end Go.Fw
end
section
namespace Go.Fx
open Go Go.Fw
def me{σ γ:Type}(body:σ→Option (σ⊕γ)):Nat→σ→Option γ
 | 0,_=>none
 | n+1,s=>match body s with
  | none=>none
  | some (.inl s')=>me body n s'
  | some (.inr g)=>some g
open Classical in
noncomputable def loop{σ γ:Type}(body:σ→Option (σ⊕γ))(s:σ):Option γ :=
 if h:∃ g n,me body n s=some g then some h.choose else none
section
variable {σ γ τ X:Type}
theorem OL{body:σ→Option (σ⊕γ)}{n:Nat}:∀ {m:Nat} {s:σ} {g:γ},me body n s=some g→n≤m→me body m s=some g:=by
 induction n with
 | zero=>intro m s g h;simp[me]at h
 | succ n ih =>
  intro m s g h hm
  obtain⟨m,rfl⟩ : ∃ k,m=k+1:=⟨m-1,ac_⟩
  simp only[me]at h ⊢
  split at h
  ·cases h
  ·rename_i s' hb;exact ih h ac_
  ·rename_i g' hb;exact h
theorem Uh{body:σ→Option (σ⊕γ)}{n m:Nat}{s:σ}{g g':γ}(h:me body n s=some g)(k:me body m s=some g'):g=g':=by
 have h1:=OL h (Nat.le_max_left n m)
 have h2:=OL k (Nat.le_max_right n m)
 exact ac8 (h1.symm.trans h2)
theorem nT{body:σ→Option (σ⊕γ)}{s:σ}{g:γ}:loop body s=some g ↔ ∃ n,me body n s=some g:=by
 unfold loop
 split
 ·rename_i h
  obtain⟨n,hn⟩:=h.choose_spec
  constructor
  ·intro e;cases e;exact⟨n,hn⟩
  ·rintro⟨m,hm⟩;rw[Uh hn hm]
 ·rename_i h
  constructor
  ·intro e;cases e
  ·rintro⟨m,hm⟩;exact absurd ⟨g,m,hm⟩ h
theorem tM(body:σ→Option (σ⊕γ))(s:σ):loop body s=match body s with
  | none=>none
  | some (.inl s')=>loop body s'
  | some (.inr g)=>some g:=by
 have key:∀ g,loop body s=some g↔(match body s with
  | none=>none
  | some (.inl s')=>loop body s'
  | some (.inr g)=>some g)=some g:=by
  intro g
  rw[nT]
  constructor
  ·rintro⟨n,hn⟩
   cases n with
   | zero=>cases hn
   | succ n =>
    simp only[me]at hn
    split at hn
    ·cases hn
    ·exact nT.2 ⟨n,hn⟩
    ·exact hn
  ·intro h
   split at h
   ·cases h
   ·rename_i s' hb
    obtain⟨n,hn⟩:=nT.1 h
    exact⟨n+1,by simp only[me,hb];exact hn⟩
   ·rename_i g' hb
    exact⟨1,by simp only[me,hb];exact h⟩
 cases h:loop body s with
 | none =>
  cases h2:(match body s with
  | none=>none
  | some (.inl s')=>loop body s'
  | some (.inr g)=>some g)with
  | none=>rfl
  | some g=>have:=(key g).2 h2;rw[h]at this;cases this
 | some g=>exact((key g).1 h).symm
def fin(k:τ→Option γ):τ⊕γ→Option γ
 | .inl x=>k x
 | .inr g=>some g
def seq(t:Option (τ⊕γ))(k:τ→Option γ):Option γ:=match t with
 | none=>none
 | some o=>fin k o
theorem cM{t:Option (τ⊕γ)}{k:τ→Option γ}{r:γ}(h:seq t k=some r):∃ o,t=some o∧fin k o=some r:=by
 cases t with
 | none=>cases h
 | some o=>exact⟨o,rfl,h⟩
theorem bA{k:τ→Option γ}{g r:γ}(h:fin k (.inr g)=some r):g=r:=ac8 h
theorem cT{c:Bool}{A B r:Option γ}(hc:c=true)(h:(bif c then A else B)=r):A=r:=by rw[hc]at h;exact h
theorem cF{c:Bool}{A B r:Option γ}(hc:c=false)(h:(bif c then A else B)=r):B=r:=by rw[hc]at h;exact h
theorem ade{t:Option τ}{k:τ→Option γ}{r:γ}(h:t.bind k=some r):∃ x,t=some x∧k x=some r:=acx.1 h
def must(p:Bool)(k:Option γ):Option γ:=bif p then k else none
theorem bH{p:Bool}{k:Option γ}{r:γ}(h:must p k=some r):p=true∧k=some r:=by
 cases p
 ·cases h
 ·exact⟨rfl,h⟩
def get(l:List X)(i:Int):Option X:=if 0≤i then l[i.toNat]? else none
theorem aL{l:List X}{i:Int}{x:X}(h:get l i=some x):0≤i∧l[i.toNat]? = some x:=by
 unfold get at h
 split at h
 ·exact⟨by assumption,h⟩
 ·cases h
theorem aZ{l:List X}{i:Int}{x:X}(h:get l i=some x):0≤i∧i<(l.length:Int):=by
 obtain⟨h1,h2⟩:=aL h
 have:=(aap.1 h2).1
 omega
theorem bW{n:Nat}{v:Vec X n}{i:Int}{x:X}(h:get v.l i=some x):0≤i∧i<(n:Int):=by
 have:=aZ h;rw[v.len]at this;exact this
def ny(l:List X)(i j:Int):Option (List X):=if 0≤i∧i≤j∧j≤(l.length:Int)then some ((l.drop i.toNat).take (j.toNat-i.toNat))else none
theorem sL{l m:List X}{i j:Int}(h:ny l i j=some m):(0≤i∧i≤j∧j≤(l.length:Int))∧m=(l.drop i.toNat).take (j.toNat-i.toNat):=by
 unfold ny at h
 split at h
 ·cases h;exact⟨by assumption,rfl⟩
 ·cases h
def app(bytes:Nat)(l m:List X):Option (List X):=if(l.length+m.length)*bytes≤140737488355328∧l.length+m.length≤4611686018427387904 then some (l++m)else none
theorem cZ{bytes:Nat}{l m r:List X}(h:app bytes l m=some r):((l.length+m.length)*bytes≤140737488355328∧l.length+m.length≤4611686018427387904)∧r=l++m:=by
 unfold app at h
 split at h
 ·cases h;exact⟨by assumption,rfl⟩
 ·cases h
end
def dj{X:Type}[du X](B:World→Prop)(s:SV)(l:List X):Prop:=∀ w,B w→cg 0 w s l
theorem dj.nil{X:Type}[du X]{B:World→Prop}:dj B SV.nil ([]:List X):=fun w _=>cg.nil 0 w
theorem dj.mono{X:Type}[du X]{B B':World→Prop}{s:SV}{l:List X}(h:dj B s l)(k:∀ w,B' w→B w):dj B' s l:=fun w hM=>h w (k w hM)
theorem dj.ny{X:Type}[du X]{B:World→Prop}{s:SV}{l m:List X}{i j:Int}{sz:Nat}(h:dj B s l)(hc:Fx.ny l i j=some m)(hsz:du.sz X=sz):dj B (s.cut i.toNat j.toNat sz) m:=by
 subst hsz
 obtain⟨h1,rfl⟩:=sL hc
 exact fun w hM=>(h w hM).cut ac_ ac_
theorem OT{X:Type}[du X]{w:World}{lo:Nat}{s:SV}{l m:List X}{i j:Int}{sz:Nat}(h:cg lo w s l)(hc:Fx.ny l i j=some m)(hsz:du.sz X=sz):cg lo w (s.cut i.toNat j.toNat sz) m:=by
 subst hsz
 obtain⟨h1,rfl⟩:=sL hc
 exact h.cut ac_ ac_
theorem cX{X:Type}[du X]{w:World}{s:SV}{e:Nat}{l:List X}(h:(ak 0 s e l).holds' w):cg 0 w s l:=Own.slice h
theorem cn.getr{A B:Type}{R:A→B→Prop}{hs:List A}{l:List B}(h:cn R hs l){i:Nat}{y:B}(hy:l[i]? = some y):∃ x,hs[i]? = some x∧R x y:=by
 have hi:i<hs.length:=by rw[h.len];exact(aap.1 hy).1
 exact⟨_,aa1 hi,h.at_ i _ _ (aa1 hi) hy⟩
theorem cn.bd{A B:Type}{R:A→B→Prop}{hs:List A}{l:List B}{i:Int}(h:cn R hs l)(k:0≤i∧i<(l.length:Int)):0≤i∧i<(hs.length:Int):=by rw[h.len];exact k
theorem cn.ny{A B:Type}{R:A→B→Prop}{hs:List A}{l m:List B}{i j:Int}(h:cn R hs l)(hc:Fx.ny l i j=some m):∃ hm,Fx.ny hs i j=some hm∧cn R hm m:=by
 obtain⟨h1,rfl⟩:=sL hc
 refine⟨(hs.drop i.toNat).take (j.toNat-i.toNat),?_,?_⟩
 ·unfold Fx.ny;rw[aay];rw[h.len];exact h1
 ·refine⟨by simp[h.len],fun a x y hx hy=>?_⟩
  rw[aav]at hx hy
  split at hx
  ·rename_i ha
   rw[aay ha]at hy
   rw[aaw]at hx hy
   exact h.at_ _ x y hx hy
  ·cases hx
section
variable {w w':World}{L:List di}
theorem fc(h:au w L):∀ (n:Nat),au w (L.drop n):=by
 intro n
 induction n generalizing L with
 | zero=>exact h
 | succ n ih =>
  cases L with
  | nil=>exact h
  | cons r L=>exact ih h.tail
def yS(L:List di)(is:List Nat)(n:Nat):List di:=yn L is++L.drop n
def rU(n:Nat):List Nat→Bool
 | []=>true
 | i::is=>Nat.blt i n&&rU n is
theorem O9{n:Nat}{is:List Nat}(h:rU n is=true):∀ i∈is,i<n:=by
 induction is with
 | nil=>simp
 | cons j is ih =>
  simp only[rU,dc]at h
  intro i hi
  rcases aaM.1 hi with rfl|hi
  ·exact aae h.1
  ·exact ih h.2 i hi
theorem bS(h:au w L)(is:List Nat)(n:Nat)(hn:(ni is&&rU n is)=true):au w (yS L is n):=by
 simp only[dc]at hn
 have h1:=h.yn is hn.1
 have h2:=fc h n
 constructor
 ·intro i r hi
  unfold yS at hi
  by_cases hl:i<(yn L is).length
  ·rw[aaZ hl]at hi;exact h1.hold i r hi
  ·rw[aa0 ac_]at hi;exact h2.hold _ r hi
 ·intro i j r s hi hj hij k hr hs
  unfold yS at hi hj
  by_cases hl:i<(yn L is).length
  ·rw[aaZ hl]at hi
   by_cases hl':j<(yn L is).length
   ·rw[aaZ hl']at hj;exact h1.apart i j r s hi hj hij k hr hs
   ·rw[aa0 ac_,aaw]at hj
    obtain⟨a,ha,ea⟩:=wW L is i r hi
    have:=O9 hn.2 a ha
    exact h.apart a _ r s ea hj ac_ k hr hs
  ·rw[aa0 ac_,aaw]at hi
   by_cases hl':j<(yn L is).length
   ·rw[aaZ hl']at hj
    obtain⟨a,ha,ea⟩:=wW L is j s hj
    have:=O9 hn.2 a ha
    exact h.apart _ a r s hi ea ac_ k hr hs
   ·rw[aa0 ac_,aaw]at hj
    exact h.apart _ _ r s hi hj ac_ k hr hs
end
theorem o7{w:World}{L:List di}{r s:di}(h:au w (r::s::L)):∃ q:di,(∀ w,q.holds' w→r.holds' w)∧(∀ w,q.holds' w→s.holds' w)∧au w (q::L) :=
 ⟨_,fun w h=>(h.2 w (Io.refl w) (aal _) fun _ _=>rfl).1,fun w h=>(h.2 w (Io.refl w) (aal _) fun _ _=>rfl).2,h.both⟩
theorem vK{w:World}{L:List di}(h:au w L):∃ q:di,au w (q::L):=⟨_,h.void (Q:=fun _=>True) fun _=>trivial⟩
theorem Vn{l y y' l' vs:List Value}{o c d:Nat}(hc:Fw.cut l o c=y)(hp:put y d vs=y')(hl:put l o y' = l')(h1:o+c≤l.length)(h2:d+vs.length≤c):put l (o+d) vs=l':=by
 subst hc hp hl
 have e:(put (Fw.cut l o c) d vs).length=c:=by unfold put Fw.cut;simp;omega
 unfold put at *
 rw[e]
 unfold Fw.cut
 apply aa6
 intro j
 simp only[acy,aav,aaw,abT,abn,abh]
 repeat' split
 all_goals first|rfl|omega|(congr 1;omega)|skip
theorem fT{l y y' l':List Value}{v:Value}{o c d:Nat}(hc:Fw.cut l o c=y)(hp:y.set d v=y')(hl:put l o y' = l')(h1:o+c≤l.length)(h2:d<c):l.set (o+d) v=l':=by
 have hy:y.length=c:=by subst hc;unfold Fw.cut;simp;omega
 rw[abZ,aay ac_]
 have:=Vn (vs:=[v]) (d:=d) hc (y':=y') (by rw[←hp,abZ,aay ac_];simp[put]) hl h1 (by simp;omega)
 rw[←this];simp[put]
theorem D5{l l':List Value}{v:Value}{o:Nat}(h:put l o [v]=l')(h1:o<l.length):l.set o v=l':=by
 rw[abZ,aay h1,←h];simp[put]
section
variable {P:Program}{n:Nat}{F:List (Nat×Value)}{a:Act}{dd:List Deferred}{w:World}{o:Oper}{J:Value→World→Prop}
theorem eI{X Y:Type}[du X]{t e lo:TypeId}{x:Operand}{s:SV}{l:List X}{m:List Y}{w1:World}(hs:cg lo w1 s l)(hl:l.length=m.length)(ht:P.underlying t=some (.slice e))(hF:Fr n F a dd)(ho:o.op = .call { callee:=.builtin .len,args:=#[x],argTypes:=#[t] })(hx:ev F x=some s.v) :
  (execOp a.eval o).run P w = .ok (.value (.int .i64 (m.length:Int))) w:=by rw[cK hs ht hF ho hx,hl]
theorem Qw{t:TypeId}{x y:Operand}{k:IntKind}{i j:Int}(hF:Fr n F a dd)(ho:o.op = .call { callee:=.builtin .min,args:=#[x,y],argTypes:=#[t,t] })(hx:ev F x=some (.int k i))(hy:ev F y=some (.int k j)) :
  (execOp a.eval o).run P w = .ok (.value (.int k (if j<i then j else i))) w:=by
 simp only[execOp,ho,resolve,invoke,Sem.run_bind,Sem.run_pure,Result.andThen_ok,ab0,aa4,aa5,hF.eval hx,hF.eval hy]
 simp[builtin,Builtin.min_,Builtin.min2]
theorem Qv{t:TypeId}{x y:Operand}{k:IntKind}{i j:Int}(hF:Fr n F a dd)(ho:o.op = .call { callee:=.builtin .max,args:=#[x,y],argTypes:=#[t,t] })(hx:ev F x=some (.int k i))(hy:ev F y=some (.int k j)) :
  (execOp a.eval o).run P w = .ok (.value (.int k (if i<j then j else i))) w:=by
 simp only[execOp,ho,resolve,invoke,Sem.run_bind,Sem.run_pure,Result.andThen_ok,ab0,aa4,aa5,hF.eval hx,hF.eval hy]
 simp[builtin,Builtin.max_,Builtin.max2]
theorem eY{X:Type}[du X]{t e:TypeId}{x:Operand}{ol oh:Option Operand}{s:SV}{i j:Int}{lo sz:Nat}{l m:List X}{w1:World}{ti:TypeInfo}(hs:cg lo w1 s l)(hc:Fx.ny l i j=some m)(ht:P.underlying t=some (.slice e))(hi:P.info? e=some ti)(hsz:ti.size=sz)(hF:Fr n F a dd)(ho:o.op = .slice t x ol oh none)
  (hx:ev F x=some s.v) (hl:(ol=none∧i=0) ∨ ∃ y k,ol=some y∧ev F y=some (.int k i)) (hh:(oh=none∧j=(l.length:Int)) ∨ ∃ y k,oh=some y∧ev F y=some (.int k j)) :
  (execOp a.eval o).run P w = .ok (.value (s.cut i.toNat j.toNat sz).v) w:=by
 obtain⟨h1,_⟩:=sL hc
 refine XO hs ht hi hsz hF ho hx ?_ ?_ ac_
 ·rcases hl with⟨rfl,rfl⟩|⟨y,k,rfl,hy⟩
  ·exact .inl ⟨rfl,rfl⟩
  ·exact .inr ⟨y,k,i,rfl,hy,ac_⟩
 ·rcases hh with⟨rfl,rfl⟩|⟨y,k,rfl,hy⟩
  ·exact .inl ⟨rfl,ac_⟩
  ·exact .inr ⟨y,k,j,rfl,hy,ac_⟩
theorem cB{X:Type}[du X]{x y:Operand}{t e lo' bytes:Nat}{s sx:SV}{xs l r:List X}{i:TypeInfo}{z:Value}(hr:Fx.app bytes xs l=some r)(ht:P.underlying t=some (.slice e))(hi:P.info? e=some i)(hz:i.zero=some z)
  (hsize:i.size=du.sz X) (yk:i.bytes=bytes) (tg:z.cells.size=du.sz X)
  (hF:Fr n F a dd) (ho:o.op = .call { callee:=.builtin .append,args:=#[x,y],argTypes:=#[t,t] }) (hx:ev F x=some s.v) (hy:ev F y=some sx.v)
  (hown:Own 0 w e s xs) (hsx:cg lo' w sx l)
  (next:∀ (s':SV) w',oa (ak 0 s e xs) (ak 0 s' e r) w w' → J s'.v w'):Yd P o a.eval w J:=by
 obtain⟨hb,rfl⟩:=cZ hr
 exact Ec ht hi hz hsize yk tg hF ho hx hy hown hsx hb (aau _) fun s' w' hU _=>next s' w' hU
theorem fS{X Y:Type}[du X]{x y:Operand}{t e lo' bytes:Nat}{s sx:SV}{xs l:List X}{ys m r:List Y}{i:TypeInfo}{z:Value}(hr:Fx.app bytes ys m=some r)(h1:xs.length=ys.length)(h2:l.length=m.length)(ht:P.underlying t=some (.slice e))(hi:P.info? e=some i)(hz:i.zero=some z)
  (hsize:i.size=du.sz X) (yk:i.bytes=bytes) (tg:z.cells.size=du.sz X)
  (hF:Fr n F a dd) (ho:o.op = .call { callee:=.builtin .append,args:=#[x,y],argTypes:=#[t,t] }) (hx:ev F x=some s.v) (hy:ev F y=some sx.v)
  (hown:Own 0 w e s xs) (hsx:cg lo' w sx l)
  (next:∀ (s':SV) w',oa (ak 0 s e xs) (ak 0 s' e (xs++l)) w w' → J s'.v w'):Yd P o a.eval w J:=by
 obtain⟨hb,rfl⟩:=cZ hr
 rw[←h1,←h2]at hb
 exact Ec ht hi hz hsize yk tg hF ho hx hy hown hsx hb (aau _) fun s' w' hU _=>next s' w' hU
end
section
variable {rr:Option Nat}{P:Program}{Q:Exit→Act→World→Prop}{a:Act}{dd:List Deferred}{w:World}{n:Nat}{F:List (Nat×Value)}{L:List di}{σ γ τ:Type}
theorem aM{c:Code}{t:Option (τ⊕γ)}{k:τ→Option γ}{r:γ}(hF:Fr n F a dd)(hM:au w L)(hP:seq t k=some r)(I:List (Nat×Value)→τ→Act→World→Prop)
  (h1:∀ o,t=some o→fin k o=some r→Fr n F a dd→au w L→Wp rr P c (Exit.then (fun a w=>∃ x,o = .inl x∧I F x a w) Q) a w)
  (h2:∀ x a w,k x=some r→I F x a w→Q .normal a w):Wp rr P c Q a w:=by
 obtain⟨o,ho,hk⟩:=cM hP
 refine UO (h1 o ho hk hF hM) ?_
 rintro a w ⟨x,rfl,hI⟩
 exact h2 x a w hk hI
theorem aY {c:Code} {body:σ → Option (σ ⊕ γ)} {s0:σ} {o:γ} (hF:Fr n F a dd) (hM:au w L) (hP:loop body s0 = some o) (I:List (Nat × Value) → σ → Act → World → Prop)
    (h0:Fr n F a dd → au w L → I F s0 a w)
    (h1:∀ s a w o',body s = some o' → (∀ g,o' = .inr g → g = o) → I F s a w → Wp rr P c (Exit.then (fun a w=>∃ s',o' = .inl s' ∧ I F s' a w) Q) a w):Wp rr P (.loop c) Q a w:=by
  obtain ⟨m,hm⟩:=nT.1 hP
  refine Hh (fun (m:Nat) a w=>∃ s,me body m s = some o ∧ I F s a w) id m ⟨s0,hm,h0 hF hM⟩ ?_
  rintro m a w ⟨s,hs,hI⟩
  cases m with
  | zero=>cases hs
  | succ m =>
    cases hb:body s with
    | none=>simp [me,hb] at hs
    | some o' =>
      have h2:=h1 s a w o' hb (fun g hg=>by subst hg; simp only [me,hb] at hs; exact ac8 hs) hI
      refine wpIn_mono h2 fun e a' w' q=>?_
      cases e <;> first
        | (obtain ⟨s', rfl, HZ⟩ := q
           exact ⟨m,⟨s',by simpa only [me,hb] using hs,HZ⟩,acz m⟩)
        | exact q
theorem cN{i:Nat}{l:List Oper}(hm:P.follows .mixedOrders=true)(hc:Fw.chk l.toArray=true)(hM:au w L)(is:List Nat)(k:Nat)(hn:(ni is&&rU k is)=true)(h:Fw.chk l.toArray=true→DW rr P l.toArray Q [] (au · (yS L is k)) (au · L) a):Wp rr P (.region i l.toArray true) Q a w :=
 D_ hm (bS hM.drew is k hn) hM.drew (h hc)
end
end Go.Fx
end
