/- Ground for the claim TraceFaith. -/
import Derived.Laws.CopyRow
import Derived.Laws.Cover3
import Derived.Laws.IdiomCopy
import Derived.Laws.IdiomStrings
import Derived.Test.YtmgnkohlfbjjnaaGreatRFa2
set_option linter.unusedVariables false
set_option linter.unusedSimpArgs false
section
namespace Go.Fw
def SV.cut(s:SV)(i j sz:Nat):SV:=⟨if s.cap-i=0 then s.a else s.a.map (·.add (i*sz)),j-i,s.cap-i⟩
theorem cH.cut{X:Type}[d_ X]{lo:Nat}{w:World}{s:SV}{l:List X}(h:cH lo w s l){i j:Nat}(hij:i≤j)(hj:j≤l.length):cH lo w (s.cut i j (d_.sz X)) ((l.drop i).take (j-i)):=by
 have hl:=h.len
 have hr:=h.room
 have hc:=h.cells
 refine⟨by simp[SV.cut];omega,by simp only[SV.cut];omega,?_⟩
 obtain⟨sa,sl,sc⟩:=s
 simp only at hl hr
 subst hl
 by_cases h0:sc-i=0
 ·simp only[SV.cut,aaJ h0]
  have hd:(l.drop i).take (j-i) = []:=by rw[acB adr];simp
  cases sa with
  | none=>exact⟨hd,h0⟩
  | some ad =>
   obtain⟨h1,h2,h3⟩:=hc
   exact⟨.inl hd,h2,by rw[hd];intro k v hv;simp[jS]at hv⟩
 ·simp only[SV.cut,aaK h0]
  cases sa with
  | none =>
   obtain⟨h1,h2⟩:=hc
   subst h1
   exact⟨by simp,by simp at h2;omega⟩
  | some ad =>
   obtain⟨b,off,sp⟩:=ad
   obtain⟨h1,h2,h3⟩:=hc
   simp only at h1
   rcases h1 with h1|h1
   ·have hd:(l.drop i).take (j-i) = []:=by rw[h1];simp
    simp only[aaU]
    exact⟨.inl hd,by simpa[Addr.add]using(by split<;>exact h2:lo≤(if i*d_.sz X=0 then(⟨b,off,sp⟩ : Addr)else⟨b,off+i*d_.sz X,none⟩).block),by rw[hd];intro k v hv;simp[jS]at hv⟩
   subst h1
   simp only[aaU,dY]
   refine⟨.inr trivial,h2,fun k v hv=>?_⟩
   have hk:k<(encs ((l.drop i).take (j-i))).length:=(aaz.1 hv).1
   have e:encs l=encs (l.take i)++(encs ((l.drop i).take (j-i))++encs ((l.drop i).drop (j-i))):=by
    rw[←dW,←dW,abt,abt]
   have e1:(encs (l.take i)).length=i*d_.sz X:=by rw[dM];simp[ab6 (show i≤l.length by omega)]
   have:=h3 (i*d_.sz X+k) v (by rw[e,abl adr,e1,Nat.add_sub_cancel_left,abk hk,hv])
   simpa[Addr.add,abj]using this
theorem vt.cut{X:Type}[d_ X]{lo:Nat}{w:World}{s:SV}{l:List X}(h:vt lo w s l){i j:Nat}(hij:i≤j)(hj:j≤l.length):vt lo w (s.cut i j (d_.sz X)) ((l.drop i).take (j-i)) :=
 ⟨h.sl.cut hij hj,by have:=h.big;simp;omega⟩
theorem cH.ofArr{X:Type}[d_ X]{lo b off n:Nat}{w:World}{l:List X}(hc:jj w b off (encs l))(hb:lo≤b)(hn:l.length=n):cH lo w ⟨some ⟨b,off,none⟩,n,n⟩ l:=by
 subst hn;exact⟨rfl,aah _,.inr rfl,hb,hc⟩
theorem cH.isNil{X:Type}[d_ X]{lo:Nat}{w:World}{s:SV}{l:List X}(h:cH lo w s l)(hn:s.a.isNone=true):l = []:=by
 have hc:=h.cells
 cases ha:s.a with
 | none=>rw[ha]at hc;exact hc.1
 | some _=>rw[ha]at hn;cases hn
theorem cH.empty{X:Type}[d_ X]{lo b n:Nat}{w:World}(hb:lo≤b):cH lo w ⟨some ⟨b,0,none⟩,0,n⟩ ([]:List X):=⟨rfl,aaF _,.inr rfl,hb,fun k v hv=>by simp[jS]at hv⟩
theorem qM{X:Type}[d_ X]{l:List X}{i:Nat}{y:X}{v:Value}(h:l[i]? = some y)(hv:(d_.enc y)[0]? = some v):(encs l)[i*d_.sz X]? = some v:=by
 have:=cL (kX l i y h) hv
 simpa using this
theorem Own.ofPt{X:Type}[d_ X]{lo b e n c:Nat}{w:World}{l:List X}(hb:w.heap[b]? = some (.cells (encs l).toArray e (0,0)))(hlo:lo≤b)(hn:n=l.length)(hc:c=n)(hm:n≤maxLen):Own lo w e ⟨some ⟨b,0,none⟩,n,c⟩ l:=by
 subst hn hc
 exact⟨by rw[dM],.inr ⟨b,l.length,(encs l).toArray,rfl,hlo,hb,aah _,hm,by simp[dM],by simp[acn,dM]⟩⟩
theorem au.ptRow{w:World}{L:List dw}{X:Type}[d_ X]{lo i b e n c:Nat}{l:List X}{cs:List Value}(h:au w L)(hi:L[i]? = some (pt b cs e))(hc:cs=encs l)(hlo:lo≤b)(hn:n=l.length)(hcc:c=n)(hm:n≤maxLen) :
  au w (L.set i (ai lo ⟨some ⟨b,0,none⟩,n,c⟩ e l)):=by
 subst hc
 refine h.upd i hi (Io.refl w) (aah _) (fun _ _ _=>rfl) (Own.ofPt (h.obj hi) hlo hn hcc hm) fun k hk=>.inl ?_
 simp[dw.fp,SV.v,Value.ownBlock]at hk ⊢
 exact hk.symm
theorem Xy{X:Type}[d_ X]{l:List X}{i:Nat}{y:X}{vs:List Value}{d:Nat}{z:X}(h:l[i]? = some y)(hd:d+vs.length≤d_.sz X)(hp:put (d_.enc y) d vs=d_.enc z):put (encs l) (i*d_.sz X+d) vs=encs (l.set i z):=by
 induction l generalizing i with
 | nil=>simp at h
 | cons x l ih =>
  cases i with
  | zero =>
   simp at h;subst h
   simp only[acj,acr,List.set_cons_zero,kG]
   rw[qW (n:=vs.length) (by rw[d_.len];exact hd) rfl hp]
  | succ i =>
   simp only[aa7,kG]
   rw[show(i+1)*d_.sz X+d=d_.sz X+(i*d_.sz X+d) by rw[aci];omega]
   exact jG (d_.len _) (ih (by simpa using h))
section
variable {P:Program}{n:Nat}{F:List (Nat×Value)}{a:Act}{dd:List Deferred}{w:World}{o:Oper}{J:Value→World→Prop}
theorem lB{t yt e:TypeId}{x y:Operand}{s:SV}(ht:P.underlying t=some (.slice e))(hF:Fr n F a dd)(ho:o.op = .binOp .eql t x y yt)(hx:ev F x=some s.v)(hy:ev F y=some (.slice none 0 0)) :
  (execOp a.eval o).run P w = .ok (.value (.bool s.a.isNone)) w:=by
 obtain⟨sa,sl,sc⟩:=s
 have e:(binOp .eql t (.slice sa sl sc) (.slice none 0 0)).run P w = .ok (.bool sa.isNone) w:=by
  have:=run_equal_slice_nil (P:=P) w t e sa sl sc ht
  simp only[binOp,Sem.run_bind,this,Result.andThen_ok,Sem.run_pure]
 simp only[execOp,ho,hF.eval hx,hF.eval hy,SV.v,eqGuard,abB,abQ,if_false,Sem.run_bind,Sem.run_pure,Result.andThen_ok,e]
theorem ZE{X:Type}[d_ X]{t e:TypeId}{x:Operand}{ol oh:Option Operand}{s:SV}{i j lo sz:Nat}{l:List X}{w1:World}{ti:TypeInfo}(hs:cH lo w1 s l)(ht:P.underlying t=some (.slice e))(hi:P.info? e=some ti)(hsz:ti.size=sz)(hF:Fr n F a dd)(ho:o.op = .slice t x ol oh none)
  (hx:ev F x=some s.v) (hl:(ol=none∧i=0) ∨ ∃ y k z,ol=some y∧ev F y=some (.int k z)∧z=(i:Nat)) (hh:(oh=none∧j=l.length) ∨ ∃ y k z,oh=some y∧ev F y=some (.int k z)∧z=(j:Nat)) (hij:i≤j∧j≤l.length) :
  (execOp a.eval o).run P w = .ok (.value (s.cut i j sz).v) w:=by
 have h1:=hs.len
 have h2:=hs.room
 subst hsz
 obtain⟨sa,sl,sc⟩:=s
 simp only at h1 h2
 have eb:∀ (v:Value) (k:IntKind) (q c:Nat) (bc:BoundsCode),v = .int k (q:Nat)→q≤c→(Instr.sliceBound v c bc).run P w = .ok q w:=by
  intro v k q c bc hv hq
  subst hv
  have yL:(0:Int)≤(q:Int)∧(q:Int)≤(c:Int):=adr
  simp only[Instr.sliceBound,asIntOf,Sem.run_bind,Sem.run_pure,Result.andThen_ok,aaJ yL,abE]
 have e2:(Instr.sliceBounds true sl sc (ol.map a.eval) (oh.map a.eval) none).run P w = .ok (i,j,sc) w:=by
  rcases hl with⟨rfl,rfl⟩|⟨y,k,_,rfl,hy,rfl⟩<;>rcases hh with⟨rfl,rfl⟩|⟨z,k',_,rfl,hz,rfl⟩
  ·simp[Instr.sliceBounds,h1]
  ·simp[Instr.sliceBounds,hF.eval hz,eb _ k' j sc _ rfl adr]
  ·simp[Instr.sliceBounds,hF.eval hy,eb _ k i sl _ rfl adr,h1]
   simp[eb _ k i l.length _ rfl adr]
  ·simp[Instr.sliceBounds,hF.eval hy,hF.eval hz,eb _ k' j sc _ rfl adr,eb _ k i j _ rfl adr]
 have e3:(Instr.sliceAt t (.slice sa sl sc) (ol.map a.eval) (oh.map a.eval) none).run P w = .ok (SV.cut ⟨sa,sl,sc⟩ i j ti.size).v w:=by
  by_cases hc:sc=i
  ·subst hc
   simp[Instr.sliceAt,Instr.slice,run_underlying ht,e2,sizeOf,typeInfo,hi,SV.cut,SV.v]
  ·have:¬ sc-i=0:=adr
   simp[Instr.sliceAt,Instr.slice,run_underlying ht,e2,sizeOf,typeInfo,hi,SV.cut,SV.v,hc,this]
 simp only[execOp,ho,hF.eval hx,SV.v,acL,Sem.run_bind,Result.andThen_ok,Sem.run_pure]at e3 ⊢
 simp only[e3,Result.andThen_ok]
theorem gY{X:Type}[d_ X]{t e:Nat}{ie:TypeInfo}(lo:Nat)(hlo:lo≤w.heap.size)(hu:P.underlying t=some (.slice e))(hie:P.info? e=some ie)(ho:o.op = .buildSlice t 0 #[])
  (next:∀ (s:SV) w',iy (ai lo s e ([]:List X)) w w' → J s.v w'):Yd P o a.eval w J:=by
 have hA:iy (ai lo ⟨some ⟨w.heap.size,0,none⟩,0,0⟩ e ([]:List X)) w (w.alloc (.cells #[] e (0,0))) :=
  ⟨gw.alloc w _,⟨by simp[jS],.inr ⟨w.heap.size,0,#[],rfl,hlo,heap_alloc_new w _,aah _,by simp[maxLen],by simp,by simp[jS]⟩⟩,fun k hk=>by simp[dw.fp,SV.v,Value.ownBlock]at hk;omega⟩
 have h:=next _ _ hA
 have hr:(Instr.buildSlice t 0 #[]).run P w = .ok (SV.v ⟨some ⟨w.heap.size,0,none⟩,0,0⟩) (w.alloc (.cells #[] e (0,0))):=by
  have e1:∀ w,(sizeOf e).run P w = .ok ie.size w:=fun w=>by simp[sizeOf,typeInfo,hie]
  simp only[Instr.buildSlice,Sem.run_bind,run_underlying hu,Result.andThen_ok,e1,acj]
  have e0:Array.range 0 = #[]:=by simp
  simp[Instr.fill,newRow]
  rw[e0,acM]
 unfold Yd
 simp only[execOp,ho,Sem.run_bind,acd,abq,acM,hr,Result.andThen_ok,Sem.run_pure]
 exact h
theorem GR{X:Type}[d_ X]{t dT e lo lo' i ty:Nat}{s sx:SV}{l xs:List X}{ti:TypeInfo}{x y:Operand}(ht:P.underlying dT=some (.slice e))(hi:P.info? e=some ti)(hs1:ti.size=1)(hX:d_.sz X=1)
  (hF:Fr n F a dd) (ho:o.op = .call { callee:=.builtin .copy,args:=#[x,y],argTypes:=#[dT,t] }) (hx:ev F x=some (s.cut i l.length 1).v) (hy:ev F y=some sx.v)
  (hown:Own lo w e s l) (hsx:cH lo' w sx xs) (hfit:i+xs.length≤l.length)
  (next:∀ w',oc (ai lo s e l) (ai lo s e (put l i xs)) w w' → J (.int .i64 (xs.length:Nat)) w'):Yd P o a.eval w J:=by
 have hsz:(P.info? e).map (·.size)=some 1:=by simp[hi,hs1]
 have fin:∀ w',(Builtin.copy_ #[dT,t] o.type #[(s.cut i l.length 1).v,sx.v]).run P w = .ok (goInt xs.length) w' → oc (ai lo s e l) (ai lo s e (put l i xs)) w w' → Yd P o a.eval w J:=by
  intro w' hr hU
  have h:=next w' hU
  unfold Yd
  simp only[execOp,ho,resolve,invoke,builtin,Sem.run_bind,Sem.run_pure,Result.andThen_ok,acd,abp,abq,hF.eval hx,hF.eval hy,hr]
  exact h
 have vo:=hsx.len
 by_cases hxs:xs = []
 ·subst hxs
  have qb:put l i ([]:List X)=l:=by simp[put]
  refine fin w ?_ ?_
  ·simp only[acu]at vo
   have:=run_copy_none (P:=P) w dT t o.type e (s.cut i l.length 1).a sx.a (s.cut i l.length 1).len (s.cut i l.length 1).cap sx.len sx.cap ht hsz (by rw[vo];simp)
   simpa[SV.v]using this
  ·rw[qb]
   exact⟨Io.refl w,aah _,fun _ _ _=>rfl,hown,fun k hk=>.inl hk⟩
 ·have hpos:0<xs.length:=acN.2 hxs
  obtain⟨b,off,hb⟩:=hsx.addr hxs
  have EY:=hsx.cells
  rw[hb]at EY
  obtain⟨_,_,EY⟩:=EY
  rcases hown.2 with⟨h1,h2⟩|⟨g,cap,cur,h1,h3,h4,h5,h6,h7,h8⟩
  ·omega
  ·have hs:s=⟨some ⟨g,0,none⟩,l.length,cap⟩:=by obtain⟨a,b,c⟩:=s;cases h1;rfl
   have hcut:s.cut i l.length 1=⟨some ⟨g,i,none⟩,l.length-i,cap-i⟩:=by
    rw[hs];simp only[SV.cut];rw[aaK adr];simp[dY]
   have hel:(encs xs).length=xs.length:=by rw[dM,hX,acO]
   rw[hX,acO]at h7 h8
   have Df:i+(encs xs).length≤cur.size:=by rw[hel];omega
   have hr:=run_copy_row (P:=P) w dT t o.type e g i (l.length-i) (cap-i) ⟨b,off,none⟩ xs.length sx.cap cur e (encs xs) ht hsz h4 (by rw[hel];simp[Nat.min_def];omega) (fun j v hv=>by rw[dY];exact EY j v hv) Df (eY xs)
   rw[hel]at hr
   refine fin _ (by rw[hcut,hb];exact hr) ?_
   have hnew:∀ (cs':List Value),cs'.length=cur.size→cs'.take l.length=encs (put l i xs)→Own lo (w.setRow g cs'.toArray) e s (put l i xs):=by
    intro cs' hc1 qN
    have xr:(put l i xs).length=l.length:=by simp[put];omega
    refine⟨by rw[dM],.inr ⟨g,cap,cs'.toArray,by rw[xr];exact h1,h3,setRow_heap w g cur cs'.toArray e _ h4,by rw[xr];exact h5,h6,by simp[hc1,h7,hX],by rw[xr,hX,acO];simpa using qN⟩⟩
   have I4:(encs l).length=l.length:=by rw[dM,hX,acO]
   refine⟨⟨rfl,rfl,rfl⟩,by simp[World.setRow],fun k _ hf=>setRow_other w g k _ fun e'=>hf (by subst e'; simp[dw.fp,h1,Value.ownBlock]),hnew _ (by simp;omega) ?_,fun k hk=>.inl hk⟩
   have e1:encs (put l i xs)=(encs l).take i++encs xs++(encs l).drop (i+xs.length):=by
    unfold put
    rw[dW,dW]
    congr 1
    ·congr 1
     have e3:(encs (l.take i)).length=i:=by rw[dM,hX];simp;omega
     have h':=dW (l.take i) (l.drop i)
     rw[abt]at h'
     rw[h'];exact(acP e3).symm
    ·have e3:(encs (l.take (i+xs.length))).length=i+xs.length:=by rw[dM,hX];simp;omega
     have h':=dW (l.take (i+xs.length)) (l.drop (i+xs.length))
     rw[abt]at h'
     rw[h'];exact(acQ e3).symm
   rw[e1,←h8]
   apply abr
   intro j
   simp only[aaG,acR,ach,abO,abK,aaH,hel,acS]
   repeat' split
   all_goals first|rfl|omega|(congr 1;omega)|skip
theorem qX{t e:TypeId}{x:Operand}{b off len:Nat}{ti:TypeInfo}(ht:P.underlying t=some (.array len e))(hi:P.info? e=some ti)(hpos:Nat.beq len 0=false)(hF:Fr n F a dd)(ho:o.op = .slice t x none none none)(hx:ev F x=some (.pointer (some ⟨b,off,none⟩))) :
  (execOp a.eval o).run P w = .ok (.value (SV.v ⟨some ⟨b,off,none⟩,len,len⟩)) w:=by
 have hp:¬ len=0:=fun h=>by subst h;cases hpos
 simp[execOp,ho,hF.eval hx,Instr.sliceAt,Instr.sliceBounds,Instr.sureAddr,run_underlying ht,sizeOf,typeInfo,hi,hp,dY,SV.v]
theorem Xe{t d e lo:TypeId}{x:Operand}{s:SV}{l:List UInt8}{w1:World}{S:List Nat}{lo':Nat}(hs:cH lo w1 s l)(E2:Same lo' S w1 w)(hlo:lo' ≤ lo)(hS:∀ b∈S,b<lo)(ht:P.underlying t=some (.slice e))(he:P.underlying e=some (.int .u8))(hd:P.underlying d=some .string)
  (hF:Fr n F a dd) (ho:o.op = .convert t d x) (hx:ev F x=some s.v):(execOp a.eval o).run P w = .ok (.value (.string ⟨l.toArray⟩)) w:=by
 have h:=hs.now E2 hlo hS
 have hl:=h.len
 have hc:=h.cells
 obtain⟨sa,sl,sc⟩:=s
 simp only at hl;subst hl
 have e:(convert t d (SV.v ⟨sa,l.length,sc⟩)).run P w = .ok (.string ⟨l.toArray⟩) w:=by
  cases sa with
  | none =>
   have hn:l = []:=hc.1
   subst hn
   rw[show SV.v ⟨none,([]:List UInt8).length,sc⟩ = .slice none 0 sc from rfl,run_convert_bytes_string w t d e none 0 sc ht he hd]
   simp[Conv.bytesToString]
   rfl
  | some ad =>
   obtain⟨b,off,sp⟩:=ad
   obtain⟨h1,h2,h3⟩:=hc
   refine run_convert_bytes_back (P:=P) w t d e ⟨b,off,sp⟩ sc l ht he hd fun j hj=>?_
   have h1:sp=none:=h1.resolve_left fun h=>by rw[h]at hj;exact absurd hj (acp _)
   subst h1
   rw[dY]
   have:=h3 (j*d_.sz UInt8) (.int .u8 (l[j].toNat:Int)) (qM (aa9 hj) rfl)
   rwa [show j*d_.sz UInt8=j from acO j]at this
 simp only[execOp,ho,hF.eval hx,Sem.run_bind,e,Result.andThen_ok,Sem.run_pure]
theorem uF(l:List UInt8):(ByteArray.mk l.toArray).toList=l:=by simp
theorem sK{t yt:TypeId}{x y:Operand}{i j:List UInt8}(hF:Fr n F a dd)(ho:o.op = .binOp .eql t x y yt)(hx:ev F x=some (.string ⟨i.toArray⟩))(hy:ev F y=some (.string ⟨j.toArray⟩)) :
  (execOp a.eval o).run P w = .ok (.value (.bool (decide (i=j)))) w:=by
 rw[ZB hF ho hx hy,uF,uF]
 by_cases h:i=j<;>simp[h]
theorem Vz{X:Type}[d_ X]{t e lo i d sz off:Nat}{x y:Operand}{s:SV}{l:List X}{v:Value}{vs:List Value}{p q:X}(hsz:∀ w,(sizeOf t).run P w = .ok sz w)(hown:Own lo w e s l)(hp:l[i]? = some p)(hF:Fr n F a dd)(ho:o.op = .store t x y)
  (hx:ev F x=some (.pointer (some ⟨s.blk,off,none⟩))) (hoff:off=s.off+(i*d_.sz X+d)) (hy:ev F y=some v) (hv:v.cells=vs.toArray) (hl:vs.length=sz) (h1:∀ u∈vs,u.oneCell' = true) (hd:d+vs.length≤d_.sz X) (oH:put (d_.enc p) d vs=d_.enc q)
  (next:∀ w',oc (ai lo s e l) (ai lo s e (l.set i q)) w w' → J undef w'):Yd P o a.eval w J:=by
 have hi:i<l.length:=(aaz.1 hp).1
 rcases hown.2 with⟨h2,h3⟩|⟨g,cap,cur,h2,h3,h4,h5,h6,h7,h8⟩
 ·omega
 ·have hs:s=⟨some ⟨g,0,none⟩,l.length,cap⟩:=by obtain⟨a,b,c⟩:=s;cases h2;rfl
  have hb:s.blk=g:=by rw[hs];rfl
  have ho0:s.off=0:=by rw[hs];rfl
  rw[hb,hoff,ho0,acr]at hx
  have hel:(encs l).length=l.length*d_.sz X:=dM l
  have hle:i*d_.sz X+d+vs.length≤l.length*d_.sz X:=by
   have:(i+1)*d_.sz X≤l.length*d_.sz X:=acs _ hi
   rw[aci,acJ]at this;omega
  have hcap:l.length*d_.sz X≤cap*d_.sz X:=acs _ h5
  have Px:cur=(cur.toList).toArray:=by simp
  rw[Px]at h4
  refine aU (cs:=cur.toList) (cs':=put cur.toList (i*d_.sz X+d) vs) hsz h4 hF ho hx hy hv hl h1 (by simp;omega) rfl fun w' hU=>next w' ?_
  have e1:cur.toList=encs l++cur.toList.drop (l.length*d_.sz X):=by rw[←h8];exact(abt _ _).symm
  have e2:put cur.toList (i*d_.sz X+d) vs=encs (l.set i q)++cur.toList.drop (l.length*d_.sz X):=by
   rw[e1,qW (n:=vs.length) (s':=encs (l.set i q)) adr rfl (Xy hp hd oH)]
   congr 1
   have e3:((encs l++cur.toList.drop (l.length*d_.sz X)).drop (l.length*d_.sz X))=cur.toList.drop (l.length*d_.sz X):=acQ hel
   exact e3.symm
  have hown':Own lo w' e s (l.set i q):=by
   refine⟨by rw[dM],.inr ⟨g,cap,(put cur.toList (i*d_.sz X+d) vs).toArray,by rw[abT];exact h2,h3,hU.holds,by rw[abT];exact h5,h6,?_,?_⟩⟩
   ·have:(put cur.toList (i*d_.sz X+d) vs).length=cur.toList.length:=by simp[put];omega
    simp[this,h7]
   ·simp only[e2]
    exact acP (by rw[dM])
  exact⟨hU.io,hU.size,fun k hk hf=>hU.block k hk fun e'=>hf (by simp only[dw.fp]at e' ⊢; subst e'; rw[hs];rfl),hown',fun k hk=>.inl hk⟩
theorem dB{X:Type}[d_ X]{t e lo i d off:Nat}{x y:Operand}{s:SV}{l:List X}{v:Value}{p q:X}(hsz:∀ w,(sizeOf t).run P w = .ok 1 w)(hown:Own lo w e s l)(hp:l[i]? = some p)(hF:Fr n F a dd)(ho:o.op = .store t x y)
  (hx:ev F x=some (.pointer (some ⟨s.blk,off,none⟩))) (hoff:off=s.off+(i*d_.sz X+d)) (hy:ev F y=some v) (h1:v.oneCell' = true) (hd:d<d_.sz X) (oH:(d_.enc p).set d v=d_.enc q)
  (next:∀ w',oc (ai lo s e l) (ai lo s e (l.set i q)) w w' → J undef w'):Yd P o a.eval w J:=by
 have hc:v.cells = #[v]:=by cases v<;>first|rfl|cases h1
 refine Vz (vs:=[v]) (d:=d) hsz hown hp hF ho hx hoff hy hc rfl (by simpa using h1) (by simp;omega) ?_ next
 rw[←oH,acb,aaJ (by rw[d_.len];exact hd)]
 simp[put]
end
end Go.Fw
end
section
namespace Go.Fx
open Go Go.Fw
def kn{σ γ:Type}(body:σ→Option (σ⊕γ)):Nat→σ→Option γ
 | 0,_=>none
 | n+1,s=>match body s with
  | none=>none
  | some (.inl s')=>kn body n s'
  | some (.inr g)=>some g
open Classical in
noncomputable def loop{σ γ:Type}(body:σ→Option (σ⊕γ))(s:σ):Option γ :=
 if h:∃ g n,kn body n s=some g then some h.choose else none
section
variable {σ γ τ X:Type}
theorem RE{body:σ→Option (σ⊕γ)}{n:Nat}:∀ {m:Nat} {s:σ} {g:γ},kn body n s=some g→n≤m→kn body m s=some g:=by
 induction n with
 | zero=>intro m s g h;simp[kn]at h
 | succ n ih =>
  intro m s g h hm
  obtain⟨m,rfl⟩ : ∃ k,m=k+1:=⟨m-1,adr⟩
  simp only[kn]at h ⊢
  split at h
  ·cases h
  ·rename_i s' hb;exact ih h adr
  ·rename_i g' hb;exact h
theorem W7{body:σ→Option (σ⊕γ)}{n m:Nat}{s:σ}{g g':γ}(h:kn body n s=some g)(k:kn body m s=some g'):g=g':=by
 have h1:=RE h (Nat.le_max_left n m)
 have h2:=RE k (Nat.le_max_right n m)
 exact adp (h1.symm.trans h2)
theorem nU{body:σ→Option (σ⊕γ)}{s:σ}{g:γ}:loop body s=some g ↔ ∃ n,kn body n s=some g:=by
 unfold loop
 split
 ·rename_i h
  obtain⟨n,hn⟩:=h.choose_spec
  constructor
  ·intro e;cases e;exact⟨n,hn⟩
  ·rintro⟨m,hm⟩;rw[W7 hn hm]
 ·rename_i h
  constructor
  ·intro e;cases e
  ·rintro⟨m,hm⟩;exact absurd ⟨g,m,hm⟩ h
theorem vp(body:σ→Option (σ⊕γ))(s:σ):loop body s=match body s with
  | none=>none
  | some (.inl s')=>loop body s'
  | some (.inr g)=>some g:=by
 have key:∀ g,loop body s=some g↔(match body s with
  | none=>none
  | some (.inl s')=>loop body s'
  | some (.inr g)=>some g)=some g:=by
  intro g
  rw[nU]
  constructor
  ·rintro⟨n,hn⟩
   cases n with
   | zero=>cases hn
   | succ n =>
    simp only[kn]at hn
    split at hn
    ·cases hn
    ·exact nU.2 ⟨n,hn⟩
    ·exact hn
  ·intro h
   split at h
   ·cases h
   ·rename_i s' hb
    obtain⟨n,hn⟩:=nU.1 h
    exact⟨n+1,by simp only[kn,hb];exact hn⟩
   ·rename_i g' hb
    exact⟨1,by simp only[kn,hb];exact h⟩
 cases h:loop body s with
 | none =>
  cases h2:(match body s with
  | none=>none
  | some (.inl s')=>loop body s'
  | some (.inr g)=>some g)with
  | none=>rfl
  | some g=>have:=(key g).2 h2;rw[h]at this;cases this
 | some g=>exact((key g).1 h).symm
def fin(k:τ→Option γ):τ⊕γ→Option γ
 | .inl x=>k x
 | .inr g=>some g
def seq(t:Option (τ⊕γ))(k:τ→Option γ):Option γ:=match t with
 | none=>none
 | some o=>fin k o
theorem cJ{t:Option (τ⊕γ)}{k:τ→Option γ}{r:γ}(h:seq t k=some r):∃ o,t=some o∧fin k o=some r:=by
 cases t with
 | none=>cases h
 | some o=>exact⟨o,rfl,h⟩
theorem bB{k:τ→Option γ}{g r:γ}(h:fin k (.inr g)=some r):g=r:=adp h
theorem cT{c:Bool}{A B r:Option γ}(hc:c=true)(h:(bif c then A else B)=r):A=r:=by rw[hc]at h;exact h
theorem cF{c:Bool}{A B r:Option γ}(hc:c=false)(h:(bif c then A else B)=r):B=r:=by rw[hc]at h;exact h
theorem adu{t:Option τ}{k:τ→Option γ}{r:γ}(h:t.bind k=some r):∃ x,t=some x∧k x=some r:=acT.1 h
def must(p:Bool)(k:Option γ):Option γ:=bif p then k else none
theorem bE{p:Bool}{k:Option γ}{r:γ}(h:must p k=some r):p=true∧k=some r:=by
 cases p
 ·cases h
 ·exact⟨rfl,h⟩
def get(l:List X)(i:Int):Option X:=if 0≤i then l[i.toNat]? else none
theorem aL{l:List X}{i:Int}{x:X}(h:get l i=some x):0≤i∧l[i.toNat]? = some x:=by
 unfold get at h
 split at h
 ·exact⟨by assumption,h⟩
 ·cases h
theorem bA{l:List X}{i:Int}{x:X}(h:get l i=some x):0≤i∧i<(l.length:Int):=by
 obtain⟨h1,h2⟩:=aL h
 have:=(aaz.1 h2).1
 omega
theorem bT{n:Nat}{v:Vec X n}{i:Int}{x:X}(h:get v.l i=some x):0≤i∧i<(n:Int):=by
 have:=bA h;rw[v.len]at this;exact this
def nj(l:List X)(i j:Int):Option (List X):=if 0≤i∧i≤j∧j≤(l.length:Int)then some ((l.drop i.toNat).take (j.toNat-i.toNat))else none
theorem sS{l m:List X}{i j:Int}(h:nj l i j=some m):(0≤i∧i≤j∧j≤(l.length:Int))∧m=(l.drop i.toNat).take (j.toNat-i.toNat):=by
 unfold nj at h
 split at h
 ·cases h;exact⟨by assumption,rfl⟩
 ·cases h
def app(bytes:Nat)(l m:List X):Option (List X):=if(l.length+m.length)*bytes≤140737488355328∧l.length+m.length≤4611686018427387904 then some (l++m)else none
theorem cX{bytes:Nat}{l m r:List X}(h:app bytes l m=some r):((l.length+m.length)*bytes≤140737488355328∧l.length+m.length≤4611686018427387904)∧r=l++m:=by
 unfold app at h
 split at h
 ·cases h;exact⟨by assumption,rfl⟩
 ·cases h
end
def cn{X:Type}[d_ X](B:World→Prop)(s:SV)(l:List X):Prop:=∀ w,B w→cH 0 w s l
theorem cn.nil{X:Type}[d_ X]{B:World→Prop}:cn B SV.nil ([]:List X):=fun w _=>cH.nil 0 w
theorem cn.mono{X:Type}[d_ X]{B B':World→Prop}{s:SV}{l:List X}(h:cn B s l)(k:∀ w,B' w→B w):cn B' s l:=fun w hM=>h w (k w hM)
theorem cn.nj{X:Type}[d_ X]{B:World→Prop}{s:SV}{l m:List X}{i j:Int}{sz:Nat}(h:cn B s l)(hc:Fx.nj l i j=some m)(hsz:d_.sz X=sz):cn B (s.cut i.toNat j.toNat sz) m:=by
 subst hsz
 obtain⟨h1,rfl⟩:=sS hc
 exact fun w hM=>(h w hM).cut adr adr
theorem Ie{X:Type}[d_ X]{w:World}{lo:Nat}{s:SV}{l m:List X}{i j:Int}{sz:Nat}(h:cH lo w s l)(hc:Fx.nj l i j=some m)(hsz:d_.sz X=sz):cH lo w (s.cut i.toNat j.toNat sz) m:=by
 subst hsz
 obtain⟨h1,rfl⟩:=sS hc
 exact h.cut adr adr
theorem cV{X:Type}[d_ X]{w:World}{s:SV}{e:Nat}{l:List X}(h:(ai 0 s e l).holds' w):cH 0 w s l:=Own.slice h
theorem bw.getr{A B:Type}{R:A→B→Prop}{hs:List A}{l:List B}(h:bw R hs l){i:Nat}{y:B}(hy:l[i]? = some y):∃ x,hs[i]? = some x∧R x y:=by
 have hi:i<hs.length:=by rw[h.len];exact(aaz.1 hy).1
 exact⟨_,aa9 hi,h.at_ i _ _ (aa9 hi) hy⟩
theorem bw.bd{A B:Type}{R:A→B→Prop}{hs:List A}{l:List B}{i:Int}(h:bw R hs l)(k:0≤i∧i<(l.length:Int)):0≤i∧i<(hs.length:Int):=by rw[h.len];exact k
theorem bw.nj{A B:Type}{R:A→B→Prop}{hs:List A}{l m:List B}{i j:Int}(h:bw R hs l)(hc:Fx.nj l i j=some m):∃ hm,Fx.nj hs i j=some hm∧bw R hm m:=by
 obtain⟨h1,rfl⟩:=sS hc
 refine⟨(hs.drop i.toNat).take (j.toNat-i.toNat),?_,?_⟩
 ·unfold Fx.nj;rw[aaJ];rw[h.len];exact h1
 ·refine⟨by simp[h.len],fun a x y hx hy=>?_⟩
  rw[aaG]at hx hy
  split at hx
  ·rename_i ha
   rw[aaJ ha]at hy
   rw[aaH]at hx hy
   exact h.at_ _ x y hx hy
  ·cases hx
section
variable {w w':World}{L:List dw}
theorem dZ(h:au w L):∀ (n:Nat),au w (L.drop n):=by
 intro n
 induction n generalizing L with
 | zero=>exact h
 | succ n ih =>
  cases L with
  | nil=>exact h
  | cons r L=>exact ih h.tail
def A4(L:List dw)(is:List Nat)(n:Nat):List dw:=Ap L is++L.drop n
def uj(n:Nat):List Nat→Bool
 | []=>true
 | i::is=>Nat.blt i n&&uj n is
theorem RX{n:Nat}{is:List Nat}(h:uj n is=true):∀ i∈is,i<n:=by
 induction is with
 | nil=>simp
 | cons j is ih =>
  simp only[uj,aaB]at h
  intro i hi
  rcases aaY.1 hi with rfl|hi
  ·exact di h.1
  ·exact ih h.2 i hi
theorem bU(h:au w L)(is:List Nat)(n:Nat)(hn:(od is&&uj n is)=true):au w (A4 L is n):=by
 simp only[aaB]at hn
 have h1:=h.Ap is hn.1
 have h2:=dZ h n
 constructor
 ·intro i r hi
  unfold A4 at hi
  by_cases hl:i<(Ap L is).length
  ·rw[abk hl]at hi;exact h1.hold i r hi
  ·rw[abl adr]at hi;exact h2.hold _ r hi
 ·intro i j r s hi hj hij k hr hs
  unfold A4 at hi hj
  by_cases hl:i<(Ap L is).length
  ·rw[abk hl]at hi
   by_cases hl':j<(Ap L is).length
   ·rw[abk hl']at hj;exact h1.apart i j r s hi hj hij k hr hs
   ·rw[abl adr,aaH]at hj
    obtain⟨a,ha,ea⟩:=wW L is i r hi
    have:=RX hn.2 a ha
    exact h.apart a _ r s ea hj adr k hr hs
  ·rw[abl adr,aaH]at hi
   by_cases hl':j<(Ap L is).length
   ·rw[abk hl']at hj
    obtain⟨a,ha,ea⟩:=wW L is j s hj
    have:=RX hn.2 a ha
    exact h.apart _ a r s hi ea adr k hr hs
   ·rw[abl adr,aaH]at hj
    exact h.apart _ _ r s hi hj adr k hr hs
end
theorem lh{w:World}{L:List dw}{r s:dw}(h:au w (r::s::L)):∃ q:dw,(∀ w,q.holds' w→r.holds' w)∧(∀ w,q.holds' w→s.holds' w)∧au w (q::L) :=
 ⟨_,fun w h=>(h.2 w (Io.refl w) (aah _) fun _ _=>rfl).1,fun w h=>(h.2 w (Io.refl w) (aah _) fun _ _=>rfl).2,h.both⟩
theorem lx{w:World}{L:List dw}(h:au w L):∃ q:dw,au w (q::L):=⟨_,h.void (Q:=fun _=>True) fun _=>trivial⟩
theorem XF{l y y' l' vs:List Value}{o c d:Nat}(hc:Fw.cut l o c=y)(hp:put y d vs=y')(hl:put l o y' = l')(h1:o+c≤l.length)(h2:d+vs.length≤c):put l (o+d) vs=l':=by
 subst hc hp hl
 have e:(put (Fw.cut l o c) d vs).length=c:=by unfold put Fw.cut;simp;omega
 unfold put at *
 rw[e]
 unfold Fw.cut
 apply abr
 intro j
 simp only[acR,aaG,aaH,ach,abO,abK]
 repeat' split
 all_goals first|rfl|omega|(congr 1;omega)|skip
theorem fT{l y y' l':List Value}{v:Value}{o c d:Nat}(hc:Fw.cut l o c=y)(hp:y.set d v=y')(hl:put l o y' = l')(h1:o+c≤l.length)(h2:d<c):l.set (o+d) v=l':=by
 have hy:y.length=c:=by subst hc;unfold Fw.cut;simp;omega
 rw[acb,aaJ adr]
 have:=XF (vs:=[v]) (d:=d) hc (y':=y') (by rw[←hp,acb,aaJ adr];simp[put]) hl h1 (by simp;omega)
 rw[←this];simp[put]
theorem Gu{l l':List Value}{v:Value}{o:Nat}(h:put l o [v]=l')(h1:o<l.length):l.set o v=l':=by
 rw[acb,aaJ h1,←h];simp[put]
section
variable {P:Program}{n:Nat}{F:List (Nat×Value)}{a:Act}{dd:List Deferred}{w:World}{o:Oper}{J:Value→World→Prop}
theorem gB{t d e lo:TypeId}{x:Operand}{s:SV}{l:List UInt8}(hs:cH lo w s l)(ht:P.underlying t=some (.slice e))(he:P.underlying e=some (.int .u8))(hd:P.underlying d=some .string)
  (hF:Fr n F a dd) (ho:o.op = .convert t d x) (hx:ev F x=some s.v):(execOp a.eval o).run P w = .ok (.value (.string ⟨l.toArray⟩)) w :=
 Xe hs (S:=[]) (lo':=0) ⟨aah _,fun _ _ _ _=>rfl⟩ (aaF _) (by simp) ht he hd hF ho hx
theorem dR{X Y:Type}[d_ X]{t e lo:TypeId}{x:Operand}{s:SV}{l:List X}{m:List Y}{w1:World}(hs:cH lo w1 s l)(hl:l.length=m.length)(ht:P.underlying t=some (.slice e))(hF:Fr n F a dd)(ho:o.op = .call { callee:=.builtin .len,args:=#[x],argTypes:=#[t] })(hx:ev F x=some s.v) :
  (execOp a.eval o).run P w = .ok (.value (.int .i64 (m.length:Int))) w:=by rw[cQ hs ht hF ho hx,hl]
theorem ZX{t:TypeId}{x y:Operand}{k:IntKind}{i j:Int}(hF:Fr n F a dd)(ho:o.op = .call { callee:=.builtin .min,args:=#[x,y],argTypes:=#[t,t] })(hx:ev F x=some (.int k i))(hy:ev F y=some (.int k j)) :
  (execOp a.eval o).run P w = .ok (.value (.int k (if j<i then j else i))) w:=by
 simp only[execOp,ho,resolve,invoke,Sem.run_bind,Sem.run_pure,Result.andThen_ok,acd,abp,abq,hF.eval hx,hF.eval hy]
 simp[builtin,Builtin.min_,Builtin.min2]
theorem fC{X:Type}[d_ X]{t e:TypeId}{x:Operand}{ol oh:Option Operand}{s:SV}{i j:Int}{lo sz:Nat}{l m:List X}{w1:World}{ti:TypeInfo}(hs:cH lo w1 s l)(hc:Fx.nj l i j=some m)(ht:P.underlying t=some (.slice e))(hi:P.info? e=some ti)(hsz:ti.size=sz)(hF:Fr n F a dd)(ho:o.op = .slice t x ol oh none)
  (hx:ev F x=some s.v) (hl:(ol=none∧i=0) ∨ ∃ y k,ol=some y∧ev F y=some (.int k i)) (hh:(oh=none∧j=(l.length:Int)) ∨ ∃ y k,oh=some y∧ev F y=some (.int k j)) :
  (execOp a.eval o).run P w = .ok (.value (s.cut i.toNat j.toNat sz).v) w:=by
 obtain⟨h1,_⟩:=sS hc
 refine ZE hs ht hi hsz hF ho hx ?_ ?_ adr
 ·rcases hl with⟨rfl,rfl⟩|⟨y,k,rfl,hy⟩
  ·exact .inl ⟨rfl,rfl⟩
  ·exact .inr ⟨y,k,i,rfl,hy,adr⟩
 ·rcases hh with⟨rfl,rfl⟩|⟨y,k,rfl,hy⟩
  ·exact .inl ⟨rfl,adr⟩
  ·exact .inr ⟨y,k,j,rfl,hy,adr⟩
theorem cB{X:Type}[d_ X]{x y:Operand}{t e lo' bytes:Nat}{s sx:SV}{xs l r:List X}{i:TypeInfo}{z:Value}(hr:Fx.app bytes xs l=some r)(ht:P.underlying t=some (.slice e))(hi:P.info? e=some i)(hz:i.zero=some z)
  (hsize:i.size=d_.sz X) (An:i.bytes=bytes) (vg:z.cells.size=d_.sz X)
  (hF:Fr n F a dd) (ho:o.op = .call { callee:=.builtin .append,args:=#[x,y],argTypes:=#[t,t] }) (hx:ev F x=some s.v) (hy:ev F y=some sx.v)
  (hown:Own 0 w e s xs) (hsx:cH lo' w sx l)
  (next:∀ (s':SV) w',oc (ai 0 s e xs) (ai 0 s' e r) w w' → J s'.v w'):Yd P o a.eval w J:=by
 obtain⟨hb,rfl⟩:=cX hr
 exact GQ ht hi hz hsize An vg hF ho hx hy hown hsx hb (aaF _) fun s' w' hU _=>next s' w' hU
theorem fS{X Y:Type}[d_ X]{x y:Operand}{t e lo' bytes:Nat}{s sx:SV}{xs l:List X}{ys m r:List Y}{i:TypeInfo}{z:Value}(hr:Fx.app bytes ys m=some r)(h1:xs.length=ys.length)(h2:l.length=m.length)(ht:P.underlying t=some (.slice e))(hi:P.info? e=some i)(hz:i.zero=some z)
  (hsize:i.size=d_.sz X) (An:i.bytes=bytes) (vg:z.cells.size=d_.sz X)
  (hF:Fr n F a dd) (ho:o.op = .call { callee:=.builtin .append,args:=#[x,y],argTypes:=#[t,t] }) (hx:ev F x=some s.v) (hy:ev F y=some sx.v)
  (hown:Own 0 w e s xs) (hsx:cH lo' w sx l)
  (next:∀ (s':SV) w',oc (ai 0 s e xs) (ai 0 s' e (xs++l)) w w' → J s'.v w'):Yd P o a.eval w J:=by
 obtain⟨hb,rfl⟩:=cX hr
 rw[←h1,←h2]at hb
 exact GQ ht hi hz hsize An vg hF ho hx hy hown hsx hb (aaF _) fun s' w' hU _=>next s' w' hU
end
section
variable {rr:Option Nat}{P:Program}{Q:Exit→Act→World→Prop}{a:Act}{dd:List Deferred}{w:World}{n:Nat}{F:List (Nat×Value)}{L:List dw}{σ γ τ:Type}
theorem aM{c:Code}{t:Option (τ⊕γ)}{k:τ→Option γ}{r:γ}(hF:Fr n F a dd)(hM:au w L)(hP:seq t k=some r)(I:List (Nat×Value)→τ→Act→World→Prop)
  (h1:∀ o,t=some o→fin k o=some r→Fr n F a dd→au w L→Wp rr P c (Exit.then (fun a w=>∃ x,o = .inl x∧I F x a w) Q) a w)
  (h2:∀ x a w,k x=some r→I F x a w→Q .normal a w):Wp rr P c Q a w:=by
 obtain⟨o,ho,hk⟩:=cJ hP
 refine Xo (h1 o ho hk hF hM) ?_
 rintro a w ⟨x,rfl,hI⟩
 exact h2 x a w hk hI
theorem aY {c:Code} {body:σ → Option (σ ⊕ γ)} {s0:σ} {o:γ} (hF:Fr n F a dd) (hM:au w L) (hP:loop body s0 = some o) (I:List (Nat × Value) → σ → Act → World → Prop)
    (h0:Fr n F a dd → au w L → I F s0 a w)
    (h1:∀ s a w o',body s = some o' → (∀ g,o' = .inr g → g = o) → I F s a w → Wp rr P c (Exit.then (fun a w=>∃ s',o' = .inl s' ∧ I F s' a w) Q) a w):Wp rr P (.loop c) Q a w:=by
  obtain ⟨m,hm⟩:=nU.1 hP
  refine SI (fun (m:Nat) a w=>∃ s,kn body m s = some o ∧ I F s a w) id m ⟨s0,hm,h0 hF hM⟩ ?_
  rintro m a w ⟨s,hs,hI⟩
  cases m with
  | zero=>cases hs
  | succ m =>
    cases hb:body s with
    | none=>simp [kn,hb] at hs
    | some o' =>
      have h2:=h1 s a w o' hb (fun g hg=>by subst hg; simp only [kn,hb] at hs; exact adp hs) hI
      refine wpIn_mono h2 fun e a' w' q=>?_
      cases e <;> first
        | (obtain ⟨s', rfl, G9⟩ := q
           exact ⟨m,⟨s',by simpa only [kn,hb] using hs,G9⟩,acU m⟩)
        | exact q
theorem cM{i:Nat}{l:List Oper}(hm:P.follows .mixedOrders=true)(hc:Fw.chk l.toArray=true)(hM:au w L)(is:List Nat)(k:Nat)(hn:(od is&&uj k is)=true)(h:Fw.chk l.toArray=true→DW rr P l.toArray Q [] (au · (A4 L is k)) (au · L) a):Wp rr P (.region i l.toArray true) Q a w :=
 RZ hm (bU hM.drew is k hn) hM.drew (h hc)
end
end Go.Fx
end
