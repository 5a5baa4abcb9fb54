/- Ground for the claim TraceFaith. -/
import Derived.Great.BuildSlice
import Derived.Test.YtmgnkohlfbjjnaaGreatRFa1
set_option linter.unusedVariables false
set_option linter.unusedSimpArgs false
section
namespace Go.Fw
structure iy(r:dw)(w w':World):Prop where
 keeps:gw [] w w'
 holds:r.holds w'
 fp:∀ k,r.fp k→w.heap.size≤k
theorem au.plus{w w':World}{L:List dw}{r:dw}(h:au w L)(k:iy r w w'):au w' (r::L):=h.add k.keeps k.holds k.fp
structure oc(r r':dw)(w w':World):Prop where
 io:Io w w'
 size:w.heap.size≤w'.heap.size
 block:∀ k,k<w.heap.size → ¬ r.fp k→w'.heap[k]? = w.heap[k]?
 holds:r'.holds w'
 fp:∀ k,r'.fp k→r.fp k∨w.heap.size≤k
theorem au.chg{w w':World}{L:List dw}{r r':dw}(h:au w L)(k:oc r r' w w'){i:Nat}(hi:L[i]? = some r):au w' (L.set i r') :=
 h.upd i hi k.io k.size k.block k.holds k.fp
theorem gw.alloc(w:World)(o:Obj):gw [] w (w.alloc o) :=
 ⟨⟨rfl,rfl,rfl⟩,by simp,fun k hk _=>RowKit.Below.heap_alloc w o k hk⟩
theorem iy.alloc(w:World)(o:Obj):iy (.obj w.heap.size o) w (w.alloc o) :=
 ⟨gw.alloc w o,heap_alloc_new w o,fun k hk=>by simp only[dw.fp]at hk;omega⟩
theorem gw.drew{w:World}:gw [] w w.drew:=⟨⟨rfl,rfl,rfl⟩,aah _,fun _ _ _=>rfl⟩
theorem au.drew{w:World}{L:List dw}(h:au w L):au w.drew L:=h.keep gw.drew
theorem oc.setRow{w:World}{b:Nat}{cs cs':List Value}{T:TypeId}(hb:w.heap[b]? = some (.cells cs.toArray T (0,0))) :
  oc (pt b cs T) (pt b cs' T) w (w.setRow b cs'.toArray) :=
 ⟨⟨rfl,rfl,rfl⟩,by simp[World.setRow],fun k _ hf=>setRow_other w b k _ hf,setRow_heap w b cs.toArray cs'.toArray T _ hb,fun _ hk=>.inl hk⟩
def put{α:Type}(l:List α)(off:Nat)(vs:List α):List α:=l.take off++vs++l.drop (off+vs.length)
section
variable {P:Program}{n:Nat}{F:List (Nat×Value)}{a:Act}{dd:List Deferred}{w:World}{o:Oper}{J:Value→World→Prop}
theorem bI{e:TypeId}{z:Value}{zs:List Value}(hz:∀ w,(zeroValue e).run P w = .ok z w)(vg:z.cells=zs.toArray)(ho:o.op = .alloc e)
  (next:∀ b w',w.heap.size=b→iy (pt b zs e) w w' → J (.pointer (some ⟨b,0,none⟩)) w'):Yd P o a.eval w J:=by
 have h:=next w.heap.size (w.alloc (.cells zs.toArray e (0,0))) rfl (iy.alloc w _)
 unfold Yd
 simp only[execOp,ho,Instr.alloc,newVar,newRow,Sem.run_bind,hz,Result.andThen_ok,run_newObj,Sem.run_pure,vg]
 exact h
theorem gN{e:TypeId}{x:Operand}{v:Value}{zs:List Value}(hF:Fr n F a dd)(hx:ev F x=some v)(vg:v.cells=zs.toArray)(ho:o.op = .box e x)
  (next:∀ b w',w.heap.size=b→iy (pt b zs e) w w' → J (.pointer (some ⟨b,0,none⟩)) w'):Yd P o a.eval w J:=by
 have h:=next w.heap.size (w.alloc (.cells zs.toArray e (0,0))) rfl (iy.alloc w _)
 unfold Yd
 simp only[execOp,ho,hF.eval hx,Instr.box,newVar,newRow,Sem.run_bind,Result.andThen_ok,run_newObj,Sem.run_pure,vg]
 exact h
theorem aU{t T:TypeId}{x y:Operand}{b off sz:Nat}{v:Value}{vs cs cs':List Value}(hs:∀ w,(sizeOf t).run P w = .ok sz w)(hb:w.heap[b]? = some (.cells cs.toArray T (0,0)))(hF:Fr n F a dd)(ho:o.op = .store t x y)
  (hx:ev F x=some (.pointer (some ⟨b,off,none⟩))) (hy:ev F y=some v) (hv:v.cells=vs.toArray) (hl:vs.length=sz) (h1:∀ u∈vs,u.oneCell' = true) (hle:off+vs.length≤cs.length) (oH:put cs off vs=cs')
  (next:∀ w',oc (pt b cs T) (pt b cs' T) w w' → J undef w'):Yd P o a.eval w J:=by
 subst oH hl
 have h:=next _ (oc.setRow (cs':=put cs off vs) hb)
 have hst:=run_storeCells_at P b off T vs 0 cs.toArray w hb (by simpa using hle) h1
 simp only[ab_]at hst
 unfold Yd
 simp only[execOp,ho,hF.eval hx,hF.eval hy,Instr.storeAt,Instr.sureAddr,storeVar,Sem.run_bind,Sem.run_pure,Result.andThen_ok,hs,hv,aca,ne_eq,not_true_eq_false,if_false,hst]
 simpa[put]using h
theorem bN{t T:TypeId}{x y:Operand}{b off:Nat}{v:Value}{cs cs':List Value}(hs:∀ w,(sizeOf t).run P w = .ok 1 w)(hb:w.heap[b]? = some (.cells cs.toArray T (0,0)))(hF:Fr n F a dd)(ho:o.op = .store t x y)
  (hx:ev F x=some (.pointer (some ⟨b,off,none⟩))) (hy:ev F y=some v) (h1:v.oneCell' = true) (hlt:off<cs.length) (oH:cs.set off v=cs')
  (next:∀ w',oc (pt b cs T) (pt b cs' T) w w' → J undef w'):Yd P o a.eval w J:=by
 have hc:v.cells = #[v]:=by cases v<;>first|rfl|cases h1
 refine aU hs hb hF ho hx hy (vs:=[v]) hc rfl (by simpa using h1) (by simp;omega) ?_ next
 rw[←oH,acb,aaJ hlt]
 simp[put]
theorem xE{t e sz len:Nat}{parts:List (Nat×Operand)}{xO:List (Nat×Value)}{cs:List Value}{ie:TypeInfo}{z:Value}(hu:P.underlying t=some (.slice e))(hie:P.info? e=some ie)(hz:ie.zero=some z)(hs:ie.size=sz)
  (hF:Fr n F a dd) (ho:o.op = .buildSlice t len parts.toArray) (hp:yd F parts=some xO) (E2:Nat.ble (len*sz) 16777216=true) (hpos:Nat.beq (len*sz) 0=false)
  (qj:Instr.fill (fun i=>some (i*sz,sz)) ((Array.range (len*sz)).map (z.cells[· % z.cells.size]!)) xO=some cs.toArray)
  (next:∀ b w',w.heap.size=b→iy (pt b cs e) w w' → J (.slice (some ⟨b,0,none⟩) len len) w'):Yd P o a.eval w J:=by
 subst hs
 have h:=next w.heap.size (w.alloc (.cells cs.toArray e (0,0))) rfl (iy.alloc w _)
 have PX:¬ len*ie.size>2^24:=by have:=di E2;omega
 have K_:¬ len*ie.size=0:=fun e=>by rw[e]at hpos;cases hpos
 have hps:(parts.toArray.map fun(i,x)=>(i,a.eval x)).toList=xO:=by
  simp only[acd]
  exact hF.evalps hp
 have hr:=run_buildSlice (P:=P) w t e len (parts.toArray.map fun(i,x)=>(i,a.eval x)) cs.toArray ie z hu hie hz PX K_ (by rw[hps];exact qj)
 unfold Yd
 simp only[execOp,ho,Sem.run_bind,hr,Result.andThen_ok,Sem.run_pure]
 exact h
theorem aS{f:FuncId}{xs:List Operand}{ts:Array TypeId}{vs:List Value}{R:Value→World→Prop}(hcall:∀ args w,(callFunc f args).run P w = .ok (.enter f args) w)(hF:Fr n F a dd)
  (ho:o.op = .call { callee:=.value (.func f),args:=xs.toArray,argTypes:=ts }) (hx:evs F xs=some vs) (hc:Calls P f vs.toArray w (gf R)) (next:∀ v w',R v w' → J v w'):Yd P o a.eval w J:=by
 unfold Yd
 simp only[execOp,ho,resolve,Act.eval,Deferred.ofValue,invoke,Sem.run_bind,Sem.run_pure,Result.andThen_ok,acd,hF.evals hx,ace,acf,hcall]
 exact Calls.mono hc fun e w' he=>by cases e<;>first|exact next _ _ he|exact he
theorem dP{f:FuncId}{x:Operand}{xs:List Operand}{ts:Array TypeId}{fs cs vs:List Value}{R:Value→World→Prop}(hcall:∀ args w,(callFunc f args).run P w = .ok (.enter f args) w)(hF:Fr n F a dd)
  (ho:o.op = .call { callee:=.value x,args:=xs.toArray,argTypes:=ts }) (hf:ev F x=some (.func (.func f) fs.toArray cs.toArray)) (hx:evs F xs=some vs) (hc:Calls P f (fs++vs++cs).toArray w (gf R)) (next:∀ v w',R v w' → J v w'):Yd P o a.eval w J:=by
 unfold Yd
 simp only[execOp,ho,resolve,hF.eval hf,Deferred.ofValue,invoke,Sem.run_bind,Sem.run_pure,Result.andThen_ok,acd,hF.evals hx,acg,hcall]
 exact Calls.mono hc fun e w' he=>by cases e<;>first|exact next _ _ he|exact he
end
class d_(X:Type) where
 enc:X→List Value
 sz:Nat
 len:∀ x,(enc x).length=sz
 one:∀ x,∀ u∈enc x,u.oneCell' = true
 pos:0<sz
def encs{X:Type}[d_ X](l:List X):List Value:=l.flatMap d_.enc
theorem jS{X:Type}[d_ X]:encs ([]:List X) = []:=rfl
theorem kG{X:Type}[d_ X](x:X)(l:List X):encs (x::l)=d_.enc x++encs l:=by simp[encs]
theorem dW{X:Type}[d_ X](l m:List X):encs (l++m)=encs l++encs m:=by simp[encs]
theorem wG{X:Type}[d_ X](x:X):encs [x]=d_.enc x:=by simp[encs]
theorem dM{X:Type}[d_ X](l:List X):(encs l).length=l.length*d_.sz X:=by
 induction l with
 | nil=>simp[encs]
 | cons x l ih=>rw[kG,ach,d_.len,ih,abN,aci];omega
theorem eY{X:Type}[d_ X](l:List X):∀ u∈encs l,u.oneCell' = true:=by
 intro u hu
 simp only[encs,aa5]at hu
 obtain⟨x,_,hx⟩:=hu
 exact d_.one x u hx
theorem kX{X:Type}[d_ X](l:List X)(i:Nat)(x:X)(h:l[i]? = some x):cut (encs l) (i*d_.sz X) (d_.sz X)=d_.enc x:=by
 induction l generalizing i with
 | nil=>simp at h
 | cons y l ih =>
  rw[kG]
  cases i with
  | zero =>
   simp at h;subst h
   simp only[cut,acj,ack]
   rw[acm (by rw[d_.len];exact aah _),acn (by rw[d_.len];exact aah _)]
  | succ i =>
   simp at h
   have:=ih i h
   simp only[cut]at this ⊢
   rw[show(i+1)*d_.sz X=(d_.enc y).length+i*d_.sz X by rw[d_.len,aci];omega,aco]
   exact this
structure cH{X:Type}[d_ X](lo:Nat)(w:World)(s:SV)(l:List X):Prop where
 len:s.len=l.length
 room:s.len≤s.cap
 cells:match s.a with
  | none=>l = []∧s.cap=0
  | some ad=>(l = []∨ad.spot=none)∧lo≤ad.block∧jj w ad.block ad.off (encs l)
theorem cH.nil{X:Type}[d_ X](lo:Nat)(w:World):cH lo w SV.nil ([]:List X):=⟨rfl,aah _,rfl,rfl⟩
theorem cH.mono{X:Type}[d_ X]{lo lo':Nat}{w:World}{s:SV}{l:List X}(h:cH lo w s l)(hl:lo' ≤ lo):cH lo' w s l:=by
 refine⟨h.len,h.room,?_⟩
 have:=h.cells
 split at this
 ·rename_i e;simpa[e]using this
 ·rename_i ad e;obtain⟨h1,h2,h3⟩:=this;exact⟨h1,adr,h3⟩
theorem cH.now{X:Type}[d_ X]{lo lo':Nat}{S:List Nat}{w1 w:World}{s:SV}{l:List X}(h:cH lo w1 s l)(hs:Same lo' S w1 w)(hlo:lo' ≤ lo)(hS:∀ b∈S,b<lo):cH lo w s l:=by
 refine⟨h.len,h.room,?_⟩
 have:=h.cells
 split at this
 ·rename_i e;simpa[e]using this
 ·rename_i ad e
  obtain⟨h1,h2,h3⟩:=this
  exact⟨h1,h2,hs.cells h3 adr fun hm=>by have:=hS _ hm;omega⟩
theorem cH.keep{X:Type}[d_ X]{lo:Nat}{w w':World}{s:SV}{l:List X}(h:cH lo w s l)(k:gw [] w w'):cH lo w' s l :=
 h.now (lo':=0) (S:=[]) ⟨k.size,fun j _ hj _=>k.block j hj (by simp)⟩ (aaF _) (by simp)
def SV.blk(s:SV):Nat:=match s.a with|some ad=>ad.block|none=>0
def SV.off(s:SV):Nat:=match s.a with|some ad=>ad.off|none=>0
theorem cH.elemS{X:Type}[d_ X]{lo i:Nat}{w:World}{s:SV}{l:List X}{x:X}(h:cH lo w s l)(hx:l[i]? = some x):jj w s.blk (s.off+i*d_.sz X) (d_.enc x):=by
 have hc:=h.cells
 unfold SV.blk SV.off
 split at hc
 ·rename_i e
  rw[hc.1]at hx;simp at hx
 ·rename_i ad e
  obtain⟨_,_,hc⟩:=hc
  simp only[e]
  intro j v hv
  rw[←kX l i x hx]at hv
  obtain⟨_,h2⟩:=oC _ _ _ _ _ hv
  have:=hc _ _ h2
  rwa [←abj]at this
theorem cH.addrS{X:Type}[d_ X]{lo i:Nat}{w:World}{s:SV}{l:List X}(h:cH lo w s l)(hi:i<l.length):s.v = .slice (some ⟨s.blk,s.off,none⟩) l.length s.cap:=by
 have hc:=h.cells
 have hl:=h.len
 obtain⟨sa,sl,sc⟩:=s
 cases sa with
 | none=>have:=hc.1;subst this;simp at hi
 | some ad =>
  obtain⟨b,off,sp⟩:=ad
  have:sp=none:=hc.1.resolve_left fun h=>by rw[h]at hi;exact absurd hi (acp _)
  subst this
  simp only at hl
  subst hl
  rfl
theorem jj.get{w:World}{b off:Nat}{vs:List Value}(h:jj w b off vs)(j:Nat){v:Value}(hv:vs[j]? = some v):w.cell? ⟨b,off+j,none⟩=some v:=h j v hv
theorem jj.sub{w:World}{b off:Nat}{vs us:List Value}(h:jj w b off vs)(o n:Nat)(hv:cut vs o n=us):jj w b (off+o) us:=by
 intro j v hj
 subst hv
 have:=h _ _ (oC _ _ _ _ _ hj).2
 rwa [←abj]at this
theorem cH.addr{X:Type}[d_ X]{lo:Nat}{w:World}{s:SV}{l:List X}(h:cH lo w s l)(hl:l ≠ []):∃ b off,s=⟨some ⟨b,off,none⟩,l.length,s.cap⟩:=by
 have hc:=h.cells
 have hlen:=h.len
 obtain⟨sa,sl,sc⟩:=s
 cases sa with
 | none=>exact absurd hc.1 hl
 | some ad =>
  obtain⟨b,off,sp⟩:=ad
  have:sp=none:=hc.1.resolve_left hl
  subst this
  simp only at hlen
  subst hlen
  exact⟨b,off,rfl⟩
section
variable {P:Program}{n:Nat}{F:List (Nat×Value)}{a:Act}{dd:List Deferred}{w:World}{o:Oper}{J:Value→World→Prop}
theorem vX{t ty e lo bytes sz:Nat}{v v':Value}{w':World}{xs news:List Value}{m k c:Nat}{ad:Addr}{i:TypeInfo}{z:Value}(ht:P.underlying t=some (.slice e))(hi:P.info? e=some i)(hz:i.zero=some z)
  (hsize:i.size=sz) (An:i.bytes=bytes) (hown:w.ownsRow lo e sz v m xs) (hl:news.length=k*sz) (Di:∀ j u,news[j]? = some u→w.cell? (ad.add j)=some u) (h1:∀ u∈news,u.oneCell' = true)
  (h63:m+k≤maxLen) (oG:(m+k)*bytes≤140737488355328) (hr:(Builtin.append_ #[t,t] ty #[v,.slice (some ad) k c]).run P w = .ok v' w') :
  ∀ j,v'.ownBlock=some j→v.ownBlock=some j∨w.heap.size≤j:=by
 subst hsize An
 have hm:(m+k:Nat)≤9223372036854775807:=by simp only[maxLen]at h63;omega
 rcases hown.2 with⟨rfl,rfl⟩|⟨g,cap,cur,rfl,_,hg,_,_,hcs,_⟩
 ·by_cases hk:k=0
  ·subst hk
   have hn:news = []:=abd (by simpa using hl)
   subst hn
   have e0:(Builtin.append_ #[t,t] ty #[.slice none 0 0,.slice (some ad) 0 c]).run P w = .ok (.slice none 0 0) w:=by
    simp[Builtin.append_,run_underlying ht,sizeOf,typeInfo,hi,Builtin.lenOf,Builtin.firstCells,loadCells,loadCellsFrom]
   rw[e0]at hr
   cases hr
   intro j hj;cases hj
  ·rw[run_append_nil (P:=P) w t ty e i z ht hi hz ad k c news hl Di adr adr (by simp only[acr]at oG;omega)]at hr
   cases hr
   intro j hj
   simp[Value.ownBlock]at hj
   exact .inr adr
 ·by_cases hroom:m+k≤cap
  ·have hfit:m*i.size+news.length≤cur.size:=by rw[hl,hcs,←aci];exact acs _ hroom
   rw[run_append_room (P:=P) w t ty e i ht hi g m cap cur hg ad k c news hl Di h1 hroom hfit]at hr
   cases hr
   exact fun j hj=>.inl hj
  ·rw[run_append_grow (P:=P) w t ty e i z ht hi hz ⟨g,0,none⟩ m cap xs hown.1 (hown.cells (g:=g) rfl) ad k c news hl Di adr adr (growslice_fits adr oG)]at hr
   cases hr
   intro j hj
   simp[Value.ownBlock]at hj
   exact .inr adr
theorem cQ{X:Type}[d_ X]{t e lo:TypeId}{x:Operand}{s:SV}{l:List X}{w1:World}(hs:cH lo w1 s l)(ht:P.underlying t=some (.slice e))(hF:Fr n F a dd)(ho:o.op = .call { callee:=.builtin .len,args:=#[x],argTypes:=#[t] })(hx:ev F x=some s.v) :
  (execOp a.eval o).run P w = .ok (.value (.int .i64 (l.length:Nat))) w:=by rw[ZW ht hF ho hx,hs.len]
theorem bG{X:Type}[d_ X]{t e lo sz:Nat}{x y:Operand}{k:IntKind}{i:Int}{s:SV}{l:List X}{w1:World}{ti:TypeInfo}(hs:cH lo w1 s l)(ht:P.underlying t=some (.slice e))(hi:P.info? e=some ti)(hsz:ti.size=sz)
  (hF:Fr n F a dd) (ho:o.op = .indexAddr t x y) (hx:ev F x=some s.v) (hy:ev F y=some (.int k i)) (h:0≤i∧i<(l.length:Int)) :
  (execOp a.eval o).run P w = .ok (.value (.pointer (some ⟨s.blk,s.off+i.toNat*sz,none⟩))) w:=by
 rw[hs.addrS (i:=i.toNat) adr]at hx
 exact zC (P:=P) (w:=w) ht hi hsz hF ho hx hy h
theorem X2{X:Type}[d_ X]{x y:Operand}{t e lo lo' bytes:Nat}{s sx:SV}{xs:List Value}{l:List X}{m:Nat}{i:TypeInfo}{z:Value}(ht:P.underlying t=some (.slice e))(hi:P.info? e=some i)(hz:i.zero=some z)
  (hsize:i.size=d_.sz X) (An:i.bytes=bytes) (vg:z.cells.size=d_.sz X)
  (hF:Fr n F a dd) (ho:o.op = .call { callee:=.builtin .append,args:=#[x,y],argTypes:=#[t,t] }) (hx:ev F x=some s.v) (hy:ev F y=some sx.v)
  (hown:w.ownsRow lo e (d_.sz X) s.v m xs) (hsx:cH lo' w sx l) (h63:m+l.length≤maxLen) (oG:(m+l.length)*bytes≤140737488355328) (hlo:lo≤w.heap.size)
  (next:∀ (s':SV) w',oc (.row lo s.v e (d_.sz X) m xs) (.row lo s'.v e (d_.sz X) (m+l.length) (xs++encs l)) w w' → s'.len=m+l.length→J s'.v w'):Yd P o a.eval w J:=by
 have fin:∀ v' w',(Builtin.append_ #[t,t] o.type #[s.v,sx.v]).run P w = .ok v' w' → w'.ownsRow lo e (d_.sz X) v' (m+l.length) (xs++encs l)→w.grownBy w' s.v.ownBlock →
   (∀ j,v'.ownBlock=some j→s.v.ownBlock=some j∨w.heap.size≤j)→Yd P o a.eval w J:=by
  intro v' w' hr h2 h3 h4
  have hv:∃ s':SV,v' = s'.v∧s'.len=m+l.length:=by
   rcases h2.2 with⟨rfl,h0⟩|⟨g,cap,cur,rfl,_⟩
   ·exact⟨SV.nil,rfl,h0.symm⟩
   ·exact⟨⟨some ⟨g,0,none⟩,_,cap⟩,rfl,rfl⟩
  obtain⟨s',rfl,hl'⟩:=hv
  have h:=next s' w' ⟨⟨h3.os,h3.tape,h3.output⟩,h3.size,fun k hk hf=>h3.block k hk fun e'=>hf (by simpa[dw.fp]using e'.symm),h2,h4⟩ hl'
  unfold Yd
  simp only[execOp,ho,resolve,invoke,builtin,Sem.run_bind,Sem.run_pure,Result.andThen_ok,acd,abp,abq,hF.eval hx,hF.eval hy,hr]
  exact h
 have hc:=hsx.cells
 have vo:=hsx.len
 obtain⟨sa,sl,sc⟩:=sx
 cases sa with
 | some ad =>
  obtain⟨h1,h2,h3⟩:=hc
  obtain⟨b,off,sp⟩:=ad
  simp only at h1 h2 h3 vo
  subst vo
  have hcell:∀ j u,(encs l)[j]? = some u→w.cell? ((⟨b,off,sp⟩ : Addr).add j)=some u:=fun j u hu=>by
   rcases h1 with h1|h1
   ·subst h1;simp[jS]at hu
   ·subst h1;rw[dY];exact h3 j u hu
  obtain⟨v',w',hr,h4,h5,_⟩:=run_append_own (P:=P) w lo t o.type e i z (d_.sz X) bytes ht hi hz hsize An vg (d_.pos) s.v m xs hown ⟨b,off,sp⟩ l.length sc (encs l) (dM l) hcell (eY l) h63 oG hlo
  exact fin v' w' hr h4 h5 (vX ht hi hz hsize An hown (dM l) hcell (eY l) h63 oG hr)
 | none =>
  obtain⟨h1,h2⟩:=hc
  simp only at h1 h2 vo
  subst h1 h2
  simp only[acu]at vo
  subst vo
  refine fin s.v w ?_ (by simpa[jS]using hown) ⟨rfl,rfl,rfl,aah _,fun _ _ _=>rfl⟩ fun j hj=>.inl hj
  have hcap:s.len≤s.cap:=by
   rcases hown.2 with⟨h,_⟩|⟨g,cap,cur,h,_,_,h',_⟩
   ·obtain⟨sa,sl,sc⟩:=s;cases h;exact aah _
   ·obtain⟨sa,sl,sc⟩:=s;cases h;exact h'
  obtain⟨sa,sl,sc⟩:=s
  have Dc:sl≤sc:=hcap
  cases sa<;>simp[Builtin.append_,run_underlying ht,sizeOf,typeInfo,hi,Builtin.lenOf,Builtin.firstCells,storeCells,Dc]
end
end Go.Fw
end
section
namespace Go.Fw
instance:d_ Int:=⟨fun x=>[.int .i64 x],1,fun _=>rfl,fun x u hu=>by simp at hu;subst hu;rfl,by decide⟩
instance:d_ UInt8:=⟨fun x=>[.int .u8 (x.toNat:Int)],1,fun _=>rfl,fun x u hu=>by simp at hu;subst hu;rfl,by decide⟩
instance:d_ SV:=⟨fun x=>[x.v],1,fun _=>rfl,fun x u hu=>by simp at hu;subst hu;rfl,by decide⟩
structure Vec(X:Type)(n:Nat) where
 l:List X
 h:l.length=n
deriving DecidableEq
theorem Vec.len{X:Type}{n:Nat}(x:Vec X n):x.l.length=n:=x.h
def Vec.set{X:Type}{n:Nat}(x:Vec X n)(i:Nat)(y:X):Vec X n:=⟨x.l.set i y,by rw[abT];exact x.h⟩
theorem Vec.ext{X:Type}{n:Nat}{x y:Vec X n}(h:x.l=y.l):x=y:=by cases x;cases y;cases h;rfl
theorem Vec.get{X:Type}{n:Nat}(x:Vec X n){i:Nat}(h:i<n):∃ y,x.l[i]? = some y:=⟨_,aa9 (by rw[x.len];exact h)⟩
theorem cN{s R:List Value}{m o:Nat}{v:Value}(h:s.length=m)(t:R[o]? = some v):(s++R)[m+o]? = some v:=by
 subst h;rw[abl adr];simpa using t
theorem cO{s R R':List Value}{m o:Nat}{v:Value}(h:s.length=m)(t:R.set o v=R'):(s++R).set (m+o) v=s++R':=by
 subst h;rw[List.set_append_right _ _ adr];simp[t]
theorem kV{s R y:List Value}{m o n:Nat}(h:s.length=m)(t:cut R o n=y):cut (s++R) (m+o) n=y:=by
 subst h;unfold cut at *; rw[aco];exact t
theorem iI{R y:List Value}{v:Value}{o n:Nat}(t:cut R o n=y):cut (v::R) (o+1) n=y:=t
theorem gS{s R:List Value}{n:Nat}(h:s.length=n):cut (s++R) 0 n=s:=by
 subst h;simp[cut]
theorem cD{s:List Value}{n:Nat}(h:s.length=n):cut s 0 n=s:=by
 subst h;simp[cut]
theorem vE{s R y:List Value}{o n:Nat}(h:o+n≤s.length)(t:cut s o n=y):cut (s++R) o n=y:=by
 unfold cut at *
 rw[acv adr,acm (by simp;omega)]
 exact t
theorem nG{s R y:List Value}{m o n e:Nat}(h:s.length=m)(t:cut R (o+e) n=y):cut (s++R) (m+o+e) n=y:=by rw[abj];exact kV h t
theorem oZ{R y:List Value}{v:Value}{o n e:Nat}(t:cut R (o+e) n=y):cut (v::R) (o+1+e) n=y:=by rw[acw];exact iI t
theorem jG{s R R' vs:List Value}{m o:Nat}(h:s.length=m)(t:put R o vs=R'):put (s++R) (m+o) vs=s++R':=by
 subst h;unfold put at *; rw[List.take_length_add_append,abj,aco,←t];simp
theorem iM{R R' vs:List Value}{v:Value}{o:Nat}(t:put R o vs=R'):put (v::R) (o+1) vs=v::R':=by
 unfold put at *; rw[acw];simp[←t]
theorem gK{s R vs:List Value}(h:s.length=vs.length):put (s++R) 0 vs=vs++R:=by
 unfold put;simp[←h]
theorem bF{s vs:List Value}(h:s.length=vs.length):put s 0 vs=vs:=by
 unfold put;simp[←h]
theorem qW{s R s' vs:List Value}{o n:Nat}(h:o+n≤s.length)(hv:vs.length=n)(t:put s o vs=s'):put (s++R) o vs=s' ++ R:=by
 unfold put at *
 rw[acm adr,acv adr,←t]
 simp
theorem nK{s R R' vs:List Value}{m o e:Nat}(h:s.length=m)(t:put R (o+e) vs=R'):put (s++R) (m+o+e) vs=s++R':=by rw[abj];exact jG h t
theorem pO{R R' vs:List Value}{v:Value}{o e:Nat}(t:put R (o+e) vs=R'):put (v::R) (o+1+e) vs=v::R':=by rw[acw];exact iM t
theorem Iy{X:Type}[d_ X]{l:List X}{i:Nat}(h:i<l.length):i*d_.sz X+d_.sz X≤(encs l).length:=by
 rw[dM,←Nat.succ_mul];exact acs _ h
theorem YG{X:Type}[d_ X]{l:List X}{i:Nat}{y:X}(h:l[i]? = some y):i*d_.sz X+d_.sz X≤(encs l).length:=Iy (aaz.1 h).1
theorem Xw{X:Type}[d_ X]{l:List X}{i:Nat}{y:X}(h:i<l.length):put (encs l) (i*d_.sz X) (d_.enc y)=encs (l.set i y):=by
 induction l generalizing i with
 | nil=>simp at h
 | cons z l ih =>
  cases i with
  | zero =>
   simp only[acj,List.set_cons_zero,kG]
   exact gK ((d_.len _).trans (d_.len _).symm)
  | succ i =>
   simp only[aa7,kG]
   rw[show(i+1)*d_.sz X=d_.sz X+i*d_.sz X by rw[aci];omega]
   exact jG (d_.len _) (ih (by simpa using h))
theorem aQ{X:Type}[d_ X]{n:Nat}(x:Vec X n):(encs x.l).length=n*d_.sz X:=by rw[dM,x.len]
theorem fY{X:Type}[d_ X]{l:List X}{i:Nat}{y:X}(h:l[i]? = some y):cut (encs l) (0+i*d_.sz X) (d_.sz X)=d_.enc y:=by rw[acr];exact kX l i y h
theorem nP{X:Type}[d_ X]{l:List X}{i:Nat}{y:X}(h:l[i]? = some y):0+i*d_.sz X+d_.sz X≤(encs l).length:=by rw[acr];exact YG h
theorem mG{X:Type}[d_ X]{n:Nat}{v:Vec X n}{i:Nat}(h:i<n):0+i*d_.sz X+d_.sz X≤(encs v.l).length:=by rw[acr];exact Iy (by rw[v.len];exact h)
theorem kH{X:Type}[d_ X]{n:Nat}{v:Vec X n}{i:Nat}{y:X}(h:i<n):put (encs v.l) (0+i*d_.sz X) (d_.enc y)=encs (v.set i y).l:=by rw[acr];exact Xw (by rw[v.len];exact h)
theorem cL{l vs:List Value}{o n j:Nat}{v:Value}(h:cut l o n=vs)(t:vs[j]? = some v):l[o+j]? = some v:=by
 subst h;exact(oC _ _ _ _ _ t).2
structure ak where
 kind:Int
 table:Int
 row:Int
 x:Int
deriving DecidableEq
def ak.enc(x:ak):List Value:=[.int .i64 x.kind,.int .i64 x.table,.int .i64 x.row,.int .i64 x.x]
theorem ak.len(x:ak):x.enc.length=4:=rfl
theorem ak.one(x:ak):∀ u∈x.enc,u.oneCell' = true:=(acx.2 ⟨rfl,(acx.2 ⟨rfl,(acx.2 ⟨rfl,(acx.2 ⟨rfl,(fun _ h=>absurd h acy)⟩)⟩)⟩)⟩)
instance:d_ ak:=⟨ak.enc,4,ak.len,ak.one,by decide⟩
theorem ak.g_kind(x:ak):x.enc[0]? = some (.int .i64 x.kind):=rfl
theorem ak.s_kind(x:ak)(y:Int):x.enc.set 0 (.int .i64 y) = { x with kind:=y }.enc:=rfl
theorem ak.g_table(x:ak):x.enc[1]? = some (.int .i64 x.table):=rfl
theorem ak.s_table(x:ak)(y:Int):x.enc.set 1 (.int .i64 y) = { x with table:=y }.enc:=(congrArg (List.cons _) rfl)
theorem ak.g_row(x:ak):x.enc[2]? = some (.int .i64 x.row):=rfl
theorem ak.s_row(x:ak)(y:Int):x.enc.set 2 (.int .i64 y) = { x with row:=y }.enc:=(congrArg (List.cons _) (congrArg (List.cons _) rfl))
theorem ak.g_x(x:ak):x.enc[3]? = some (.int .i64 x.x):=rfl
theorem ak.s_x(x:ak)(y:Int):x.enc.set 3 (.int .i64 y) = { x with x:=y }.enc:=(congrArg (List.cons _) (congrArg (List.cons _) (congrArg (List.cons _) rfl)))
structure bn where
 ptr:ak
 bytes:Vec UInt8 8
 mask:Int
deriving DecidableEq
def bn.enc(x:bn):List Value:=ak.enc x.ptr++(encs x.bytes.l++([.int .i64 x.mask]))
theorem bn.len(x:bn):x.enc.length=13:=by
 have h0:(ak.enc x.ptr).length=4:=ak.len x.ptr
 have h1:(encs x.bytes.l).length=8:=aQ x.bytes
 simp[bn.enc,h0,h1]
theorem bn.one(x:bn):∀ u∈x.enc,u.oneCell' = true:=(acz.2 ⟨ak.one x.ptr,(acz.2 ⟨eY x.bytes.l,(acx.2 ⟨rfl,(fun _ h=>absurd h acy)⟩)⟩)⟩)
instance:d_ bn:=⟨bn.enc,13,bn.len,bn.one,by decide⟩
theorem bn.c_ptr(x:bn):cut x.enc 0 4=x.ptr.enc:=(gS (n:=4) (ak.len x.ptr))
theorem bn.p_ptr(x:bn)(y:ak):put x.enc 0 (y.enc) = { x with ptr:=y }.enc:=(gK (Eq.trans (b:=4) (ak.len x.ptr) (Eq.symm (ak.len y))))
theorem bn.c_bytes(x:bn):cut x.enc 4 8=encs x.bytes.l:=(kV (m:=4) (o:=0) (ak.len x.ptr) (gS (n:=8) (aQ x.bytes)))
theorem bn.pi_bytes(x:bn)(i:Nat)(y:UInt8)(h:i<8):put x.enc (4+i*1) ([.int .u8 (y.toNat:Int)]) = { x with bytes:=x.bytes.set i y }.enc:=(nK (m:=4) (o:=0) (e:=i*1) (ak.len x.ptr) (qW (mG (v:=x.bytes) h) (d_.len y) (kH (v:=x.bytes) h)))
theorem bn.g_mask(x:bn):x.enc[12]? = some (.int .i64 x.mask):=(cN (m:=4) (o:=8) (ak.len x.ptr) (cN (m:=8) (o:=0) (aQ x.bytes) rfl))
theorem bn.s_mask(x:bn)(y:Int):x.enc.set 12 (.int .i64 y) = { x with mask:=y }.enc:=(cO (m:=4) (o:=8) (ak.len x.ptr) (cO (m:=8) (o:=0) (aQ x.bytes) rfl))
structure dU where
 reg:Int
 old:ak
 new:ak
deriving DecidableEq
def dU.enc(x:dU):List Value:=.int .i64 x.reg::ak.enc x.old++(ak.enc x.new)
theorem dU.len(x:dU):x.enc.length=9:=by
 have h0:(ak.enc x.old).length=4:=ak.len x.old
 have h1:(ak.enc x.new).length=4:=ak.len x.new
 simp[dU.enc,h0,h1]
theorem dU.one(x:dU):∀ u∈x.enc,u.oneCell' = true:=(acx.2 ⟨rfl,(acz.2 ⟨ak.one x.old,(ak.one x.new)⟩)⟩)
instance:d_ dU:=⟨dU.enc,9,dU.len,dU.one,by decide⟩
theorem dU.g_reg(x:dU):x.enc[0]? = some (.int .i64 x.reg):=rfl
theorem dU.s_reg(x:dU)(y:Int):x.enc.set 0 (.int .i64 y) = { x with reg:=y }.enc:=rfl
theorem dU.c_old(x:dU):cut x.enc 1 4=x.old.enc:=(iI (o:=0) (gS (n:=4) (ak.len x.old)))
theorem dU.p_old(x:dU)(y:ak):put x.enc 1 (y.enc) = { x with old:=y }.enc:=(iM (o:=0) (gK (Eq.trans (b:=4) (ak.len x.old) (Eq.symm (ak.len y)))))
theorem dU.c_new(x:dU):cut x.enc 5 4=x.new.enc:=(iI (o:=4) (kV (m:=4) (o:=0) (ak.len x.old) (cD (n:=4) (ak.len x.new))))
theorem dU.p_new(x:dU)(y:ak):put x.enc 5 (y.enc) = { x with new:=y }.enc:=(iM (o:=4) (jG (m:=4) (o:=0) (ak.len x.old) (bF (Eq.trans (b:=4) (ak.len x.new) (Eq.symm (ak.len y))))))
structure eo where
 slot:Int
 old:bn
 new:bn
deriving DecidableEq
def eo.enc(x:eo):List Value:=.int .i64 x.slot::bn.enc x.old++(bn.enc x.new)
theorem eo.len(x:eo):x.enc.length=27:=by
 have h0:(bn.enc x.old).length=13:=bn.len x.old
 have h1:(bn.enc x.new).length=13:=bn.len x.new
 simp[eo.enc,h0,h1]
theorem eo.one(x:eo):∀ u∈x.enc,u.oneCell' = true:=(acx.2 ⟨rfl,(acz.2 ⟨bn.one x.old,(bn.one x.new)⟩)⟩)
instance:d_ eo:=⟨eo.enc,27,eo.len,eo.one,by decide⟩
theorem eo.g_slot(x:eo):x.enc[0]? = some (.int .i64 x.slot):=rfl
theorem eo.s_slot(x:eo)(y:Int):x.enc.set 0 (.int .i64 y) = { x with slot:=y }.enc:=rfl
theorem eo.c_old(x:eo):cut x.enc 1 13=x.old.enc:=(iI (o:=0) (gS (n:=13) (bn.len x.old)))
theorem eo.p_old(x:eo)(y:bn):put x.enc 1 (y.enc) = { x with old:=y }.enc:=(iM (o:=0) (gK (Eq.trans (b:=13) (bn.len x.old) (Eq.symm (bn.len y)))))
theorem eo.c_new(x:eo):cut x.enc 14 13=x.new.enc:=(iI (o:=13) (kV (m:=13) (o:=0) (bn.len x.old) (cD (n:=13) (bn.len x.new))))
theorem eo.p_new(x:eo)(y:bn):put x.enc 14 (y.enc) = { x with new:=y }.enc:=(iM (o:=13) (jG (m:=13) (o:=0) (bn.len x.old) (bF (Eq.trans (b:=13) (bn.len x.new) (Eq.symm (bn.len y))))))
structure bq where
 table:Int
 from_:Int
 old:SV
 new:SV
deriving DecidableEq
def bq.enc(x:bq):List Value:=[.int .i64 x.table,.int .i64 x.from_,x.old.v,x.new.v]
theorem bq.len(x:bq):x.enc.length=4:=rfl
theorem bq.one(x:bq):∀ u∈x.enc,u.oneCell' = true:=(acx.2 ⟨rfl,(acx.2 ⟨rfl,(acx.2 ⟨rfl,(acx.2 ⟨rfl,(fun _ h=>absurd h acy)⟩)⟩)⟩)⟩)
instance:d_ bq:=⟨bq.enc,4,bq.len,bq.one,by decide⟩
theorem bq.g_table(x:bq):x.enc[0]? = some (.int .i64 x.table):=rfl
theorem bq.s_table(x:bq)(y:Int):x.enc.set 0 (.int .i64 y) = { x with table:=y }.enc:=rfl
theorem bq.g_from_(x:bq):x.enc[1]? = some (.int .i64 x.from_):=rfl
theorem bq.s_from_(x:bq)(y:Int):x.enc.set 1 (.int .i64 y) = { x with from_:=y }.enc:=(congrArg (List.cons _) rfl)
theorem bq.g_old(x:bq):x.enc[2]? = some (x.old.v):=rfl
theorem bq.mr(x:bq)(y:SV):x.enc.set 2 (y.v) = { x with old:=y }.enc:=(congrArg (List.cons _) (congrArg (List.cons _) rfl))
theorem bq.g_new(x:bq):x.enc[3]? = some (x.new.v):=rfl
theorem bq.mg(x:bq)(y:SV):x.enc.set 3 (y.v) = { x with new:=y }.enc:=(congrArg (List.cons _) (congrArg (List.cons _) (congrArg (List.cons _) rfl)))
structure bS where
 at_:Int
 next:Int
 done:Bool
 bk:SV
 slots:SV
 dE:SV
 bf:SV
deriving DecidableEq
def bS.enc(x:bS):List Value:=[.int .i64 x.at_,.int .i64 x.next,.bool x.done,x.bk.v,x.slots.v,x.dE.v,x.bf.v]
theorem bS.len(x:bS):x.enc.length=7:=rfl
theorem bS.one(x:bS):∀ u∈x.enc,u.oneCell' = true:=(acx.2 ⟨rfl,(acx.2 ⟨rfl,(acx.2 ⟨rfl,(acx.2 ⟨rfl,(acx.2 ⟨rfl,(acx.2 ⟨rfl,(acx.2 ⟨rfl,(fun _ h=>absurd h acy)⟩)⟩)⟩)⟩)⟩)⟩)⟩)
instance:d_ bS:=⟨bS.enc,7,bS.len,bS.one,by decide⟩
theorem bS.g_at_(x:bS):x.enc[0]? = some (.int .i64 x.at_):=rfl
theorem bS.s_at_(x:bS)(y:Int):x.enc.set 0 (.int .i64 y) = { x with at_:=y }.enc:=rfl
theorem bS.g_next(x:bS):x.enc[1]? = some (.int .i64 x.next):=rfl
theorem bS.s_next(x:bS)(y:Int):x.enc.set 1 (.int .i64 y) = { x with next:=y }.enc:=(congrArg (List.cons _) rfl)
theorem bS.g_done(x:bS):x.enc[2]? = some (.bool x.done):=rfl
theorem bS.s_done(x:bS)(y:Bool):x.enc.set 2 (.bool y) = { x with done:=y }.enc:=(congrArg (List.cons _) (congrArg (List.cons _) rfl))
theorem bS.g_regs(x:bS):x.enc[3]? = some (x.bk.v):=rfl
theorem bS.oq(x:bS)(y:SV):x.enc.set 3 (y.v) = { x with bk:=y }.enc:=(congrArg (List.cons _) (congrArg (List.cons _) (congrArg (List.cons _) rfl)))
theorem bS.g_slots(x:bS):x.enc[4]? = some (x.slots.v):=rfl
theorem bS.lq(x:bS)(y:SV):x.enc.set 4 (y.v) = { x with slots:=y }.enc:=(congrArg (List.cons _) (congrArg (List.cons _) (congrArg (List.cons _) (congrArg (List.cons _) rfl))))
theorem bS.g_pieces(x:bS):x.enc[5]? = some (x.dE.v):=rfl
theorem bS.kr(x:bS)(y:SV):x.enc.set 5 (y.v) = { x with dE:=y }.enc:=(congrArg (List.cons _) (congrArg (List.cons _) (congrArg (List.cons _) (congrArg (List.cons _) (congrArg (List.cons _) rfl)))))
theorem bS.g_sent(x:bS):x.enc[6]? = some (x.bf.v):=rfl
theorem bS.gC(x:bS)(y:SV):x.enc.set 6 (y.v) = { x with bf:=y }.enc:=(congrArg (List.cons _) (congrArg (List.cons _) (congrArg (List.cons _) (congrArg (List.cons _) (congrArg (List.cons _) (congrArg (List.cons _) rfl))))))
structure br where
 b_:SV
 ah:SV
deriving DecidableEq
def br.enc(x:br):List Value:=[x.b_.v,x.ah.v]
theorem br.len(x:br):x.enc.length=2:=rfl
theorem br.one(x:br):∀ u∈x.enc,u.oneCell' = true:=(acx.2 ⟨rfl,(acx.2 ⟨rfl,(fun _ h=>absurd h acy)⟩)⟩)
instance:d_ br:=⟨br.enc,2,br.len,br.one,by decide⟩
theorem br.g_ctx(x:br):x.enc[0]? = some (x.b_.v):=rfl
theorem br.gI(x:br)(y:SV):x.enc.set 0 (y.v) = { x with b_:=y }.enc:=rfl
theorem br.g_tables(x:br):x.enc[1]? = some (x.ah.v):=rfl
theorem br.ep(x:br)(y:SV):x.enc.set 1 (y.v) = { x with ah:=y }.enc:=(congrArg (List.cons _) rfl)
structure bg where
 iz:br
 cj:SV
 end_:Int
deriving DecidableEq
def bg.enc(x:bg):List Value:=br.enc x.iz++(x.cj.v :: [.int .i64 x.end_])
theorem bg.len(x:bg):x.enc.length=4:=by
 have h0:(br.enc x.iz).length=2:=br.len x.iz
 simp[bg.enc,h0]
theorem bg.one(x:bg):∀ u∈x.enc,u.oneCell' = true:=(acz.2 ⟨br.one x.iz,(acx.2 ⟨rfl,(acx.2 ⟨rfl,(fun _ h=>absurd h acy)⟩)⟩)⟩)
instance:d_ bg:=⟨bg.enc,4,bg.len,bg.one,by decide⟩
theorem bg.c_in_(x:bg):cut x.enc 0 2=x.iz.enc:=(gS (n:=2) (br.len x.iz))
theorem bg.p_in_(x:bg)(y:br):put x.enc 0 (y.enc) = { x with iz:=y }.enc:=(gK (Eq.trans (b:=2) (br.len x.iz) (Eq.symm (br.len y))))
theorem bg.g_marks(x:bg):x.enc[2]? = some (x.cj.v):=(cN (m:=2) (o:=0) (br.len x.iz) rfl)
theorem bg.qt(x:bg)(y:SV):x.enc.set 2 (y.v) = { x with cj:=y }.enc:=(cO (m:=2) (o:=0) (br.len x.iz) rfl)
theorem bg.g_end_(x:bg):x.enc[3]? = some (.int .i64 x.end_):=(cN (m:=2) (o:=1) (br.len x.iz) rfl)
theorem bg.s_end_(x:bg)(y:Int):x.enc.set 3 (.int .i64 y) = { x with end_:=y }.enc:=(cO (m:=2) (o:=1) (br.len x.iz) (congrArg (List.cons _) rfl))
structure gG where
 rows:Int
 wide:Int
deriving DecidableEq
def gG.enc(x:gG):List Value:=[.int .i64 x.rows,.int .i64 x.wide]
theorem gG.len(x:gG):x.enc.length=2:=rfl
theorem gG.one(x:gG):∀ u∈x.enc,u.oneCell' = true:=(acx.2 ⟨rfl,(acx.2 ⟨rfl,(fun _ h=>absurd h acy)⟩)⟩)
instance:d_ gG:=⟨gG.enc,2,gG.len,gG.one,by decide⟩
theorem gG.g_rows(x:gG):x.enc[0]? = some (.int .i64 x.rows):=rfl
theorem gG.g_wide(x:gG):x.enc[1]? = some (.int .i64 x.wide):=rfl
structure b9 where
 op:Int
 narrow:Bool
 reg:Bool
 size:Int
 dst:Int
 src:Int
 off:Int
 k_:Int
deriving DecidableEq
def b9.enc(x:b9):List Value:=[.int .i64 x.op,.bool x.narrow,.bool x.reg,.int .i64 x.size,.int .i64 x.dst,.int .i64 x.src,.int .i64 x.off,.int .i64 x.k_]
theorem b9.len(x:b9):x.enc.length=8:=rfl
theorem b9.one(x:b9):∀ u∈x.enc,u.oneCell' = true:=(acx.2 ⟨rfl,(acx.2 ⟨rfl,(acx.2 ⟨rfl,(acx.2 ⟨rfl,(acx.2 ⟨rfl,(acx.2 ⟨rfl,(acx.2 ⟨rfl,(acx.2 ⟨rfl,(fun _ h=>absurd h acy)⟩)⟩)⟩)⟩)⟩)⟩)⟩)⟩)
instance:d_ b9:=⟨b9.enc,8,b9.len,b9.one,by decide⟩
theorem b9.g_op(x:b9):x.enc[0]? = some (.int .i64 x.op):=rfl
theorem b9.g_narrow(x:b9):x.enc[1]? = some (.bool x.narrow):=rfl
theorem b9.s_narrow(x:b9)(y:Bool):x.enc.set 1 (.bool y) = { x with narrow:=y }.enc:=(congrArg (List.cons _) rfl)
theorem b9.g_reg(x:b9):x.enc[2]? = some (.bool x.reg):=rfl
theorem b9.s_reg(x:b9)(y:Bool):x.enc.set 2 (.bool y) = { x with reg:=y }.enc:=(congrArg (List.cons _) (congrArg (List.cons _) rfl))
theorem b9.g_size(x:b9):x.enc[3]? = some (.int .i64 x.size):=rfl
theorem b9.g_dst(x:b9):x.enc[4]? = some (.int .i64 x.dst):=rfl
theorem b9.g_src(x:b9):x.enc[5]? = some (.int .i64 x.src):=rfl
theorem b9.s_src(x:b9)(y:Int):x.enc.set 5 (.int .i64 y) = { x with src:=y }.enc:=(congrArg (List.cons _) (congrArg (List.cons _) (congrArg (List.cons _) (congrArg (List.cons _) (congrArg (List.cons _) rfl)))))
theorem b9.g_off(x:b9):x.enc[6]? = some (.int .i64 x.off):=rfl
theorem b9.g_imm(x:b9):x.enc[7]? = some (.int .i64 x.k_):=rfl
theorem b9.s_imm(x:b9)(y:Int):x.enc.set 7 (.int .i64 y) = { x with k_:=y }.enc:=(congrArg (List.cons _) (congrArg (List.cons _) (congrArg (List.cons _) (congrArg (List.cons _) (congrArg (List.cons _) (congrArg (List.cons _) (congrArg (List.cons _) rfl)))))))
structure bh where
 lo:Int
 hi:Int
 data:SV
 ah:SV
 code:SV
deriving DecidableEq
def bh.enc(x:bh):List Value:=[.int .i64 x.lo,.int .i64 x.hi,x.data.v,x.ah.v,x.code.v]
theorem bh.len(x:bh):x.enc.length=5:=rfl
theorem bh.one(x:bh):∀ u∈x.enc,u.oneCell' = true:=(acx.2 ⟨rfl,(acx.2 ⟨rfl,(acx.2 ⟨rfl,(acx.2 ⟨rfl,(acx.2 ⟨rfl,(fun _ h=>absurd h acy)⟩)⟩)⟩)⟩)⟩)
instance:d_ bh:=⟨bh.enc,5,bh.len,bh.one,by decide⟩
theorem bh.g_lo(x:bh):x.enc[0]? = some (.int .i64 x.lo):=rfl
theorem bh.s_lo(x:bh)(y:Int):x.enc.set 0 (.int .i64 y) = { x with lo:=y }.enc:=rfl
theorem bh.g_hi(x:bh):x.enc[1]? = some (.int .i64 x.hi):=rfl
theorem bh.s_hi(x:bh)(y:Int):x.enc.set 1 (.int .i64 y) = { x with hi:=y }.enc:=(congrArg (List.cons _) rfl)
theorem bh.g_data(x:bh):x.enc[2]? = some (x.data.v):=rfl
theorem bh.ng(x:bh)(y:SV):x.enc.set 2 (y.v) = { x with data:=y }.enc:=(congrArg (List.cons _) (congrArg (List.cons _) rfl))
theorem bh.g_tables(x:bh):x.enc[3]? = some (x.ah.v):=rfl
theorem bh.ep(x:bh)(y:SV):x.enc.set 3 (y.v) = { x with ah:=y }.enc:=(congrArg (List.cons _) (congrArg (List.cons _) (congrArg (List.cons _) rfl)))
theorem bh.g_code(x:bh):x.enc[4]? = some (x.code.v):=rfl
theorem bh.oo(x:bh)(y:SV):x.enc.set 4 (y.v) = { x with code:=y }.enc:=(congrArg (List.cons _) (congrArg (List.cons _) (congrArg (List.cons _) (congrArg (List.cons _) rfl))))
structure ay where
 bk:Vec ak 11
 bp:Vec bn 32
 b_:SV
 ah:SV
 bf:SV
 at_:Int
 steps:Int
 done:Bool
deriving DecidableEq
def ay.enc(x:ay):List Value:=encs x.bk.l++(encs x.bp.l++(x.b_.v::x.ah.v::x.bf.v :: .int .i64 x.at_ :: .int .i64 x.steps :: [.bool x.done]))
theorem ay.len(x:ay):x.enc.length=466:=by
 have h0:(encs x.bk.l).length=44:=aQ x.bk
 have h1:(encs x.bp.l).length=416:=aQ x.bp
 simp[ay.enc,h0,h1]
theorem ay.one(x:ay):∀ u∈x.enc,u.oneCell' = true:=(acz.2 ⟨eY x.bk.l,(acz.2 ⟨eY x.bp.l,(acx.2 ⟨rfl,(acx.2 ⟨rfl,(acx.2 ⟨rfl,(acx.2 ⟨rfl,(acx.2 ⟨rfl,(acx.2 ⟨rfl,(fun _ h=>absurd h acy)⟩)⟩)⟩)⟩)⟩)⟩)⟩)⟩)
instance:d_ ay:=⟨ay.enc,466,ay.len,ay.one,by decide⟩
theorem ay.c_regs(x:ay):cut x.enc 0 44=encs x.bk.l:=(gS (n:=44) (aQ x.bk))
theorem ay.p_regs(x:ay)(y:Vec ak 11):put x.enc 0 (encs y.l) = { x with bk:=y }.enc:=(gK (Eq.trans (b:=44) (aQ x.bk) (Eq.symm (aQ y))))
theorem ay.ci_regs(x:ay)(i:Nat)(y:ak)(h:x.bk.l[i]? = some y):cut x.enc (0+i*4) 4=y.enc:=(vE (nP h) (fY h))
theorem ay.pi_regs(x:ay)(i:Nat)(y:ak)(h:i<11):put x.enc (0+i*4) (y.enc) = { x with bk:=x.bk.set i y }.enc:=(qW (mG (v:=x.bk) h) (d_.len y) (kH (v:=x.bk) h))
theorem ay.c_stack(x:ay):cut x.enc 44 416=encs x.bp.l:=(kV (m:=44) (o:=0) (aQ x.bk) (gS (n:=416) (aQ x.bp)))
theorem ay.p_stack(x:ay)(y:Vec bn 32):put x.enc 44 (encs y.l) = { x with bp:=y }.enc:=(jG (m:=44) (o:=0) (aQ x.bk) (gK (Eq.trans (b:=416) (aQ x.bp) (Eq.symm (aQ y)))))
theorem ay.ci_stack(x:ay)(i:Nat)(y:bn)(h:x.bp.l[i]? = some y):cut x.enc (44+i*13) 13=y.enc:=(nG (m:=44) (o:=0) (e:=i*13) (aQ x.bk) (vE (nP h) (fY h)))
theorem ay.pi_stack(x:ay)(i:Nat)(y:bn)(h:i<32):put x.enc (44+i*13) (y.enc) = { x with bp:=x.bp.set i y }.enc:=(nK (m:=44) (o:=0) (e:=i*13) (aQ x.bk) (qW (mG (v:=x.bp) h) (d_.len y) (kH (v:=x.bp) h)))
theorem ay.g_ctx(x:ay):x.enc[460]? = some (x.b_.v):=(cN (m:=44) (o:=416) (aQ x.bk) (cN (m:=416) (o:=0) (aQ x.bp) rfl))
theorem ay.gI(x:ay)(y:SV):x.enc.set 460 (y.v) = { x with b_:=y }.enc:=(cO (m:=44) (o:=416) (aQ x.bk) (cO (m:=416) (o:=0) (aQ x.bp) rfl))
theorem ay.g_tables(x:ay):x.enc[461]? = some (x.ah.v):=(cN (m:=44) (o:=417) (aQ x.bk) (cN (m:=416) (o:=1) (aQ x.bp) rfl))
theorem ay.ep(x:ay)(y:SV):x.enc.set 461 (y.v) = { x with ah:=y }.enc:=(cO (m:=44) (o:=417) (aQ x.bk) (cO (m:=416) (o:=1) (aQ x.bp) (congrArg (List.cons _) rfl)))
theorem ay.g_sent(x:ay):x.enc[462]? = some (x.bf.v):=(cN (m:=44) (o:=418) (aQ x.bk) (cN (m:=416) (o:=2) (aQ x.bp) rfl))
theorem ay.gC(x:ay)(y:SV):x.enc.set 462 (y.v) = { x with bf:=y }.enc:=(cO (m:=44) (o:=418) (aQ x.bk) (cO (m:=416) (o:=2) (aQ x.bp) (congrArg (List.cons _) (congrArg (List.cons _) rfl))))
theorem ay.g_at_(x:ay):x.enc[463]? = some (.int .i64 x.at_):=(cN (m:=44) (o:=419) (aQ x.bk) (cN (m:=416) (o:=3) (aQ x.bp) rfl))
theorem ay.s_at_(x:ay)(y:Int):x.enc.set 463 (.int .i64 y) = { x with at_:=y }.enc:=(cO (m:=44) (o:=419) (aQ x.bk) (cO (m:=416) (o:=3) (aQ x.bp) (congrArg (List.cons _) (congrArg (List.cons _) (congrArg (List.cons _) rfl)))))
theorem ay.g_steps(x:ay):x.enc[464]? = some (.int .i64 x.steps):=(cN (m:=44) (o:=420) (aQ x.bk) (cN (m:=416) (o:=4) (aQ x.bp) rfl))
theorem ay.s_steps(x:ay)(y:Int):x.enc.set 464 (.int .i64 y) = { x with steps:=y }.enc:=(cO (m:=44) (o:=420) (aQ x.bk) (cO (m:=416) (o:=4) (aQ x.bp) (congrArg (List.cons _) (congrArg (List.cons _) (congrArg (List.cons _) (congrArg (List.cons _) rfl))))))
theorem ay.g_done(x:ay):x.enc[465]? = some (.bool x.done):=(cN (m:=44) (o:=421) (aQ x.bk) (cN (m:=416) (o:=5) (aQ x.bp) rfl))
theorem ay.s_done(x:ay)(y:Bool):x.enc.set 465 (.bool y) = { x with done:=y }.enc:=(cO (m:=44) (o:=421) (aQ x.bk) (cO (m:=416) (o:=5) (aQ x.bp) (congrArg (List.cons _) (congrArg (List.cons _) (congrArg (List.cons _) (congrArg (List.cons _) (congrArg (List.cons _) rfl)))))))
structure ez where
 r0:Int
 b_:SV
 ah:SV
 bf:SV
deriving DecidableEq
def ez.enc(x:ez):List Value:=[.int .i64 x.r0,x.b_.v,x.ah.v,x.bf.v]
theorem ez.len(x:ez):x.enc.length=4:=rfl
theorem ez.one(x:ez):∀ u∈x.enc,u.oneCell' = true:=(acx.2 ⟨rfl,(acx.2 ⟨rfl,(acx.2 ⟨rfl,(acx.2 ⟨rfl,(fun _ h=>absurd h acy)⟩)⟩)⟩)⟩)
instance:d_ ez:=⟨ez.enc,4,ez.len,ez.one,by decide⟩
theorem ez.s_r0(x:ez)(y:Int):x.enc.set 0 (.int .i64 y) = { x with r0:=y }.enc:=rfl
theorem ez.g_ctx(x:ez):x.enc[1]? = some (x.b_.v):=rfl
theorem ez.gI(x:ez)(y:SV):x.enc.set 1 (y.v) = { x with b_:=y }.enc:=(congrArg (List.cons _) rfl)
theorem ez.g_tables(x:ez):x.enc[2]? = some (x.ah.v):=rfl
theorem ez.ep(x:ez)(y:SV):x.enc.set 2 (y.v) = { x with ah:=y }.enc:=(congrArg (List.cons _) (congrArg (List.cons _) rfl))
theorem ez.g_sent(x:ez):x.enc[3]? = some (x.bf.v):=rfl
theorem ez.gC(x:ez)(y:SV):x.enc.set 3 (y.v) = { x with bf:=y }.enc:=(congrArg (List.cons _) (congrArg (List.cons _) (congrArg (List.cons _) rfl)))
structure gy where
 b:SV
deriving DecidableEq
def gy.enc(x:gy):List Value:=[x.b.v]
theorem gy.len(x:gy):x.enc.length=1:=rfl
theorem gy.one(x:gy):∀ u∈x.enc,u.oneCell' = true:=(acx.2 ⟨rfl,(fun _ h=>absurd h acy)⟩)
instance:d_ gy:=⟨gy.enc,1,gy.len,gy.one,by decide⟩
theorem gy.g_b(x:gy):x.enc[0]? = some (x.b.v):=rfl
theorem gy.vq(x:gy)(y:SV):x.enc.set 0 (y.v) = { x with b:=y }.enc:=rfl
structure h_ where
 b:SV
 at_:Int
 place:Int
 e:Int
deriving DecidableEq
def h_.enc(x:h_):List Value:=[x.b.v,.int .i64 x.at_,.int .i64 x.place,.int .i64 x.e]
theorem h_.len(x:h_):x.enc.length=4:=rfl
theorem h_.one(x:h_):∀ u∈x.enc,u.oneCell' = true:=(acx.2 ⟨rfl,(acx.2 ⟨rfl,(acx.2 ⟨rfl,(acx.2 ⟨rfl,(fun _ h=>absurd h acy)⟩)⟩)⟩)⟩)
instance:d_ h_:=⟨h_.enc,4,h_.len,h_.one,by decide⟩
theorem h_.g_b(x:h_):x.enc[0]? = some (x.b.v):=rfl
theorem h_.vq(x:h_)(y:SV):x.enc.set 0 (y.v) = { x with b:=y }.enc:=rfl
theorem h_.g_at_(x:h_):x.enc[1]? = some (.int .i64 x.at_):=rfl
theorem h_.s_at_(x:h_)(y:Int):x.enc.set 1 (.int .i64 y) = { x with at_:=y }.enc:=(congrArg (List.cons _) rfl)
structure g_ where
 b:SV
 at_:Int
 place:Int
 e:Int
deriving DecidableEq
def g_.enc(x:g_):List Value:=[x.b.v,.int .i64 x.at_,.int .i64 x.place,.int .i64 x.e]
theorem g_.len(x:g_):x.enc.length=4:=rfl
theorem g_.one(x:g_):∀ u∈x.enc,u.oneCell' = true:=(acx.2 ⟨rfl,(acx.2 ⟨rfl,(acx.2 ⟨rfl,(acx.2 ⟨rfl,(fun _ h=>absurd h acy)⟩)⟩)⟩)⟩)
instance:d_ g_:=⟨g_.enc,4,g_.len,g_.one,by decide⟩
theorem g_.g_b(x:g_):x.enc[0]? = some (x.b.v):=rfl
theorem g_.vq(x:g_)(y:SV):x.enc.set 0 (y.v) = { x with b:=y }.enc:=rfl
theorem g_.g_at_(x:g_):x.enc[1]? = some (.int .i64 x.at_):=rfl
theorem g_.s_at_(x:g_)(y:Int):x.enc.set 1 (.int .i64 y) = { x with at_:=y }.enc:=(congrArg (List.cons _) rfl)
structure bu where
 bp:Vec bn 32
 b_:SV
 ah:SV
 data:SV
 sizes:SV
deriving DecidableEq
def bu.enc(x:bu):List Value:=encs x.bp.l++(x.b_.v::x.ah.v::x.data.v :: [x.sizes.v])
theorem bu.len(x:bu):x.enc.length=420:=by
 have h0:(encs x.bp.l).length=416:=aQ x.bp
 simp[bu.enc,h0]
theorem bu.one(x:bu):∀ u∈x.enc,u.oneCell' = true:=(acz.2 ⟨eY x.bp.l,(acx.2 ⟨rfl,(acx.2 ⟨rfl,(acx.2 ⟨rfl,(acx.2 ⟨rfl,(fun _ h=>absurd h acy)⟩)⟩)⟩)⟩)⟩)
instance:d_ bu:=⟨bu.enc,420,bu.len,bu.one,by decide⟩
theorem bu.c_stack(x:bu):cut x.enc 0 416=encs x.bp.l:=(gS (n:=416) (aQ x.bp))
theorem bu.p_stack(x:bu)(y:Vec bn 32):put x.enc 0 (encs y.l) = { x with bp:=y }.enc:=(gK (Eq.trans (b:=416) (aQ x.bp) (Eq.symm (aQ y))))
theorem bu.ci_stack(x:bu)(i:Nat)(y:bn)(h:x.bp.l[i]? = some y):cut x.enc (0+i*13) 13=y.enc:=(vE (nP h) (fY h))
theorem bu.pi_stack(x:bu)(i:Nat)(y:bn)(h:i<32):put x.enc (0+i*13) (y.enc) = { x with bp:=x.bp.set i y }.enc:=(qW (mG (v:=x.bp) h) (d_.len y) (kH (v:=x.bp) h))
theorem bu.g_ctx(x:bu):x.enc[416]? = some (x.b_.v):=(cN (m:=416) (o:=0) (aQ x.bp) rfl)
theorem bu.gI(x:bu)(y:SV):x.enc.set 416 (y.v) = { x with b_:=y }.enc:=(cO (m:=416) (o:=0) (aQ x.bp) rfl)
theorem bu.g_tables(x:bu):x.enc[417]? = some (x.ah.v):=(cN (m:=416) (o:=1) (aQ x.bp) rfl)
theorem bu.ep(x:bu)(y:SV):x.enc.set 417 (y.v) = { x with ah:=y }.enc:=(cO (m:=416) (o:=1) (aQ x.bp) (congrArg (List.cons _) rfl))
theorem bu.g_data(x:bu):x.enc[418]? = some (x.data.v):=(cN (m:=416) (o:=2) (aQ x.bp) rfl)
theorem bu.ng(x:bu)(y:SV):x.enc.set 418 (y.v) = { x with data:=y }.enc:=(cO (m:=416) (o:=2) (aQ x.bp) (congrArg (List.cons _) (congrArg (List.cons _) rfl)))
theorem bu.g_sizes(x:bu):x.enc[419]? = some (x.sizes.v):=(cN (m:=416) (o:=3) (aQ x.bp) rfl)
theorem bu.qu(x:bu)(y:SV):x.enc.set 419 (y.v) = { x with sizes:=y }.enc:=(cO (m:=416) (o:=3) (aQ x.bp) (congrArg (List.cons _) (congrArg (List.cons _) (congrArg (List.cons _) rfl))))
structure af where
 ae:bu
 code:SV
 dq:SV
 cg:Option Nat
 bk:Vec ak 11
 bf:SV
 at_:Int
 steps:Int
 done:Bool
deriving DecidableEq
def af.enc(x:af):List Value:=bu.enc x.ae++(x.code.v::x.dq.v :: .map x.cg::encs x.bk.l++(x.bf.v :: .int .i64 x.at_ :: .int .i64 x.steps :: [.bool x.done]))
theorem af.len(x:af):x.enc.length=471:=by
 have h0:(bu.enc x.ae).length=420:=bu.len x.ae
 have h1:(encs x.bk.l).length=44:=aQ x.bk
 simp[af.enc,h0,h1]
theorem af.one(x:af):∀ u∈x.enc,u.oneCell' = true:=(acz.2 ⟨bu.one x.ae,(acx.2 ⟨rfl,(acx.2 ⟨rfl,(acx.2 ⟨rfl,(acz.2 ⟨eY x.bk.l,(acx.2 ⟨rfl,(acx.2 ⟨rfl,(acx.2 ⟨rfl,(acx.2 ⟨rfl,(fun _ h=>absurd h acy)⟩)⟩)⟩)⟩)⟩)⟩)⟩)⟩)⟩)
instance:d_ af:=⟨af.enc,471,af.len,af.one,by decide⟩
theorem af.c_memory(x:af):cut x.enc 0 420=x.ae.enc:=(gS (n:=420) (bu.len x.ae))
theorem af.p_memory(x:af)(y:bu):put x.enc 0 (y.enc) = { x with ae:=y }.enc:=(gK (Eq.trans (b:=420) (bu.len x.ae) (Eq.symm (bu.len y))))
theorem af.g_code(x:af):x.enc[420]? = some (x.code.v):=(cN (m:=420) (o:=0) (bu.len x.ae) rfl)
theorem af.oo(x:af)(y:SV):x.enc.set 420 (y.v) = { x with code:=y }.enc:=(cO (m:=420) (o:=0) (bu.len x.ae) rfl)
theorem af.g_units(x:af):x.enc[421]? = some (x.dq.v):=(cN (m:=420) (o:=1) (bu.len x.ae) rfl)
theorem af.nQ(x:af)(y:SV):x.enc.set 421 (y.v) = { x with dq:=y }.enc:=(cO (m:=420) (o:=1) (bu.len x.ae) (congrArg (List.cons _) rfl))
theorem af.g_begin_(x:af):x.enc[422]? = some (.map x.cg):=(cN (m:=420) (o:=2) (bu.len x.ae) rfl)
theorem af.s_begin_(x:af)(y:Option Nat):x.enc.set 422 (.map y) = { x with cg:=y }.enc:=(cO (m:=420) (o:=2) (bu.len x.ae) (congrArg (List.cons _) (congrArg (List.cons _) rfl)))
theorem af.c_regs(x:af):cut x.enc 423 44=encs x.bk.l:=(kV (m:=420) (o:=3) (bu.len x.ae) (iI (o:=2) (iI (o:=1) (iI (o:=0) (gS (n:=44) (aQ x.bk))))))
theorem af.p_regs(x:af)(y:Vec ak 11):put x.enc 423 (encs y.l) = { x with bk:=y }.enc:=(jG (m:=420) (o:=3) (bu.len x.ae) (iM (o:=2) (iM (o:=1) (iM (o:=0) (gK (Eq.trans (b:=44) (aQ x.bk) (Eq.symm (aQ y))))))))
theorem af.ci_regs(x:af)(i:Nat)(y:ak)(h:x.bk.l[i]? = some y):cut x.enc (423+i*4) 4=y.enc:=(nG (m:=420) (o:=3) (e:=i*4) (bu.len x.ae) (oZ (o:=2) (e:=i*4) (oZ (o:=1) (e:=i*4) (oZ (o:=0) (e:=i*4) (vE (nP h) (fY h))))))
theorem af.pi_regs(x:af)(i:Nat)(y:ak)(h:i<11):put x.enc (423+i*4) (y.enc) = { x with bk:=x.bk.set i y }.enc:=(nK (m:=420) (o:=3) (e:=i*4) (bu.len x.ae) (pO (o:=2) (e:=i*4) (pO (o:=1) (e:=i*4) (pO (o:=0) (e:=i*4) (qW (mG (v:=x.bk) h) (d_.len y) (kH (v:=x.bk) h))))))
theorem af.g_sent(x:af):x.enc[467]? = some (x.bf.v):=(cN (m:=420) (o:=47) (bu.len x.ae) (cN (m:=44) (o:=0) (aQ x.bk) rfl))
theorem af.gC(x:af)(y:SV):x.enc.set 467 (y.v) = { x with bf:=y }.enc:=(cO (m:=420) (o:=47) (bu.len x.ae) (congrArg (List.cons _) (congrArg (List.cons _) (congrArg (List.cons _) (cO (m:=44) (o:=0) (aQ x.bk) rfl)))))
theorem af.g_at_(x:af):x.enc[468]? = some (.int .i64 x.at_):=(cN (m:=420) (o:=48) (bu.len x.ae) (cN (m:=44) (o:=1) (aQ x.bk) rfl))
theorem af.s_at_(x:af)(y:Int):x.enc.set 468 (.int .i64 y) = { x with at_:=y }.enc:=(cO (m:=420) (o:=48) (bu.len x.ae) (congrArg (List.cons _) (congrArg (List.cons _) (congrArg (List.cons _) (cO (m:=44) (o:=1) (aQ x.bk) (congrArg (List.cons _) rfl))))))
theorem af.g_steps(x:af):x.enc[469]? = some (.int .i64 x.steps):=(cN (m:=420) (o:=49) (bu.len x.ae) (cN (m:=44) (o:=2) (aQ x.bk) rfl))
theorem af.s_steps(x:af)(y:Int):x.enc.set 469 (.int .i64 y) = { x with steps:=y }.enc:=(cO (m:=420) (o:=49) (bu.len x.ae) (congrArg (List.cons _) (congrArg (List.cons _) (congrArg (List.cons _) (cO (m:=44) (o:=2) (aQ x.bk) (congrArg (List.cons _) (congrArg (List.cons _) rfl)))))))
theorem af.g_done(x:af):x.enc[470]? = some (.bool x.done):=(cN (m:=420) (o:=50) (bu.len x.ae) (cN (m:=44) (o:=3) (aQ x.bk) rfl))
theorem af.s_done(x:af)(y:Bool):x.enc.set 470 (.bool y) = { x with done:=y }.enc:=(cO (m:=420) (o:=50) (bu.len x.ae) (congrArg (List.cons _) (congrArg (List.cons _) (congrArg (List.cons _) (cO (m:=44) (o:=3) (aQ x.bk) (congrArg (List.cons _) (congrArg (List.cons _) (congrArg (List.cons _) rfl))))))))
structure Au where
 written:Bool
 byte:UInt8
 ptr:Int
 pos:Int
deriving DecidableEq
def Au.enc(x:Au):List Value:=[.bool x.written,.int .u8 (x.byte.toNat:Int),.int .i64 x.ptr,.int .i64 x.pos]
theorem Au.len(x:Au):x.enc.length=4:=rfl
theorem Au.one(x:Au):∀ u∈x.enc,u.oneCell' = true:=(acx.2 ⟨rfl,(acx.2 ⟨rfl,(acx.2 ⟨rfl,(acx.2 ⟨rfl,(fun _ h=>absurd h acy)⟩)⟩)⟩)⟩)
instance:d_ Au:=⟨Au.enc,4,Au.len,Au.one,by decide⟩
structure RM where
 p:bh
 dq:SV
 bk:Vec ak 11
 cells:Vec Au 256
 ptrs:SV
 b_:SV
 ah:SV
 bf:SV
 at_:Int
 steps:Int
 done:Bool
deriving DecidableEq
def RM.enc(x:RM):List Value:=bh.enc x.p++(x.dq.v::encs x.bk.l++(encs x.cells.l++(x.ptrs.v::x.b_.v::x.ah.v::x.bf.v :: .int .i64 x.at_ :: .int .i64 x.steps :: [.bool x.done])))
theorem RM.len(x:RM):x.enc.length=1081:=by
 have h0:(bh.enc x.p).length=5:=bh.len x.p
 have h1:(encs x.bk.l).length=44:=aQ x.bk
 have h2:(encs x.cells.l).length=1024:=aQ x.cells
 simp[RM.enc,h0,h1,h2]
theorem RM.one(x:RM):∀ u∈x.enc,u.oneCell' = true:=(acz.2 ⟨bh.one x.p,(acx.2 ⟨rfl,(acz.2 ⟨eY x.bk.l,(acz.2 ⟨eY x.cells.l,(acx.2 ⟨rfl,(acx.2 ⟨rfl,(acx.2 ⟨rfl,(acx.2 ⟨rfl,(acx.2 ⟨rfl,(acx.2 ⟨rfl,(acx.2 ⟨rfl,(fun _ h=>absurd h acy)⟩)⟩)⟩)⟩)⟩)⟩)⟩)⟩)⟩)⟩)⟩)
instance:d_ RM:=⟨RM.enc,1081,RM.len,RM.one,by decide⟩
theorem RM.g_units(x:RM):x.enc[5]? = some (x.dq.v):=(cN (m:=5) (o:=0) (bh.len x.p) rfl)
theorem RM.nQ(x:RM)(y:SV):x.enc.set 5 (y.v) = { x with dq:=y }.enc:=(cO (m:=5) (o:=0) (bh.len x.p) rfl)
theorem RM.c_regs(x:RM):cut x.enc 6 44=encs x.bk.l:=(kV (m:=5) (o:=1) (bh.len x.p) (iI (o:=0) (gS (n:=44) (aQ x.bk))))
theorem RM.p_regs(x:RM)(y:Vec ak 11):put x.enc 6 (encs y.l) = { x with bk:=y }.enc:=(jG (m:=5) (o:=1) (bh.len x.p) (iM (o:=0) (gK (Eq.trans (b:=44) (aQ x.bk) (Eq.symm (aQ y))))))
theorem RM.ci_regs(x:RM)(i:Nat)(y:ak)(h:x.bk.l[i]? = some y):cut x.enc (6+i*4) 4=y.enc:=(nG (m:=5) (o:=1) (e:=i*4) (bh.len x.p) (oZ (o:=0) (e:=i*4) (vE (nP h) (fY h))))
theorem RM.pi_regs(x:RM)(i:Nat)(y:ak)(h:i<11):put x.enc (6+i*4) (y.enc) = { x with bk:=x.bk.set i y }.enc:=(nK (m:=5) (o:=1) (e:=i*4) (bh.len x.p) (pO (o:=0) (e:=i*4) (qW (mG (v:=x.bk) h) (d_.len y) (kH (v:=x.bk) h))))
theorem RM.wS(x:RM)(y:SV):x.enc.set 1074 (y.v) = { x with ptrs:=y }.enc:=(cO (m:=5) (o:=1069) (bh.len x.p) (congrArg (List.cons _) (cO (m:=44) (o:=1024) (aQ x.bk) (cO (m:=1024) (o:=0) (aQ x.cells) rfl))))
theorem RM.g_ctx(x:RM):x.enc[1075]? = some (x.b_.v):=(cN (m:=5) (o:=1070) (bh.len x.p) (cN (m:=44) (o:=1025) (aQ x.bk) (cN (m:=1024) (o:=1) (aQ x.cells) rfl)))
theorem RM.gI(x:RM)(y:SV):x.enc.set 1075 (y.v) = { x with b_:=y }.enc:=(cO (m:=5) (o:=1070) (bh.len x.p) (congrArg (List.cons _) (cO (m:=44) (o:=1025) (aQ x.bk) (cO (m:=1024) (o:=1) (aQ x.cells) (congrArg (List.cons _) rfl)))))
theorem RM.g_tables(x:RM):x.enc[1076]? = some (x.ah.v):=(cN (m:=5) (o:=1071) (bh.len x.p) (cN (m:=44) (o:=1026) (aQ x.bk) (cN (m:=1024) (o:=2) (aQ x.cells) rfl)))
theorem RM.ep(x:RM)(y:SV):x.enc.set 1076 (y.v) = { x with ah:=y }.enc:=(cO (m:=5) (o:=1071) (bh.len x.p) (congrArg (List.cons _) (cO (m:=44) (o:=1026) (aQ x.bk) (cO (m:=1024) (o:=2) (aQ x.cells) (congrArg (List.cons _) (congrArg (List.cons _) rfl))))))
theorem RM.g_sent(x:RM):x.enc[1077]? = some (x.bf.v):=(cN (m:=5) (o:=1072) (bh.len x.p) (cN (m:=44) (o:=1027) (aQ x.bk) (cN (m:=1024) (o:=3) (aQ x.cells) rfl)))
theorem RM.gC(x:RM)(y:SV):x.enc.set 1077 (y.v) = { x with bf:=y }.enc:=(cO (m:=5) (o:=1072) (bh.len x.p) (congrArg (List.cons _) (cO (m:=44) (o:=1027) (aQ x.bk) (cO (m:=1024) (o:=3) (aQ x.cells) (congrArg (List.cons _) (congrArg (List.cons _) (congrArg (List.cons _) rfl)))))))
theorem RM.g_at_(x:RM):x.enc[1078]? = some (.int .i64 x.at_):=(cN (m:=5) (o:=1073) (bh.len x.p) (cN (m:=44) (o:=1028) (aQ x.bk) (cN (m:=1024) (o:=4) (aQ x.cells) rfl)))
theorem RM.s_at_(x:RM)(y:Int):x.enc.set 1078 (.int .i64 y) = { x with at_:=y }.enc:=(cO (m:=5) (o:=1073) (bh.len x.p) (congrArg (List.cons _) (cO (m:=44) (o:=1028) (aQ x.bk) (cO (m:=1024) (o:=4) (aQ x.cells) (congrArg (List.cons _) (congrArg (List.cons _) (congrArg (List.cons _) (congrArg (List.cons _) rfl))))))))
theorem RM.g_steps(x:RM):x.enc[1079]? = some (.int .i64 x.steps):=(cN (m:=5) (o:=1074) (bh.len x.p) (cN (m:=44) (o:=1029) (aQ x.bk) (cN (m:=1024) (o:=5) (aQ x.cells) rfl)))
theorem RM.s_steps(x:RM)(y:Int):x.enc.set 1079 (.int .i64 y) = { x with steps:=y }.enc:=(cO (m:=5) (o:=1074) (bh.len x.p) (congrArg (List.cons _) (cO (m:=44) (o:=1029) (aQ x.bk) (cO (m:=1024) (o:=5) (aQ x.cells) (congrArg (List.cons _) (congrArg (List.cons _) (congrArg (List.cons _) (congrArg (List.cons _) (congrArg (List.cons _) rfl)))))))))
theorem RM.g_done(x:RM):x.enc[1080]? = some (.bool x.done):=(cN (m:=5) (o:=1075) (bh.len x.p) (cN (m:=44) (o:=1030) (aQ x.bk) (cN (m:=1024) (o:=6) (aQ x.cells) rfl)))
theorem RM.s_done(x:RM)(y:Bool):x.enc.set 1080 (.bool y) = { x with done:=y }.enc:=(cO (m:=5) (o:=1075) (bh.len x.p) (congrArg (List.cons _) (cO (m:=44) (o:=1030) (aQ x.bk) (cO (m:=1024) (o:=6) (aQ x.cells) (congrArg (List.cons _) (congrArg (List.cons _) (congrArg (List.cons _) (congrArg (List.cons _) (congrArg (List.cons _) (congrArg (List.cons _) rfl))))))))))
structure ik where
 code:Int
 op:Int
 size:Int
 narrow:Bool
 reg:Bool
 dst:Int
 src:Int
 off:Int
 k_:Int
 second:Int
 writes:Bool
deriving DecidableEq
def ik.enc(x:ik):List Value:=[.int .i64 x.code,.int .i64 x.op,.int .i64 x.size,.bool x.narrow,.bool x.reg,.int .i64 x.dst,.int .i64 x.src,.int .i64 x.off,.int .i64 x.k_,.int .i64 x.second,.bool x.writes]
theorem ik.len(x:ik):x.enc.length=11:=rfl
theorem ik.one(x:ik):∀ u∈x.enc,u.oneCell' = true:=(acx.2 ⟨rfl,(acx.2 ⟨rfl,(acx.2 ⟨rfl,(acx.2 ⟨rfl,(acx.2 ⟨rfl,(acx.2 ⟨rfl,(acx.2 ⟨rfl,(acx.2 ⟨rfl,(acx.2 ⟨rfl,(acx.2 ⟨rfl,(acx.2 ⟨rfl,(fun _ h=>absurd h acy)⟩)⟩)⟩)⟩)⟩)⟩)⟩)⟩)⟩)⟩)⟩)
instance:d_ ik:=⟨ik.enc,11,ik.len,ik.one,by decide⟩
theorem ik.g_code(x:ik):x.enc[0]? = some (.int .i64 x.code):=rfl
theorem ik.oo(x:ik)(y:Int):x.enc.set 0 (.int .i64 y) = { x with code:=y }.enc:=rfl
theorem ik.g_op(x:ik):x.enc[1]? = some (.int .i64 x.op):=rfl
theorem ik.g_size(x:ik):x.enc[2]? = some (.int .i64 x.size):=rfl
theorem ik.g_narrow(x:ik):x.enc[3]? = some (.bool x.narrow):=rfl
theorem ik.s_narrow(x:ik)(y:Bool):x.enc.set 3 (.bool y) = { x with narrow:=y }.enc:=(congrArg (List.cons _) (congrArg (List.cons _) (congrArg (List.cons _) rfl)))
theorem ik.g_reg(x:ik):x.enc[4]? = some (.bool x.reg):=rfl
theorem ik.s_reg(x:ik)(y:Bool):x.enc.set 4 (.bool y) = { x with reg:=y }.enc:=(congrArg (List.cons _) (congrArg (List.cons _) (congrArg (List.cons _) (congrArg (List.cons _) rfl))))
theorem ik.g_dst(x:ik):x.enc[5]? = some (.int .i64 x.dst):=rfl
theorem ik.g_src(x:ik):x.enc[6]? = some (.int .i64 x.src):=rfl
theorem ik.s_src(x:ik)(y:Int):x.enc.set 6 (.int .i64 y) = { x with src:=y }.enc:=(congrArg (List.cons _) (congrArg (List.cons _) (congrArg (List.cons _) (congrArg (List.cons _) (congrArg (List.cons _) (congrArg (List.cons _) rfl))))))
theorem ik.g_off(x:ik):x.enc[7]? = some (.int .i64 x.off):=rfl
theorem ik.g_imm(x:ik):x.enc[8]? = some (.int .i64 x.k_):=rfl
theorem ik.s_imm(x:ik)(y:Int):x.enc.set 8 (.int .i64 y) = { x with k_:=y }.enc:=(congrArg (List.cons _) (congrArg (List.cons _) (congrArg (List.cons _) (congrArg (List.cons _) (congrArg (List.cons _) (congrArg (List.cons _) (congrArg (List.cons _) (congrArg (List.cons _) rfl))))))))
theorem ik.g_second(x:ik):x.enc[9]? = some (.int .i64 x.second):=rfl
theorem ik.g_writes(x:ik):x.enc[10]? = some (.bool x.writes):=rfl
structure dm where
 lo:Int
 hi:Int
 L6:Bool
 LZ:Bool
deriving DecidableEq
def dm.enc(x:dm):List Value:=[.int .i64 x.lo,.int .i64 x.hi,.bool x.L6,.bool x.LZ]
theorem dm.len(x:dm):x.enc.length=4:=rfl
theorem dm.one(x:dm):∀ u∈x.enc,u.oneCell' = true:=(acx.2 ⟨rfl,(acx.2 ⟨rfl,(acx.2 ⟨rfl,(acx.2 ⟨rfl,(fun _ h=>absurd h acy)⟩)⟩)⟩)⟩)
instance:d_ dm:=⟨dm.enc,4,dm.len,dm.one,by decide⟩
theorem dm.g_lo(x:dm):x.enc[0]? = some (.int .i64 x.lo):=rfl
theorem dm.s_lo(x:dm)(y:Int):x.enc.set 0 (.int .i64 y) = { x with lo:=y }.enc:=rfl
theorem dm.g_hi(x:dm):x.enc[1]? = some (.int .i64 x.hi):=rfl
theorem dm.s_hi(x:dm)(y:Int):x.enc.set 1 (.int .i64 y) = { x with hi:=y }.enc:=(congrArg (List.cons _) rfl)
theorem dm.s_noLo(x:dm)(y:Bool):x.enc.set 2 (.bool y) = { x with L6:=y }.enc:=(congrArg (List.cons _) (congrArg (List.cons _) rfl))
theorem dm.s_noHi(x:dm)(y:Bool):x.enc.set 3 (.bool y) = { x with LZ:=y }.enc:=(congrArg (List.cons _) (congrArg (List.cons _) (congrArg (List.cons _) rfl)))
structure gq where
 args:SV
 ret:dm
deriving DecidableEq
def gq.enc(x:gq):List Value:=x.args.v::dm.enc x.ret
theorem gq.len(x:gq):x.enc.length=5:=by
 have h0:(dm.enc x.ret).length=4:=dm.len x.ret
 simp[gq.enc,h0]
theorem gq.one(x:gq):∀ u∈x.enc,u.oneCell' = true:=(acx.2 ⟨rfl,(dm.one x.ret)⟩)
instance:d_ gq:=⟨gq.enc,5,gq.len,gq.one,by decide⟩
theorem gq.g_args(x:gq):x.enc[0]? = some (x.args.v):=rfl
theorem gq.ui(x:gq)(y:SV):x.enc.set 0 (y.v) = { x with args:=y }.enc:=rfl
theorem gq.p_(x:gq):cut x.enc 1 4=x.ret.enc:=(iI (o:=0) (cD (n:=4) (dm.len x.ret)))
theorem gq.p_ret(x:gq)(y:dm):put x.enc 1 (y.enc) = { x with ret:=y }.enc:=(iM (o:=0) (bF (Eq.trans (b:=4) (dm.len x.ret) (Eq.symm (dm.len y)))))
structure jd where
 room:SV
deriving DecidableEq
def jd.enc(x:jd):List Value:=[x.room.v]
theorem jd.len(x:jd):x.enc.length=1:=rfl
theorem jd.one(x:jd):∀ u∈x.enc,u.oneCell' = true:=(acx.2 ⟨rfl,(fun _ h=>absurd h acy)⟩)
instance:d_ jd:=⟨jd.enc,1,jd.len,jd.one,by decide⟩
theorem jd.wT(x:jd)(y:SV):x.enc.set 0 (y.v) = { x with room:=y }.enc:=rfl
structure gp where
 a:Int
 b:Int
deriving DecidableEq
def gp.enc(x:gp):List Value:=[.int .u64 x.a,.int .u64 x.b]
theorem gp.len(x:gp):x.enc.length=2:=rfl
theorem gp.one(x:gp):∀ u∈x.enc,u.oneCell' = true:=(acx.2 ⟨rfl,(acx.2 ⟨rfl,(fun _ h=>absurd h acy)⟩)⟩)
instance:d_ gp:=⟨gp.enc,2,gp.len,gp.one,by decide⟩
theorem gp.g_a(x:gp):x.enc[0]? = some (.int .u64 x.a):=rfl
theorem gp.s_a(x:gp)(y:Int):x.enc.set 0 (.int .u64 y) = { x with a:=y }.enc:=rfl
theorem gp.g_b(x:gp):x.enc[1]? = some (.int .u64 x.b):=rfl
theorem gp.vq(x:gp)(y:Int):x.enc.set 1 (.int .u64 y) = { x with b:=y }.enc:=(congrArg (List.cons _) rfl)
structure gj where
 a:Int
 b:Int
deriving DecidableEq
def gj.enc(x:gj):List Value:=[.int .i64 x.a,.int .i64 x.b]
theorem gj.len(x:gj):x.enc.length=2:=rfl
theorem gj.one(x:gj):∀ u∈x.enc,u.oneCell' = true:=(acx.2 ⟨rfl,(acx.2 ⟨rfl,(fun _ h=>absurd h acy)⟩)⟩)
instance:d_ gj:=⟨gj.enc,2,gj.len,gj.one,by decide⟩
theorem gj.g_a(x:gj):x.enc[0]? = some (.int .i64 x.a):=rfl
theorem gj.s_a(x:gj)(y:Int):x.enc.set 0 (.int .i64 y) = { x with a:=y }.enc:=rfl
theorem gj.g_b(x:gj):x.enc[1]? = some (.int .i64 x.b):=rfl
theorem gj.vq(x:gj)(y:Int):x.enc.set 1 (.int .i64 y) = { x with b:=y }.enc:=(congrArg (List.cons _) rfl)
end Go.Fw
end
section
namespace Go.Fw
def kh(P:Program)(t:TypeId){X:Type}[DecidableEq X](v:X→Value):Prop :=
 ∀ (d:Nat) (x y:X) (w:World),1≤d→(Op.equalIn d t (v x) (v y)).run P w = .ok (decide (x=y)) w
theorem kh.int{P:Program}{t:TypeId}{k k':IntKind}(ht:P.underlying t=some (.int k')):kh P t (fun x:Int=>.int k x):=by
 intro d x y w hd
 obtain⟨d,rfl⟩ : ∃ d',d=d' + 1:=⟨d-1,adr⟩
 rw[run_equalIn_int w d t k k' x y ht];rfl
theorem kh.u8{P:Program}{t:TypeId}{k':IntKind}(ht:P.underlying t=some (.int k')):kh P t (fun x:UInt8=>.int .u8 (x.toNat:Int)):=by
 intro d x y w hd
 obtain⟨d,rfl⟩ : ∃ d',d=d' + 1:=⟨d-1,adr⟩
 rw[run_equalIn_int w d t .u8 k' _ _ ht]
 have:((x.toNat:Int)==(y.toNat:Int))=decide (x=y):=by
  rw[Bool.eq_iff_iff]
  simp only[beq_iff_eq,aa6]
  constructor
  ·intro h;exact UInt8.toNat_inj.1 adr
  ·intro h;rw[h]
 rw[this]
theorem kh.bool{P:Program}{t:TypeId}(ht:P.underlying t=some .bool):kh P t (fun x:Bool=>.bool x):=by
 intro d x y w hd
 obtain⟨d,rfl⟩ : ∃ d',d=d' + 1:=⟨d-1,adr⟩
 exact run_equalIn_bool d ht
def Op.eqElems(d:Nat)(e n:Nat)(xs ys:Array Value):List Nat→Sem Bool
 | []=>pure true
 | i::is=>do
  let a←part e xs (i*n)
  let b←part e ys (i*n)
  let r←Op.equalIn d e a b
  if(!r)=true then pure false else Op.eqElems d e n xs ys is
theorem run_equalIn_array{P:Program}(w:World)(d:Nat){t e n len:Nat}(xs ys:Array Value)(ht:P.underlying t=some (.array len e))(hn:∀ w,(sizeOf e).run P w = .ok n w) :
  (Op.equalIn (d+1) t (.agg xs) (.agg ys)).run P w=(Op.eqElems d e n xs ys (List.range len)).run P w:=by
 simp only[Op.equalIn,Sem.run_bind,run_underlying ht,Result.andThen_ok,hn]
 rw[Std.Legacy.Range.forIn_eq_forIn_range']
 have hr:List.range' 0 (Std.Legacy.Range.size { start:=0,stop:=len,step:=1,step_pos:=by decide }) 1=List.range len:=by
  simp[Std.Legacy.Range.size,acA]
 simp only[hr]
 generalize List.range len=is
 induction is generalizing w with
 | nil=>simp[Op.eqElems]
 | cons i is ih =>
  simp only[List.forIn_cons,Op.eqElems,Sem.run_bind]
  generalize (part e xs (i*n)).run P w=r1
  cases r1 with
  | halt x w1=>simp[Result.andThen]
  | ok a w1 =>
   simp only[Result.andThen_ok]
   generalize (part e ys (i*n)).run P w1=r2
   cases r2 with
   | halt x w2=>simp[Result.andThen]
   | ok b w2 =>
    simp only[Result.andThen_ok]
    generalize (Op.equalIn d e a b).run P w2=r3
    cases r3 with
    | halt x w3=>simp[Result.andThen]
    | ok r w3 =>
     cases r
     ·simp
     ·simpa using ih w3
theorem gL{P:Program}(w:World){t sz off:Nat}{cs vs:List Value}(ha:∀ w,(isAgg t).run P w = .ok true w)(hs:∀ w,(sizeOf t).run P w = .ok sz w)(hc:cut cs off sz=vs) :
  (part t cs.toArray off).run P w = .ok (.agg vs.toArray) w:=by
 subst hc
 simp[part,ha,hs,cut]
theorem gM{P:Program}(w:World){t off:Nat}{cs:List Value}{v:Value}(ha:∀ w,(isAgg t).run P w = .ok false w)(hc:cs[off]? = some v):(part t cs.toArray off).run P w = .ok v w:=by
 simp[part,ha,hc]
theorem kh.vecAgg{P:Program}{t e len:Nat}{X:Type}[d_ X][DecidableEq X](ht:P.underlying t=some (.array len e))(hn:∀ w,(sizeOf e).run P w = .ok (d_.sz X) w)(ha:∀ w,(isAgg e).run P w = .ok true w)
  (he:∀ (d:Nat) (x y:X) (w:World),8≤d→(Op.equalIn d e (.agg (d_.enc x).toArray) (.agg (d_.enc y).toArray)).run P w = .ok (decide (x=y)) w) :
  ∀ (d:Nat) (x y:Vec X len) (w:World),9≤d→(Op.equalIn d t (.agg (encs x.l).toArray) (.agg (encs y.l).toArray)).run P w = .ok (decide (x=y)) w:=by
 intro d x y w hd
 obtain⟨d,rfl⟩ : ∃ d',d=d' + 1:=⟨d-1,adr⟩
 rw[run_equalIn_array w d _ _ ht hn]
 have key:∀ (k s:Nat),s+k=len→(Op.eqElems d e (d_.sz X) (encs x.l).toArray (encs y.l).toArray (List.range' s k)).run P w = .ok (decide (x.l.drop s=y.l.drop s)) w:=by
  intro k
  induction k with
  | zero =>
   intro s hs
   rw[acB (by rw[x.len];omega),acB (by rw[y.len];omega)]
   simp[Op.eqElems]
  | succ k ih =>
   intro s hs
   obtain⟨a,hxa⟩:=x.get (i:=s) adr
   obtain⟨b,LD⟩:=y.get (i:=s) adr
   simp only[acC,Op.eqElems,Sem.run_bind,gL w ha hn (kX x.l s a hxa),gL w ha hn (kX y.l s b LD),Result.andThen_ok,he d a b w adr]
   have hx:x.l.drop s=a::x.l.drop (s+1):=by
    obtain⟨h1,h2⟩:=aaz.1 hxa
    rw[←h2];exact acD h1
   have hy:y.l.drop s=b::y.l.drop (s+1):=by
    obtain⟨h1,h2⟩:=aaz.1 LD
    rw[←h2];exact acD h1
   rw[hx,hy]
   by_cases hab:a=b
   ·subst hab
    simp only[decide_true,abB,abQ,if_false,ih (s+1) adr,List.cons.injEq,true_and]
   ·simp[hab]
 have:=key len 0 adr
 rw[acA,this]
 simp only[ack]
 congr 1
 rw[decide_eq_decide]
 exact⟨fun h=>Vec.ext h,fun h=>by rw[h]⟩
theorem kh.vecOne{P:Program}{t e len n:Nat}{X:Type}[d_ X][DecidableEq X]{v:X→Value}(ht:P.underlying t=some (.array len e))(hn:∀ w,(sizeOf e).run P w = .ok n w)(hn1:n=d_.sz X)(ha:∀ w,(isAgg e).run P w = .ok false w)
  (hv:∀ x,d_.enc x = [v x]) (he:kh P e v) :
  ∀ (d:Nat) (x y:Vec X len) (w:World),2≤d→(Op.equalIn d t (.agg (encs x.l).toArray) (.agg (encs y.l).toArray)).run P w = .ok (decide (x=y)) w:=by
 intro d x y w hd
 subst hn1
 obtain⟨d,rfl⟩ : ∃ d',d=d' + 1:=⟨d-1,adr⟩
 rw[run_equalIn_array w d _ _ ht hn]
 have key:∀ (k s:Nat),s+k=len→(Op.eqElems d e (d_.sz X) (encs x.l).toArray (encs y.l).toArray (List.range' s k)).run P w = .ok (decide (x.l.drop s=y.l.drop s)) w:=by
  intro k
  induction k with
  | zero =>
   intro s hs
   rw[acB (by rw[x.len];omega),acB (by rw[y.len];omega)]
   simp[Op.eqElems]
  | succ k ih =>
   intro s hs
   obtain⟨a,hxa⟩:=x.get (i:=s) adr
   obtain⟨b,LD⟩:=y.get (i:=s) adr
   have ga:(encs x.l)[s*d_.sz X]? = some (v a):=by
    have:=(oC (encs x.l) (s*d_.sz X) (d_.sz X) 0 (v a) (by rw[kX x.l s a hxa,hv];rfl)).2
    simpa using this
   have gb:(encs y.l)[s*d_.sz X]? = some (v b):=by
    have:=(oC (encs y.l) (s*d_.sz X) (d_.sz X) 0 (v b) (by rw[kX y.l s b LD,hv];rfl)).2
    simpa using this
   simp only[acC,Op.eqElems,Sem.run_bind,gM w ha ga,gM w ha gb,Result.andThen_ok,he d a b w adr]
   have hx:x.l.drop s=a::x.l.drop (s+1):=by
    obtain⟨h1,h2⟩:=aaz.1 hxa
    rw[←h2];exact acD h1
   have hy:y.l.drop s=b::y.l.drop (s+1):=by
    obtain⟨h1,h2⟩:=aaz.1 LD
    rw[←h2];exact acD h1
   rw[hx,hy]
   by_cases hab:a=b
   ·subst hab
    simp only[decide_true,abB,abQ,if_false,ih (s+1) adr,List.cons.injEq,true_and]
   ·simp[hab]
 have:=key len 0 adr
 rw[acA,this]
 simp only[ack]
 congr 1
 rw[decide_eq_decide]
 exact⟨fun h=>Vec.ext h,fun h=>by rw[h]⟩
theorem jK{P:Program}{w:World}{d:Nat}{cx cy ux uy:List Value}{f:Field}{fs:List Field}{sz:Nat}{r:Bool}(hn:f.name ≠ "_") (ha:∀ w,(isAgg f.type).run P w = .ok true w) (hs:∀ w,(sizeOf f.type).run P w = .ok sz w)
  (hx:cut cx f.offset sz=ux) (hy:cut cy f.offset sz=uy) (he:(Op.equalIn d f.type (.agg ux.toArray) (.agg uy.toArray)).run P w = .ok r w) :
  (Op.eqFields d cx.toArray cy.toArray (f::fs)).run P w=if r then(Op.eqFields d cx.toArray cy.toArray fs).run P w else .ok false w:=by
 simp only[Op.eqFields,aaJ hn,Sem.run_bind,gL w ha hs hx,gL w ha hs hy,Result.andThen_ok,he]
 cases r<;>simp
theorem dQ{P:Program}{w:World}{d:Nat}{cx cy:List Value}{ux uy:Value}{f:Field}{fs:List Field}{r:Bool}(hn:f.name ≠ "_") (ha:∀ w,(isAgg f.type).run P w = .ok false w)
  (hx:cx[f.offset]? = some ux) (hy:cy[f.offset]? = some uy) (he:(Op.equalIn d f.type ux uy).run P w = .ok r w) :
  (Op.eqFields d cx.toArray cy.toArray (f::fs)).run P w=if r then(Op.eqFields d cx.toArray cy.toArray fs).run P w else .ok false w:=by
 simp only[Op.eqFields,aaJ hn,Sem.run_bind,gM w ha hx,gM w ha hy,Result.andThen_ok,he]
 cases r<;>simp
theorem iB{P:Program}{w:World}{d:Nat}{cx cy:Array Value}:(Op.eqFields d cx cy []).run P w = .ok true w:=by simp[Op.eqFields]
section
variable {P:Program}{n:Nat}{F:List (Nat×Value)}{a:Act}{dd:List Deferred}{w:World}{o:Oper}
theorem kD{t yt:TypeId}{x y:Operand}{cx cy:List Value}{r:Bool}(hg:P.eqGuardType P.depth t=false)(he:(Op.equalIn 10000 t (.agg cx.toArray) (.agg cy.toArray)).run P w = .ok r w)
  (hF:Fr n F a dd) (ho:o.op = .binOp .eql t x y yt) (hx:ev F x=some (.agg cx.toArray)) (hy:ev F y=some (.agg cy.toArray)):(execOp a.eval o).run P w = .ok (.value (.bool r)) w:=by
 simp only[execOp,ho,hF.eval hx,hF.eval hy,Sem.run_bind,run_eqGuard_agg w .eql t x y _ _ hg,Result.andThen_ok,run_eql_struct,he,Sem.run_pure]
theorem lZ{t yt:TypeId}{x y:Operand}{cx cy:List Value}{r:Bool}(hg:P.eqGuardType P.depth t=false)(he:(Op.equalIn 10000 t (.agg cx.toArray) (.agg cy.toArray)).run P w = .ok r w)
  (hF:Fr n F a dd) (ho:o.op = .binOp .neq t x y yt) (hx:ev F x=some (.agg cx.toArray)) (hy:ev F y=some (.agg cy.toArray)):(execOp a.eval o).run P w = .ok (.value (.bool (!r))) w:=by
 simp only[execOp,ho,hF.eval hx,hF.eval hy,Sem.run_bind,run_eqGuard_agg w .neq t x y _ _ hg,Result.andThen_ok,run_neq_struct,he,Sem.run_pure]
end
end Go.Fw
end
section
namespace Go.Fw
section
variable {P:Program}{n:Nat}{F:List (Nat×Value)}{a:Act}{dd:List Deferred}{w:World}{o:Oper}
def byteOf(x:Int):UInt8:=UInt8.ofNat (x%256).toNat
theorem GH(x:Int):((byteOf x).toNat:Int)=x%256:=by
 unfold byteOf
 rw[UInt8.toNat_ofNat']
 omega
theorem wrap_u8(x:Int):IntKind.u8.wrap x=((byteOf x).toNat:Int):=by
 rw[GH,IntKind.wrap_u8]
theorem fL{s d:TypeId}{x:Operand}{ds:TypeDesc}{k:IntKind}{i:Int}(hs:P.underlying s=some ds)(hd:P.underlying d=some (.int .u8))(hF:Fr n F a dd)(ho:o.op = .convert s d x)(hx:ev F x=some (.int k i)) :
  (execOp a.eval o).run P w = .ok (.value (.int .u8 ((byteOf i).toNat:Int))) w:=by rw[GG hs hd hF ho hx,wrap_u8]
def L0:IntKind→Bool
 | .i8=>false
 | _=>true
theorem W2{k:IntKind}(hk:L0 k=true)(b:UInt8):k.wrap (b.toNat:Int)=(b.toNat:Int):=by
 have:=b.toNat_lt
 cases k
 ·cases hk
 ·exact IntWalk.i16_in _ adr
 ·exact IntWalk.i32_in _ adr
 ·exact IntWalk.i64_in _ adr
 ·exact IntWalk.u8_in _ adr
 ·exact IntWalk.u16_in _ adr
 ·exact IntWalk.u32_in _ adr
 ·exact IntWalk.u64_in _ adr
theorem tQ{s d:TypeId}{x:Operand}{ds:TypeDesc}{k:IntKind}{b:UInt8}(hs:P.underlying s=some ds)(hd:P.underlying d=some (.int k))(hk:L0 k=true)(hF:Fr n F a dd)(ho:o.op = .convert s d x)(hx:ev F x=some (.int .u8 (b.toNat:Int))) :
  (execOp a.eval o).run P w = .ok (.value (.int k (b.toNat:Int))) w:=by rw[GG hs hd hF ho hx,W2 hk]
theorem wP{t:TypeId}{x:Operand}{i:Nat}{fs:Array Field}{f:Field}{cs:List Value}{v:Value}(ht:P.underlying t=some (.struct fs))(hf:fs[i]? = some f)(ha:∀ w,(isAgg f.type).run P w = .ok false w)(hF:Fr n F a dd)(ho:o.op = .field t x i)
  (hx:ev F x=some (.agg cs.toArray)) (hv:cs[f.offset]? = some v):(execOp a.eval o).run P w = .ok (.value v) w:=by
 simp[execOp,ho,hF.eval hx,Instr.field,run_underlying ht,hf,asAgg,gM w ha hv]
theorem pB(vs:List Value):∀ (k off:Nat) (cs:List Value),off+k+vs.length≤cs.length→(vs.zipIdx k).foldl (fun(acc:Array Value) (p:Value×Nat)=>acc.setIfInBounds (off+p.2) p.1) cs.toArray=(put cs (off+k) vs).toArray:=by
 induction vs with
 | nil=>intro k off cs _;simp[put]
 | cons v vs ih =>
  intro k off cs h
  simp only[abN]at h
  simp only[List.zipIdx_cons,acE,List.setIfInBounds_toArray]
  rw[ih (k+1) off (cs.set (off+k) v) (by simp;omega)]
  congr 1
  unfold put
  rw[acb,aaJ adr]
  have h1:(cs.take (off+k)).length=off+k:=by simp;omega
  simp only[abN]
  rw[show off+(k+1)=off+k+1 by omega]
  rw[List.take_append,List.drop_append,h1]
  simp only[show off+k+1-(off+k)=1 by omega,show off+k+1+vs.length-(off+k)=vs.length+1 by omega,acF,List.take_zero,List.drop_succ_cons]
  rw[acn (by rw[h1];omega),acB (by rw[h1];omega)]
  simp
  congr 1
  omega
theorem bD{place:Nat→Option (Nat×Nat)}{cs:List Value}:Instr.fill place cs.toArray []=some cs.toArray:=rfl
theorem fB{place:Nat→Option (Nat×Nat)}{cs cs' vs:List Value}{i off sz:Nat}{rest:List (Nat×Value)}{r:Array Value}(hp:place i=some (off,sz))(hl:vs.length=sz)(hle:off+vs.length≤cs.length)(qb:put cs off vs=cs')(h:Instr.fill place cs'.toArray rest=some r) :
  Instr.fill place cs.toArray ((i,.agg vs.toArray)::rest)=some r:=by
 subst qb hl
 have hf:=pB vs 0 off cs adr
 simp only[ab_]at hf
 simp only[Instr.fill,hp,Value.cells,aca,ne_eq,not_true_eq_false,decide_false,acG,aa6]
 rw[aaK adr,←acH,acI]
 simp only[hf]
 exact h
theorem aO{place:Nat→Option (Nat×Nat)}{cs cs':List Value}{v:Value}{i off:Nat}{rest:List (Nat×Value)}{r:Array Value}(hp:place i=some (off,1))(hv:v.oneCell' = true)(hle:off<cs.length)(qb:cs.set off v=cs')(h:Instr.fill place cs'.toArray rest=some r) :
  Instr.fill place cs.toArray ((i,v)::rest)=some r:=by
 subst qb
 have hc:v.cells = [v].toArray:=by cases v<;>first|rfl|cases hv
 have hf:=pB [v] 0 off cs (by simp;omega)
 simp only[ab_]at hf
 simp only[Instr.fill,hp,hc,aca,abN,acu,acr,ne_eq,not_true_eq_false,decide_false,acG,aa6]
 rw[aaK adr,←acH,acI]
 simp only[hf]
 rw[acb,aaJ hle]at h
 simpa[put]using h
def xj(P:Program)(t:TypeId):Sem (Array (Nat×Nat)):=(P.fieldsOf t).mapM fun f=>do pure (f.offset,←sizeOf f.type)
theorem aW{t:TypeId}{fs:Array Field}{pl:Array (Nat×Nat)}{zs cs:List Value}{parts:List (Nat×Operand)}{xO:List (Nat×Value)}(hz:∀ w,(zeroValue t).run P w = .ok (.agg zs.toArray) w)(hu:P.underlying t=some (.struct fs))
  (hp:∀ w,(xj P t).run P w = .ok pl w) (hF:Fr n F a dd) (ho:o.op = .build t parts.toArray) (hx:yd F parts=some xO) (qj:Instr.fill (pl[·]?) zs.toArray xO=some cs.toArray) :
  (execOp a.eval o).run P w = .ok (.value (.agg cs.toArray)) w:=by
 have hps:(parts.toArray.map fun(i,x)=>(i,a.eval x)).toList=xO:=by
  simp only[acd]
  exact hF.evalps hx
 simp only[xj,Program.fieldsOf,hu]at hp
 simp only[execOp,ho,Instr.build,Sem.run_bind,hz,Result.andThen_ok,Value.cells,run_underlying hu,hp,hps,qj,Sem.run_pure]
end
theorem CM{b:Bool}(h:b=true):(!b)=false:=by rw[h];rfl
theorem Gz{b:Bool}(h:b=false):(!b)=true:=by rw[h];rfl
section
variable {r:Option Nat}{P:Program}{Q:Exit→Act→World→Prop}{a:Act}{dd:List Deferred}{w:World}{n:Nat}{F:List (Nat×Value)}{L:List dw}
theorem Fr.first{G:List (Nat×Value)}{ks:List Nat}(h:Fr n F a dd)(hG:allIn F G):Fr n (G++q7 F ks) a dd :=
 h.head G ks (qJ hG)
theorem au.tail{r:dw}(h:au w (r::L)):au w L:=by
 constructor
 ·intro i s hi;exact h.hold (i+1) s hi
 ·intro i j s t hi hj hij;exact h.apart (i+1) (j+1) s t hi hj adr
theorem zZ{c:Operand}{x y:Code}{b:Bool}(hF:Fr n F a dd)(hc:ev F c=some (.bool b))(hb:b=true)(h:Wp r P x Q a w):Wp r P (.cond c x y) Q a w:=wpIn_cond_true (by rw[hF.eval hc,hb]) h
theorem zY{c:Operand}{x y:Code}{b:Bool}(hF:Fr n F a dd)(hc:ev F c=some (.bool b))(hb:b=false)(h:Wp r P y Q a w):Wp r P (.cond c x y) Q a w:=wpIn_cond_false (by rw[hF.eval hc,hb]) h
theorem JL{ops:Array Oper}{o:Oper}{g t:Nat}{want:Bool}(hF:Fr n F a dd)(hg:o.guard=some (g,want))(ht:(ops[g]?).bind (·.dst)=some t)(hc:look F t=some undef) :
  Region.wanted o (yielded ops a.tmps)=false:=by
 have:=hF.get t _ hc
 simp[Region.wanted,hg,yielded,ht,this,undef]
theorem gQ{ops:Array Oper}{o:Oper}{rest:List Oper}{d:Nat}{g t:Nat}{want:Bool}(hF:Fr n F a dd)(hg:o.guard=some (g,want))(ht:(ops[g]?).bind (·.dst)=some t)(hc:look F t=some undef)
  (hd:o.dst=some d) (hn:Nat.blt d n=true)
  (next:∀ a',Fr n ((d,undef)::F) a' dd→w9 r P ops Q rest a' w):w9 r P ops Q (o::rest) a w :=
 wpListIn_step fun _ hK=>by
  rw[aaK (by rw[JL hF hg ht hc];exact aaL)]
  exact⟨fun _ _=>trivial,hK _ _ (by rw[hd];exact next _ (hF.put hn))⟩
variable {ops:Array Oper}{T:List Nat}{C:World→Prop}{Ls:List dw}{o:Oper}{d:Nat}{v:Value}
theorem aK(hF:Fr n F a dd)(hc:chk ops=true)(i:Nat)(ho:ops[i]? = some o)(hok:Dy ops T i=true)(hg:o.guard=none)(hd:o.dst=some d)(hn:Nat.blt d n=true)
  (hr:∀ w,au w Ls→(execOp a.eval o).run P w = .ok (.value v) w) (next:∀ a',Fr n ((d,v)::F) a' dd→DW r P ops Q (i::T) (au · Ls) C a'):DW r P ops Q T (au · Ls) C a :=
 IK hc ho hok (fun w hw=>.inl ⟨by simp[Region.wanted,hg],hr w hw⟩) (by rw[hd];exact next _ (hF.put hn))
theorem cS{g t:Nat}{want c:Bool}(hF:Fr n F a dd)(hc:chk ops=true)(i:Nat)(ho:ops[i]? = some o)(hok:Dy ops T i=true)(hg:o.guard=some (g,want))(ht:(ops[g]?).bind (·.dst)=some t)(hb:look F t=some (.bool c))(hw:c=want)(hd:o.dst=some d)(hn:Nat.blt d n=true)
  (hr:∀ w,au w Ls→(execOp a.eval o).run P w = .ok (.value v) w) (next:∀ a',Fr n ((d,v)::F) a' dd→DW r P ops Q (i::T) (au · Ls) C a'):DW r P ops Q T (au · Ls) C a :=
 IK hc ho hok (fun w hx=>.inl ⟨rF hF hg ht hb hw,hr w hx⟩) (by rw[hd];exact next _ (hF.put hn))
theorem cR{g t:Nat}{want c:Bool}(hF:Fr n F a dd)(hc:chk ops=true)(i:Nat)(ho:ops[i]? = some o)(hok:Dy ops T i=true)(hg:o.guard=some (g,want))(ht:(ops[g]?).bind (·.dst)=some t)(hb:look F t=some (.bool c))(hw:c = !want)(hd:o.dst=some d)(hn:Nat.blt d n=true)
  (next:∀ a',Fr n ((d,undef)::F) a' dd→DW r P ops Q (i::T) (au · Ls) C a'):DW r P ops Q T (au · Ls) C a :=
 IK hc ho hok (fun _ _=>.inr ⟨FI hF hg ht hb hw,rfl⟩) (by rw[hd];exact next _ (hF.put hn))
theorem dI{g t:Nat}{want:Bool}(hF:Fr n F a dd)(hc:chk ops=true)(i:Nat)(ho:ops[i]? = some o)(hok:Dy ops T i=true)(hg:o.guard=some (g,want))(ht:(ops[g]?).bind (·.dst)=some t)(hb:look F t=some undef)(hd:o.dst=some d)(hn:Nat.blt d n=true)
  (next:∀ a',Fr n ((d,undef)::F) a' dd→DW r P ops Q (i::T) (au · Ls) C a'):DW r P ops Q T (au · Ls) C a :=
 IK hc ho hok (fun _ _=>.inr ⟨JL hF hg ht hb,rfl⟩) (by rw[hd];exact next _ (hF.put hn))
theorem bZ(hF:Fr n F a dd)(e:Nat)(ho:ops[e]? = some o)(hns:mf o=true)(hg:o.guard=none)(hd:o.dst=some d)(hn:Nat.blt d n=true)
  (hy:∀ w,au w Ls→au w L→Yd P o a.eval w (fun v w'=>∃ o_ L',au w' o_∧au w' L' ∧ ((∀ x,au x o_→au x Ls)∨sync ops T e=true) ∧ ∀ a',Fr n ((d,v)::F) a' dd→DW r P ops Q (e::T) (au · o_) (au · L') a')) :
  Ex r P ops Q T (au · Ls) (au · L) a e :=
 ⟨o,ho,by simp[Region.wanted,hg],hns,fun w h1 h2=>(hy w h1 h2).mono fun v w' ⟨o_,L',h3,h4,h5,h6⟩=>⟨_,_,h3,h4,h5.imp id N_,by rw[hd];exact h6 _ (hF.put hn)⟩⟩
theorem kF{g t:Nat}{want c:Bool}(hF:Fr n F a dd)(e:Nat)(ho:ops[e]? = some o)(hns:mf o=true)(hg:o.guard=some (g,want))(ht:(ops[g]?).bind (·.dst)=some t)(hb:look F t=some (.bool c))(hw:c=want)(hd:o.dst=some d)(hn:Nat.blt d n=true)
  (hy:∀ w,au w Ls→au w L→Yd P o a.eval w (fun v w'=>∃ o_ L',au w' o_∧au w' L' ∧ ((∀ x,au x o_→au x Ls)∨sync ops T e=true) ∧ ∀ a',Fr n ((d,v)::F) a' dd→DW r P ops Q (e::T) (au · o_) (au · L') a')) :
  Ex r P ops Q T (au · Ls) (au · L) a e :=
 ⟨o,ho,rF hF hg ht hb hw,hns,fun w h1 h2=>(hy w h1 h2).mono fun v w' ⟨o_,L',h3,h4,h5,h6⟩=>⟨_,_,h3,h4,h5.imp id N_,by rw[hd];exact h6 _ (hF.put hn)⟩⟩
theorem eS(e:Nat)(ho:ops[e]? = some o)(hns:mf o=true)(hg:o.guard=none)(hd:o.dst=none)
  (hy:∀ w,au w Ls→au w L→Yd P o a.eval w (fun _ w'=>∃ o_ L',au w' o_∧au w' L' ∧ ((∀ x,au x o_→au x Ls)∨sync ops T e=true)∧DW r P ops Q (e::T) (au · o_) (au · L') a)) :
  Ex r P ops Q T (au · Ls) (au · L) a e :=
 ⟨o,ho,by simp[Region.wanted,hg],hns,fun w h1 h2=>(hy w h1 h2).mono fun v w' ⟨o_,L',h3,h4,h5,h6⟩=>⟨_,_,h3,h4,h5.imp id N_,by rw[hd];exact h6⟩⟩
theorem bJ{Cs:World→Prop}(hc:chk ops=true)(e:Nat)(hb:blk ops T [e]=true)(hl:Nat.blt e ops.size=true)(hT:jw e T=false)(h:Ex r P ops Q T Cs C a e):DW r P ops Q T Cs C a :=
 NB hc [e] hb ⟨e,by simp,di hl,hT⟩ ⟨h,trivial⟩
theorem fN{Cs:World→Prop}(hc:chk ops=true)(e f:Nat)(hb:blk ops T [e,f]=true)(hl:Nat.blt e ops.size=true)(hT:jw e T=false)(h:Ex r P ops Q T Cs C a e)(h':Ex r P ops Q T Cs C a f):DW r P ops Q T Cs C a :=
 NB hc [e,f] hb ⟨e,by simp,di hl,hT⟩ ⟨h,h',trivial⟩
theorem wE{Cs:World→Prop}(hc:chk ops=true)(e f g:Nat)(hb:blk ops T [e,f,g]=true)(hl:Nat.blt e ops.size=true)(hT:jw e T=false)(h:Ex r P ops Q T Cs C a e)(h':Ex r P ops Q T Cs C a f)(h'':Ex r P ops Q T Cs C a g):DW r P ops Q T Cs C a :=
 NB hc [e,f,g] hb ⟨e,by simp,di hl,hT⟩ ⟨h,h',h'',trivial⟩
theorem dH{Cs:World→Prop}(hc:chk ops=true)(hall:vl ops T=true)(h:∀ w,au w L→Q .normal a w):DW r P ops Q T Cs (au · L) a:=Td hc hall h
end
end Go.Fw
end
section
namespace Go.Proofs
open Go.Fw
set_option maxRecDepth 20000
def ak.zero:ak:=⟨0,0,0,0⟩
def bn.zero:bn:=⟨ak.zero,⟨List.replicate 8 0,rfl⟩,0⟩
def dU.zero:dU:=⟨0,ak.zero,ak.zero⟩
def eo.zero:eo:=⟨0,bn.zero,bn.zero⟩
def bq.zero:bq:=⟨0,0,SV.nil,SV.nil⟩
def bS.zero:bS:=⟨0,0,false,SV.nil,SV.nil,SV.nil,SV.nil⟩
def br.zero:br:=⟨SV.nil,SV.nil⟩
def bg.zero:bg:=⟨br.zero,SV.nil,0⟩
def gG.zero:gG:=⟨0,0⟩
def b9.zero:b9:=⟨0,false,false,0,0,0,0,0⟩
def bh.zero:bh:=⟨0,0,SV.nil,SV.nil,SV.nil⟩
def ay.zero:ay:=⟨⟨List.replicate 11 ak.zero,rfl⟩,⟨List.replicate 32 bn.zero,rfl⟩,SV.nil,SV.nil,SV.nil,0,0,false⟩
def ez.zero:ez:=⟨0,SV.nil,SV.nil,SV.nil⟩
def gy.zero:gy:=⟨SV.nil⟩
def h_.zero:h_:=⟨SV.nil,0,0,0⟩
def g_.zero:g_:=⟨SV.nil,0,0,0⟩
def bu.zero:bu:=⟨⟨List.replicate 32 bn.zero,rfl⟩,SV.nil,SV.nil,SV.nil,SV.nil⟩
def af.zero:af:=⟨bu.zero,SV.nil,SV.nil,none,⟨List.replicate 11 ak.zero,rfl⟩,SV.nil,0,0,false⟩
def Au.zero:Au:=⟨false,0,0,0⟩
def RM.zero:RM:=⟨bh.zero,SV.nil,⟨List.replicate 11 ak.zero,rfl⟩,⟨List.replicate 256 Au.zero,rfl⟩,SV.nil,SV.nil,SV.nil,SV.nil,0,0,false⟩
def ik.zero:ik:=⟨0,0,0,false,false,0,0,0,0,0,false⟩
def dm.zero:dm:=⟨0,0,false,false⟩
def gq.zero:gq:=⟨SV.nil,dm.zero⟩
def jd.zero:jd:=⟨SV.nil⟩
def gp.zero:gp:=⟨0,0⟩
def gj.zero:gj:=⟨0,0⟩
end Go.Proofs
end
section
namespace Go.Fw
structure fg where
 least:Int
 most:Int
deriving DecidableEq
def fg.enc(x:fg):List Value:=[.int .i64 x.least,.int .i64 x.most]
theorem fg.len(x:fg):x.enc.length=2:=rfl
theorem fg.one(x:fg):∀ u∈x.enc,u.oneCell' = true:=(acx.2 ⟨rfl,(acx.2 ⟨rfl,(fun _ h=>absurd h acy)⟩)⟩)
instance:d_ fg:=⟨fg.enc,2,fg.len,fg.one,by decide⟩
theorem fg.g_least(x:fg):x.enc[0]? = some (.int .i64 x.least):=rfl
theorem fg.s_least(x:fg)(y:Int):x.enc.set 0 (.int .i64 y) = { x with least:=y }.enc:=rfl
theorem fg.g_most(x:fg):x.enc[1]? = some (.int .i64 x.most):=rfl
theorem fg.s_most(x:fg)(y:Int):x.enc.set 1 (.int .i64 y) = { x with most:=y }.enc:=(congrArg (List.cons _) rfl)
structure fM where
 from_:Int
deriving DecidableEq
def fM.enc(x:fM):List Value:=[.int .i64 x.from_]
theorem fM.len(x:fM):x.enc.length=1:=rfl
theorem fM.one(x:fM):∀ u∈x.enc,u.oneCell' = true:=(acx.2 ⟨rfl,(fun _ h=>absurd h acy)⟩)
instance:d_ fM:=⟨fM.enc,1,fM.len,fM.one,by decide⟩
theorem fM.g_from_(x:fM):x.enc[0]? = some (.int .i64 x.from_):=rfl
theorem fM.s_from_(x:fM)(y:Int):x.enc.set 0 (.int .i64 y) = { x with from_:=y }.enc:=rfl
structure dc where
 many:Int
 span:dm
deriving DecidableEq
def dc.enc(x:dc):List Value:=.int .i64 x.many::dm.enc x.span
theorem dc.len(x:dc):x.enc.length=5:=by
 have h0:(dm.enc x.span).length=4:=dm.len x.span
 simp[dc.enc,h0]
theorem dc.one(x:dc):∀ u∈x.enc,u.oneCell' = true:=(acx.2 ⟨rfl,(dm.one x.span)⟩)
instance:d_ dc:=⟨dc.enc,5,dc.len,dc.one,by decide⟩
theorem dc.g_many(x:dc):x.enc[0]? = some (.int .i64 x.many):=rfl
theorem dc.s_many(x:dc)(y:Int):x.enc.set 0 (.int .i64 y) = { x with many:=y }.enc:=rfl
theorem dc.c_span(x:dc):cut x.enc 1 4=x.span.enc:=(iI (o:=0) (cD (n:=4) (dm.len x.span)))
theorem dc.p_span(x:dc)(y:dm):put x.enc 1 (y.enc) = { x with span:=y }.enc:=(iM (o:=0) (bF (Eq.trans (b:=4) (dm.len x.span) (Eq.symm (dm.len y)))))
end Go.Fw
namespace Go.Proofs
open Go.Fw
def fg.zero:fg:=⟨0,0⟩
def fM.zero:fM:=⟨0⟩
def dc.zero:dc:=⟨0,dm.zero⟩
end Go.Proofs
end
section
namespace Go.Fw
abbrev ai{X:Type}[d_ X](lo:Nat)(s:SV)(e:TypeId)(l:List X):dw:=.row lo s.v e (d_.sz X) l.length (encs l)
abbrev Own{X:Type}[d_ X](lo:Nat)(w:World)(e:TypeId)(s:SV)(l:List X):Prop:=w.ownsRow lo e (d_.sz X) s.v l.length (encs l)
theorem Own.nil{X:Type}[d_ X](lo:Nat)(w:World)(e:TypeId):Own lo w e SV.nil ([]:List X):=World.ownsRow_nil w lo e (d_.sz X)
theorem Own.len{X:Type}[d_ X]{lo e:Nat}{w:World}{s:SV}{l:List X}(h:Own lo w e s l):s.len=l.length:=by
 rcases h.2 with⟨h1,h2⟩|⟨g,cap,cur,h1,_⟩
 ·obtain⟨a,b,c⟩:=s;cases h1;exact h2.symm
 ·obtain⟨a,b,c⟩:=s;cases h1;rfl
theorem Own.slice{X:Type}[d_ X]{lo e:Nat}{w:World}{s:SV}{l:List X}(h:Own lo w e s l):cH lo w s l:=by
 refine⟨h.len,?_,?_⟩
 ·rcases h.2 with⟨h1,h2⟩|⟨g,cap,cur,h1,h3,h4,h5,h6,h7,h8⟩
  ·obtain⟨a,b,c⟩:=s;cases h1;exact aah _
  ·obtain⟨a,b,c⟩:=s;cases h1;exact h5
 rcases h.2 with⟨h1,h2⟩|⟨g,cap,cur,h1,h3,h4,h5,h6,h7,h8⟩
 ·obtain⟨a,b,c⟩:=s;cases h1
  exact⟨abd h2,rfl⟩
 ·obtain⟨a,b,c⟩:=s;cases h1
  refine⟨.inr rfl,h3,fun j v hv=>?_⟩
  rw[←h8,aaG]at hv
  split at hv
  ·simp only[acr,World.cell?,h4]
   simpa using hv
  ·cases hv
theorem Own.now{X:Type}[d_ X]{lo lo' e:Nat}{S:List Nat}{w1 w:World}{s:SV}{l:List X}(h:Own lo w1 e s l)(hs:Same lo' S w1 w)(hlo:lo' ≤ lo)(hS:∀ b∈S,b<lo):Own lo w e s l:=by
 refine⟨h.1,?_⟩
 rcases h.2 with h1|⟨g,cap,cur,h1,h3,h4,r⟩
 ·exact .inl h1
 ·refine .inr ⟨g,cap,cur,h1,h3,?_,r⟩
  rw[hs.block g adr (aak.1 h4).1 (fun hm=>by have:=hS g hm;omega)]
  exact h4
theorem Own.keep{X:Type}[d_ X]{lo e:Nat}{w w':World}{s:SV}{l:List X}(h:Own lo w e s l)(k:gw [] w w'):Own lo w' e s l :=
 h.now (lo':=0) (S:=[]) ⟨k.size,fun j _ hj _=>k.block j hj (by simp)⟩ (aaF _) (by simp)
theorem Own.mono{X:Type}[d_ X]{lo lo' e:Nat}{w:World}{s:SV}{l:List X}(h:Own lo w e s l)(hl:lo' ≤ lo):Own lo' w e s l:=by
 refine⟨h.1,?_⟩
 rcases h.2 with h1|⟨g,cap,cur,h1,h3,r⟩
 ·exact .inl h1
 ·exact .inr ⟨g,cap,cur,h1,adr,r⟩
section
variable {w w':World}{L:List dw}
theorem au.rowNil(h:au w L){X:Type}[d_ X](lo e:Nat):au w (ai lo SV.nil e ([]:List X)::L) :=
 h.add (gw.refl w) (Own.nil lo w e) fun j hj=>by simp[dw.fp,Value.ownBlock]at hj
theorem au.own(h:au w L){X:Type}[d_ X]{i lo e:Nat}{s:SV}{l:List X}(hi:L[i]? = some (ai lo s e l)):Own lo w e s l:=h.row hi
theorem au.rowS(h:au w L){X:Type}[d_ X]{i lo e:Nat}{s:SV}{l:List X}(hi:L[i]? = some (ai lo s e l)):cH lo w s l:=Own.slice (h.own hi)
theorem au.ptS(h:au w L){X:Type}[d_ X]{i b e n c:Nat}{l:List X}{cs:List Value}(hi:L[i]? = some (pt b cs e))(hc:cs=encs l)(hn:n=l.length)(hcap:n≤c):cH b w ⟨some ⟨b,0,none⟩,n,c⟩ l:=by
 subst hc hn
 exact⟨rfl,hcap,.inr rfl,aah _,fun j v hv=>Gs (h.obj hi) (by rw[acr];exact hv)⟩
end
section
variable {P:Program}{n:Nat}{F:List (Nat×Value)}{a:Act}{dd:List Deferred}{w:World}{o:Oper}{J:Value→World→Prop}
theorem GQ{X:Type}[d_ X]{x y:Operand}{t e lo lo' bytes:Nat}{s sx:SV}{xs l:List X}{i:TypeInfo}{z:Value}(ht:P.underlying t=some (.slice e))(hi:P.info? e=some i)(hz:i.zero=some z)
  (hsize:i.size=d_.sz X) (An:i.bytes=bytes) (vg:z.cells.size=d_.sz X)
  (hF:Fr n F a dd) (ho:o.op = .call { callee:=.builtin .append,args:=#[x,y],argTypes:=#[t,t] }) (hx:ev F x=some s.v) (hy:ev F y=some sx.v)
  (hown:Own lo w e s xs) (hsx:cH lo' w sx l) (hb:(xs.length+l.length)*bytes≤140737488355328∧xs.length+l.length≤4611686018427387904) (hlo:lo≤w.heap.size)
  (next:∀ (s':SV) w',oc (ai lo s e xs) (ai lo s' e (xs++l)) w w' → s'.len=(xs++l).length→J s'.v w'):Yd P o a.eval w J:=by
 refine X2 ht hi hz hsize An vg hF ho hx hy hown hsx (by simp only[maxLen];omega) hb.1 hlo fun s' w' hU hl=>next s' w' ?_ (by rw[hl,ach])
 rw[←ach,←dW]at hU
 exact hU
theorem bL{X:Type}[d_ X]{t e:Nat}{x:Operand}{y:X}{v:Value}{ie:TypeInfo}{z:Value}(hu:P.underlying t=some (.slice e))(hie:P.info? e=some ie)(hz:ie.zero=some z)(hs:ie.size=d_.sz X)(vg:z.cells.size=d_.sz X)
  (E2:Nat.ble (1*d_.sz X) 16777216=true) (hF:Fr n F a dd) (ho:o.op = .buildSlice t 1 #[(0,x)]) (hx:ev F x=some v) (hv:v.cells=(d_.enc y).toArray)
  (next:∀ b w',w.heap.size=b→iy (pt b (encs [y]) e) w w' → J (SV.v ⟨some ⟨b,0,none⟩,1,1⟩) w'):Yd P o a.eval w J:=by
 have hpos:=d_.pos (X:=X)
 refine xE (parts:=[(0,x)]) (xO:=[(0,v)]) (cs:=encs [y]) hu hie hz hs hF ho (by simp[yd,hx]) E2 (by cases h:d_.sz X with|zero=>omega|succ k=>rw[acJ];rfl) ?_ next
 have hlen:(d_.enc y).length=d_.sz X:=d_.len y
 have hz0:((Array.range (1*d_.sz X)).map (z.cells[· % z.cells.size]!))=(((Array.range (1*d_.sz X)).map (z.cells[· % z.cells.size]!)).toList).toArray:=(acK).symm
 rw[hz0]
 generalize hL:((Array.range (1*d_.sz X)).map (z.cells[· % z.cells.size]!)).toList=zl
 have I_:zl.length=d_.sz X:=by rw[←hL];simp
 have qj:Instr.fill (fun i=>some (i*d_.sz X,d_.sz X)) zl.toArray ((0,v) :: [])=some ((d_.enc y)).toArray:=by
  have hf:=pB (d_.enc y) 0 0 zl adr
  simp only[ab_]at hf
  simp only[Instr.fill,hv,aca,hlen,ne_eq,not_true_eq_false,decide_false,acG,acj,acr,I_,ab4,gt_iff_lt,abQ,if_false]
  rw[←acH,acI]
  simp only[acr]at hf
  simp only[hf,bF (I_.trans hlen.symm)]
 rw[qj,wG]
end
end Go.Fw
end
section
namespace Go.Fw
structure bw{A B:Type}(R:A→B→Prop)(hs:List A)(l:List B):Prop where
 len:hs.length=l.length
 at_:∀ (i:Nat) h p,hs[i]? = some h→l[i]? = some p→R h p
theorem bw.nil{A B:Type}{R:A→B→Prop}:bw R ([]:List A) ([]:List B):=⟨rfl,fun i h p hh=>by simp at hh⟩
theorem bw.mono{A B:Type}{R R':A→B→Prop}{hs:List A}{l:List B}(h:bw R hs l)(k:∀ x y,R x y→R' x y):bw R' hs l:=⟨h.len,fun i x y hx hy=>k x y (h.at_ i x y hx hy)⟩
theorem bw.snoc{A B:Type}{R:A→B→Prop}{hs:List A}{l:List B}{x:A}{y:B}(h:bw R hs l)(k:R x y):bw R (hs ++ [x]) (l ++ [y]):=by
 refine⟨by simp[h.len],fun i a b ha hb=>?_⟩
 by_cases hi:i<hs.length
 ·rw[abk hi]at ha
  rw[abk (by rw[←h.len];exact hi)]at hb
  exact h.at_ i a b ha hb
 ·rw[abl adr]at ha
  rw[abl (by rw[←h.len];omega)]at hb
  have hi0:i-hs.length=0:=by
   have:=(aaz.1 ha).1
   simp at this;omega
  rw[←h.len]at hb
  rw[hi0]at ha hb
  simp at ha hb
  subst ha hb
  exact k
theorem bw.append{A B:Type}{R:A→B→Prop}{hs hs':List A}{l l':List B}(h:bw R hs l)(k:bw R hs' l'):bw R (hs++hs') (l++l'):=by
 refine⟨by simp[h.len,k.len],fun i a b ha hb=>?_⟩
 by_cases hi:i<hs.length
 ·rw[abk hi]at ha
  rw[abk (by rw[←h.len];exact hi)]at hb
  exact h.at_ i a b ha hb
 ·rw[abl adr]at ha
  rw[abl (by rw[←h.len];omega)]at hb
  rw[←h.len]at hb
  exact k.at_ _ a b ha hb
theorem bw.get{A B:Type}{R:A→B→Prop}{hs:List A}{l:List B}(h:bw R hs l){i:Nat}(hi:i<l.length):∃ x y,hs[i]? = some x∧l[i]? = some y∧R x y:=by
 have h1:=aa9 (l:=hs) (i:=i) (by rw[h.len];exact hi)
 have h2:=aa9 (l:=l) (i:=i) hi
 exact⟨_,_,h1,h2,h.at_ i _ _ h1 h2⟩
theorem bw.take{A B:Type}{R:A→B→Prop}{hs:List A}{l:List B}(h:bw R hs l)(n:Nat):bw R (hs.take n) (l.take n):=by
 refine⟨by simp[h.len],fun i a b ha hb=>?_⟩
 rw[aaG]at ha hb
 split at ha
 ·rename_i hi;rw[aaJ hi]at hb;exact h.at_ i a b ha hb
 ·cases ha
theorem bw.set{A B:Type}{R:A→B→Prop}{hs:List A}{l:List B}{x:A}{y:B}(h:bw R hs l)(i:Nat)(k:R x y):bw R (hs.set i x) (l.set i y):=by
 refine⟨by simp[h.len],fun j a b ha hb=>?_⟩
 by_cases hij:i=j
 ·subst hij
  rw[List.getElem?_set_self']at ha hb
  cases h1:hs[i]? with
  | none=>simp[h1]at ha
  | some _=>cases h2:l[i]? with
   | none=>simp[h2]at hb
   | some _=>simp[h1]at ha;simp[h2]at hb;subst ha hb;exact k
 ·rw[aaA hij]at ha hb;exact h.at_ j a b ha hb
structure vt{X:Type}[d_ X](lo:Nat)(w:World)(s:SV)(l:List X):Prop where
 sl:cH lo w s l
 big:l.length≤4294967296
structure vd{X Y:Type}[d_ X](R:Nat→World→X→Y→Prop)(lo:Nat)(w:World)(s:SV)(hs:List X)(l:List Y):Prop where
 sl:cH lo w s hs
 big:l.length≤4294967296
 each:bw (R lo w) hs l
abbrev Jk:=vd (X:=SV) (Y:=List UInt8) vt
structure Jo where
 b_:List UInt8
 tabs:List (List UInt8)
deriving DecidableEq
structure x7 where
 bk:Vec ak 11
 bp:Vec bn 32
 b_:List UInt8
 tabs:List (List UInt8)
 bf:List Int
 at_:Int
 steps:Int
 done:Bool
deriving DecidableEq
structure vx where
 table:Int
 from_:Int
 old:List UInt8
 new:List UInt8
deriving DecidableEq
structure zb where
 at_:Int
 next:Int
 done:Bool
 bk:List dU
 slots:List eo
 dE:List vx
 bf:List Int
deriving DecidableEq
structure EJ where
 inp:Jo
 cj:List zb
 end_:Int
deriving DecidableEq
structure w_(lo:Nat)(w:World)(x:br)(p:Jo):Prop where
 b_:vt lo w x.b_ p.b_
 tabs:∃ hs,Jk lo w x.ah hs p.tabs
structure lD(lo:Nat)(w:World)(x:bq)(p:vx):Prop where
 table:x.table=p.table
 from_:x.from_=p.from_
 old:vt lo w x.old p.old
 new:vt lo w x.new p.new
structure yb(lo:Nat)(w:World)(x:ay)(p:x7):Prop where
 bk:x.bk=p.bk
 bp:x.bp=p.bp
 b_:vt lo w x.b_ p.b_
 tabs:∃ hs,Jk lo w x.ah hs p.tabs
 bf:vt lo w x.bf p.bf
 at_:x.at_=p.at_
 steps:x.steps=p.steps
 done:x.done=p.done
structure oy(lo:Nat)(w:World)(x:bS)(p:zb):Prop where
 at_:x.at_=p.at_
 next:x.next=p.next
 done:x.done=p.done
 bk:vt lo w x.bk p.bk
 slots:vt lo w x.slots p.slots
 dE:∃ hs,vd lD lo w x.dE hs p.dE
 bf:vt lo w x.bf p.bf
structure ru(lo:Nat)(w:World)(x:bg)(p:EJ):Prop where
 inp:w_ lo w x.iz p.inp
 cj:∃ hs,vd oy lo w x.cj hs p.cj
 end_:x.end_=p.end_
section
variable {lo lo':Nat}{S:List Nat}{w1 w w':World}
theorem vt.nil{X:Type}[d_ X](lo:Nat)(w:World):vt lo w SV.nil ([]:List X):=⟨cH.nil lo w,by simp⟩
theorem vt.now{X:Type}[d_ X]{s:SV}{l:List X}(h:vt lo w1 s l)(hs:Same lo' S w1 w)(hlo:lo' ≤ lo)(hS:∀ b∈S,b<lo):vt lo w s l:=⟨h.sl.now hs hlo hS,h.big⟩
theorem vd.now{X Y:Type}[d_ X]{R:Nat→World→X→Y→Prop}(hR:∀ x y,R lo w1 x y→R lo w x y){s:SV}{hs:List X}{l:List Y}(h:vd R lo w1 s hs l)(E2:Same lo' S w1 w)(hlo:lo' ≤ lo)(hS:∀ b∈S,b<lo):vd R lo w s hs l :=
 ⟨h.sl.now E2 hlo hS,h.big,h.each.mono hR⟩
theorem w_.now{x:br}{p:Jo}(h:w_ lo w1 x p)(hs:Same lo' S w1 w)(hlo:lo' ≤ lo)(hS:∀ b∈S,b<lo):w_ lo w x p :=
 ⟨h.b_.now hs hlo hS,h.tabs.imp fun _ k=>k.now (fun _ _ q=>q.now hs hlo hS) hs hlo hS⟩
theorem lD.now{x:bq}{p:vx}(h:lD lo w1 x p)(hs:Same lo' S w1 w)(hlo:lo' ≤ lo)(hS:∀ b∈S,b<lo):lD lo w x p :=
 ⟨h.table,h.from_,h.old.now hs hlo hS,h.new.now hs hlo hS⟩
theorem yb.now{x:ay}{p:x7}(h:yb lo w1 x p)(hs:Same lo' S w1 w)(hlo:lo' ≤ lo)(hS:∀ b∈S,b<lo):yb lo w x p :=
 ⟨h.bk,h.bp,h.b_.now hs hlo hS,h.tabs.imp fun _ k=>k.now (fun _ _ q=>q.now hs hlo hS) hs hlo hS,h.bf.now hs hlo hS,h.at_,h.steps,h.done⟩
theorem oy.now{x:bS}{p:zb}(h:oy lo w1 x p)(hs:Same lo' S w1 w)(hlo:lo' ≤ lo)(hS:∀ b∈S,b<lo):oy lo w x p :=
 ⟨h.at_,h.next,h.done,h.bk.now hs hlo hS,h.slots.now hs hlo hS,h.dE.imp fun _ k=>k.now (fun _ _ q=>q.now hs hlo hS) hs hlo hS,h.bf.now hs hlo hS⟩
theorem ru.now{x:bg}{p:EJ}(h:ru lo w1 x p)(hs:Same lo' S w1 w)(hlo:lo' ≤ lo)(hS:∀ b∈S,b<lo):ru lo w x p :=
 ⟨h.inp.now hs hlo hS,h.cj.imp fun _ k=>k.now (fun _ _ q=>q.now hs hlo hS) hs hlo hS,h.end_⟩
theorem vt.mono{X:Type}[d_ X]{s:SV}{l:List X}(h:vt lo w s l)(hl:lo' ≤ lo):vt lo' w s l:=⟨h.sl.mono hl,h.big⟩
theorem vd.mono{X Y:Type}[d_ X]{R:Nat→World→X→Y→Prop}(hR:∀ x y,R lo w x y→R lo' w x y){s:SV}{hs:List X}{l:List Y}(h:vd R lo w s hs l)(hl:lo' ≤ lo):vd R lo' w s hs l:=⟨h.sl.mono hl,h.big,h.each.mono hR⟩
theorem w_.mono{x:br}{p:Jo}(h:w_ lo w x p)(hl:lo' ≤ lo):w_ lo' w x p:=⟨h.b_.mono hl,h.tabs.imp fun _ k=>k.mono (fun _ _ q=>q.mono hl) hl⟩
theorem lD.mono{x:bq}{p:vx}(h:lD lo w x p)(hl:lo' ≤ lo):lD lo' w x p:=⟨h.table,h.from_,h.old.mono hl,h.new.mono hl⟩
theorem yb.mono{x:ay}{p:x7}(h:yb lo w x p)(hl:lo' ≤ lo):yb lo' w x p :=
 ⟨h.bk,h.bp,h.b_.mono hl,h.tabs.imp fun _ k=>k.mono (fun _ _ q=>q.mono hl) hl,h.bf.mono hl,h.at_,h.steps,h.done⟩
theorem oy.mono{x:bS}{p:zb}(h:oy lo w x p)(hl:lo' ≤ lo):oy lo' w x p :=
 ⟨h.at_,h.next,h.done,h.bk.mono hl,h.slots.mono hl,h.dE.imp fun _ k=>k.mono (fun _ _ q=>q.mono hl) hl,h.bf.mono hl⟩
theorem ru.mono{x:bg}{p:EJ}(h:ru lo w x p)(hl:lo' ≤ lo):ru lo' w x p:=⟨h.inp.mono hl,h.cj.imp fun _ k=>k.mono (fun _ _ q=>q.mono hl) hl,h.end_⟩
theorem gw.same(k:gw [] w w'):Same 0 [] w w':=⟨k.size,fun j _ hj _=>k.block j hj (by simp)⟩
theorem vt.keep{X:Type}[d_ X]{s:SV}{l:List X}(h:vt lo w s l)(k:gw [] w w'):vt lo w' s l:=h.now k.same (aaF _) (by simp)
theorem vd.keep{X Y:Type}[d_ X]{R:Nat→World→X→Y→Prop}(hR:∀ x y,R lo w x y→R lo w' x y){s:SV}{hs:List X}{l:List Y}(h:vd R lo w s hs l)(k:gw [] w w'):vd R lo w' s hs l:=h.now hR k.same (aaF _) (by simp)
theorem w_.keep{x:br}{p:Jo}(h:w_ lo w x p)(k:gw [] w w'):w_ lo w' x p:=h.now k.same (aaF _) (by simp)
theorem lD.keep{x:bq}{p:vx}(h:lD lo w x p)(k:gw [] w w'):lD lo w' x p:=h.now k.same (aaF _) (by simp)
theorem yb.keep{x:ay}{p:x7}(h:yb lo w x p)(k:gw [] w w'):yb lo w' x p:=h.now k.same (aaF _) (by simp)
theorem oy.keep{x:bS}{p:zb}(h:oy lo w x p)(k:gw [] w w'):oy lo w' x p:=h.now k.same (aaF _) (by simp)
theorem ru.keep{x:bg}{p:EJ}(h:ru lo w x p)(k:gw [] w w'):ru lo w' x p:=h.now k.same (aaF _) (by simp)
end
end Go.Fw
end
