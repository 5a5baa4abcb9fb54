/- Ground for the claim TraceSends. -/
import Derived.Great.BuildSlice
import Derived.Test.YtmgnkohlfbjjnaaGreatRSe1
set_option linter.unusedVariables false
set_option linter.unusedSimpArgs false
section
namespace Go.Fw
structure iz(r:di)(w w':World):Prop where
 keeps:gw [] w w'
 holds:r.holds w'
 fp:∀ k,r.fp k→w.heap.size≤k
theorem au.plus{w w':World}{L:List di}{r:di}(h:au w L)(k:iz r w w'):au w' (r::L):=h.add k.keeps k.holds k.fp
structure oa(r r':di)(w w':World):Prop where
 io:Io w w'
 size:w.heap.size≤w'.heap.size
 block:∀ k,k<w.heap.size → ¬ r.fp k→w'.heap[k]? = w.heap[k]?
 holds:r'.holds w'
 fp:∀ k,r'.fp k→r.fp k∨w.heap.size≤k
theorem au.chg{w w':World}{L:List di}{r r':di}(h:au w L)(k:oa r r' w w'){i:Nat}(hi:L[i]? = some r):au w' (L.set i r') :=
 h.upd i hi k.io k.size k.block k.holds k.fp
theorem gw.alloc(w:World)(o:Obj):gw [] w (w.alloc o) :=
 ⟨⟨rfl,rfl,rfl⟩,by simp,fun k hk _=>RowKit.Below.heap_alloc w o k hk⟩
theorem iz.alloc(w:World)(o:Obj):iz (.obj w.heap.size o) w (w.alloc o) :=
 ⟨gw.alloc w o,heap_alloc_new w o,fun k hk=>by simp only[di.fp]at hk;omega⟩
theorem gw.drew{w:World}:gw [] w w.drew:=⟨⟨rfl,rfl,rfl⟩,aal _,fun _ _ _=>rfl⟩
theorem au.drew{w:World}{L:List di}(h:au w L):au w.drew L:=h.keep gw.drew
theorem oa.setRow{w:World}{b:Nat}{cs cs':List Value}{T:TypeId}(hb:w.heap[b]? = some (.cells cs.toArray T (0,0))) :
  oa (pt b cs T) (pt b cs' T) w (w.setRow b cs'.toArray) :=
 ⟨⟨rfl,rfl,rfl⟩,by simp[World.setRow],fun k _ hf=>setRow_other w b k _ hf,setRow_heap w b cs.toArray cs'.toArray T _ hb,fun _ hk=>.inl hk⟩
def put{α:Type}(l:List α)(off:Nat)(vs:List α):List α:=l.take off++vs++l.drop (off+vs.length)
section
variable {P:Program}{n:Nat}{F:List (Nat×Value)}{a:Act}{dd:List Deferred}{w:World}{o:Oper}{J:Value→World→Prop}
theorem bK{e:TypeId}{z:Value}{zs:List Value}(hz:∀ w,(zeroValue e).run P w = .ok z w)(tg:z.cells=zs.toArray)(ho:o.op = .alloc e)
  (next:∀ b w',w.heap.size=b→iz (pt b zs e) w w' → J (.pointer (some ⟨b,0,none⟩)) w'):Yd P o a.eval w J:=by
 have h:=next w.heap.size (w.alloc (.cells zs.toArray e (0,0))) rfl (iz.alloc w _)
 unfold Yd
 simp only[execOp,ho,Instr.alloc,newVar,newRow,Sem.run_bind,hz,Result.andThen_ok,run_newObj,Sem.run_pure,tg]
 exact h
theorem gE{e:TypeId}{x:Operand}{v:Value}{zs:List Value}(hF:Fr n F a dd)(hx:ev F x=some v)(tg:v.cells=zs.toArray)(ho:o.op = .box e x)
  (next:∀ b w',w.heap.size=b→iz (pt b zs e) w w' → J (.pointer (some ⟨b,0,none⟩)) w'):Yd P o a.eval w J:=by
 have h:=next w.heap.size (w.alloc (.cells zs.toArray e (0,0))) rfl (iz.alloc w _)
 unfold Yd
 simp only[execOp,ho,hF.eval hx,Instr.box,newVar,newRow,Sem.run_bind,Result.andThen_ok,run_newObj,Sem.run_pure,tg]
 exact h
theorem aU{t T:TypeId}{x y:Operand}{b off sz:Nat}{v:Value}{vs cs cs':List Value}(hs:∀ w,(sizeOf t).run P w = .ok sz w)(hb:w.heap[b]? = some (.cells cs.toArray T (0,0)))(hF:Fr n F a dd)(ho:o.op = .store t x y)
  (hx:ev F x=some (.pointer (some ⟨b,off,none⟩))) (hy:ev F y=some v) (hv:v.cells=vs.toArray) (hl:vs.length=sz) (h1:∀ u∈vs,u.oneCell' = true) (hle:off+vs.length≤cs.length) (oe:put cs off vs=cs')
  (next:∀ w',oa (pt b cs T) (pt b cs' T) w w' → J undef w'):Yd P o a.eval w J:=by
 subst oe hl
 have h:=next _ (oa.setRow (cs':=put cs off vs) hb)
 have hst:=run_storeCells_at P b off T vs 0 cs.toArray w hb (by simpa using hle) h1
 simp only[abX]at hst
 unfold Yd
 simp only[execOp,ho,hF.eval hx,hF.eval hy,Instr.storeAt,Instr.sureAddr,storeVar,Sem.run_bind,Sem.run_pure,Result.andThen_ok,hs,hv,abY,ne_eq,not_true_eq_false,if_false,hst]
 simpa[put]using h
theorem bQ{t T:TypeId}{x y:Operand}{b off:Nat}{v:Value}{cs cs':List Value}(hs:∀ w,(sizeOf t).run P w = .ok 1 w)(hb:w.heap[b]? = some (.cells cs.toArray T (0,0)))(hF:Fr n F a dd)(ho:o.op = .store t x y)
  (hx:ev F x=some (.pointer (some ⟨b,off,none⟩))) (hy:ev F y=some v) (h1:v.oneCell' = true) (hlt:off<cs.length) (oe:cs.set off v=cs')
  (next:∀ w',oa (pt b cs T) (pt b cs' T) w w' → J undef w'):Yd P o a.eval w J:=by
 have hc:v.cells = #[v]:=by cases v<;>first|rfl|cases h1
 refine aU hs hb hF ho hx hy (vs:=[v]) hc rfl (by simpa using h1) (by simp;omega) ?_ next
 rw[←oe,abZ,aay hlt]
 simp[put]
theorem xD{t e sz len:Nat}{parts:List (Nat×Operand)}{vM:List (Nat×Value)}{cs:List Value}{ie:TypeInfo}{z:Value}(hu:P.underlying t=some (.slice e))(hie:P.info? e=some ie)(hz:ie.zero=some z)(hs:ie.size=sz)
  (hF:Fr n F a dd) (ho:o.op = .buildSlice t len parts.toArray) (hp:wu F parts=some vM) (EU:Nat.ble (len*sz) 16777216=true) (hpos:Nat.beq (len*sz) 0=false)
  (po:Instr.fill (fun i=>some (i*sz,sz)) ((Array.range (len*sz)).map (z.cells[· % z.cells.size]!)) vM=some cs.toArray)
  (next:∀ b w',w.heap.size=b→iz (pt b cs e) w w' → J (.slice (some ⟨b,0,none⟩) len len) w'):Yd P o a.eval w J:=by
 subst hs
 have h:=next w.heap.size (w.alloc (.cells cs.toArray e (0,0))) rfl (iz.alloc w _)
 have Nh:¬ len*ie.size>2^24:=by have:=aae EU;omega
 have Ir:¬ len*ie.size=0:=fun e=>by rw[e]at hpos;cases hpos
 have hps:(parts.toArray.map fun(i,x)=>(i,a.eval x)).toList=vM:=by
  simp only[ab0]
  exact hF.evalps hp
 have hr:=run_buildSlice (P:=P) w t e len (parts.toArray.map fun(i,x)=>(i,a.eval x)) cs.toArray ie z hu hie hz Nh Ir (by rw[hps];exact po)
 unfold Yd
 simp only[execOp,ho,Sem.run_bind,hr,Result.andThen_ok,Sem.run_pure]
 exact h
theorem aS{f:FuncId}{xs:List Operand}{ts:Array TypeId}{vs:List Value}{R:Value→World→Prop}(hcall:∀ args w,(callFunc f args).run P w = .ok (.enter f args) w)(hF:Fr n F a dd)
  (ho:o.op = .call { callee:=.value (.func f),args:=xs.toArray,argTypes:=ts }) (hx:evs F xs=some vs) (hc:Calls P f vs.toArray w (fZ R)) (next:∀ v w',R v w' → J v w'):Yd P o a.eval w J:=by
 unfold Yd
 simp only[execOp,ho,resolve,Act.eval,Deferred.ofValue,invoke,Sem.run_bind,Sem.run_pure,Result.andThen_ok,ab0,hF.evals hx,ab1,ab2,hcall]
 exact Calls.mono hc fun e w' he=>by cases e<;>first|exact next _ _ he|exact he
theorem dQ{f:FuncId}{x:Operand}{xs:List Operand}{ts:Array TypeId}{fs cs vs:List Value}{R:Value→World→Prop}(hcall:∀ args w,(callFunc f args).run P w = .ok (.enter f args) w)(hF:Fr n F a dd)
  (ho:o.op = .call { callee:=.value x,args:=xs.toArray,argTypes:=ts }) (hf:ev F x=some (.func (.func f) fs.toArray cs.toArray)) (hx:evs F xs=some vs) (hc:Calls P f (fs++vs++cs).toArray w (fZ R)) (next:∀ v w',R v w' → J v w'):Yd P o a.eval w J:=by
 unfold Yd
 simp only[execOp,ho,resolve,hF.eval hf,Deferred.ofValue,invoke,Sem.run_bind,Sem.run_pure,Result.andThen_ok,ab0,hF.evals hx,ab3,hcall]
 exact Calls.mono hc fun e w' he=>by cases e<;>first|exact next _ _ he|exact he
end
class du(X:Type) where
 enc:X→List Value
 sz:Nat
 len:∀ x,(enc x).length=sz
 one:∀ x,∀ u∈enc x,u.oneCell' = true
 pos:0<sz
def encs{X:Type}[du X](l:List X):List Value:=l.flatMap du.enc
theorem jS{X:Type}[du X]:encs ([]:List X) = []:=rfl
theorem kE{X:Type}[du X](x:X)(l:List X):encs (x::l)=du.enc x++encs l:=by simp[encs]
theorem dY{X:Type}[du X](l m:List X):encs (l++m)=encs l++encs m:=by simp[encs]
theorem wB{X:Type}[du X](x:X):encs [x]=du.enc x:=by simp[encs]
theorem dN{X:Type}[du X](l:List X):(encs l).length=l.length*du.sz X:=by
 induction l with
 | nil=>simp[encs]
 | cons x l ih=>rw[kE,abT,du.len,ih,abm,ab4];omega
theorem fA{X:Type}[du X](l:List X):∀ u∈encs l,u.oneCell' = true:=by
 intro u hu
 simp only[encs,aaT]at hu
 obtain⟨x,_,hx⟩:=hu
 exact du.one x u hx
theorem kV{X:Type}[du X](l:List X)(i:Nat)(x:X)(h:l[i]? = some x):cut (encs l) (i*du.sz X) (du.sz X)=du.enc x:=by
 induction l generalizing i with
 | nil=>simp at h
 | cons y l ih =>
  rw[kE]
  cases i with
  | zero =>
   simp at h;subst h
   simp only[cut,ab5,ab6]
   rw[ab7 (by rw[du.len];exact aal _),abW (by rw[du.len];exact aal _)]
  | succ i =>
   simp at h
   have:=ih i h
   simp only[cut]at this ⊢
   rw[show(i+1)*du.sz X=(du.enc y).length+i*du.sz X by rw[du.len,ab4];omega,ab8]
   exact this
structure cg{X:Type}[du X](lo:Nat)(w:World)(s:SV)(l:List X):Prop where
 len:s.len=l.length
 room:s.len≤s.cap
 cells:match s.a with
  | none=>l = []∧s.cap=0
  | some ad=>(l = []∨ad.spot=none)∧lo≤ad.block∧i_ w ad.block ad.off (encs l)
theorem cg.nil{X:Type}[du X](lo:Nat)(w:World):cg lo w SV.nil ([]:List X):=⟨rfl,aal _,rfl,rfl⟩
theorem cg.mono{X:Type}[du X]{lo lo':Nat}{w:World}{s:SV}{l:List X}(h:cg lo w s l)(hl:lo' ≤ lo):cg lo' w s l:=by
 refine⟨h.len,h.room,?_⟩
 have:=h.cells
 split at this
 ·rename_i e;simpa[e]using this
 ·rename_i ad e;obtain⟨h1,h2,h3⟩:=this;exact⟨h1,ac_,h3⟩
theorem cg.now{X:Type}[du X]{lo lo':Nat}{S:List Nat}{w1 w:World}{s:SV}{l:List X}(h:cg lo w1 s l)(hs:Same lo' S w1 w)(hlo:lo' ≤ lo)(hS:∀ b∈S,b<lo):cg lo w s l:=by
 refine⟨h.len,h.room,?_⟩
 have:=h.cells
 split at this
 ·rename_i e;simpa[e]using this
 ·rename_i ad e
  obtain⟨h1,h2,h3⟩:=this
  exact⟨h1,h2,hs.cells h3 ac_ fun hm=>by have:=hS _ hm;omega⟩
theorem cg.keep{X:Type}[du X]{lo:Nat}{w w':World}{s:SV}{l:List X}(h:cg lo w s l)(k:gw [] w w'):cg lo w' s l :=
 h.now (lo':=0) (S:=[]) ⟨k.size,fun j _ hj _=>k.block j hj (by simp)⟩ (aau _) (by simp)
def SV.blk(s:SV):Nat:=match s.a with|some ad=>ad.block|none=>0
def SV.off(s:SV):Nat:=match s.a with|some ad=>ad.off|none=>0
theorem cg.elemS{X:Type}[du X]{lo i:Nat}{w:World}{s:SV}{l:List X}{x:X}(h:cg lo w s l)(hx:l[i]? = some x):i_ w s.blk (s.off+i*du.sz X) (du.enc x):=by
 have hc:=h.cells
 unfold SV.blk SV.off
 split at hc
 ·rename_i e
  rw[hc.1]at hx;simp at hx
 ·rename_i ad e
  obtain⟨_,_,hc⟩:=hc
  simp only[e]
  intro j v hv
  rw[←kV l i x hx]at hv
  obtain⟨_,h2⟩:=oC _ _ _ _ _ hv
  have:=hc _ _ h2
  rwa [←aaY]at this
theorem cg.addrS{X:Type}[du X]{lo i:Nat}{w:World}{s:SV}{l:List X}(h:cg lo w s l)(hi:i<l.length):s.v = .slice (some ⟨s.blk,s.off,none⟩) l.length s.cap:=by
 have hc:=h.cells
 have hl:=h.len
 obtain⟨sa,sl,sc⟩:=s
 cases sa with
 | none=>have:=hc.1;subst this;simp at hi
 | some ad =>
  obtain⟨b,off,sp⟩:=ad
  have:sp=none:=hc.1.resolve_left fun h=>by rw[h]at hi;exact absurd hi (abM _)
  subst this
  simp only at hl
  subst hl
  rfl
theorem i_.get{w:World}{b off:Nat}{vs:List Value}(h:i_ w b off vs)(j:Nat){v:Value}(hv:vs[j]? = some v):w.cell? ⟨b,off+j,none⟩=some v:=h j v hv
theorem i_.sub{w:World}{b off:Nat}{vs us:List Value}(h:i_ w b off vs)(o n:Nat)(hv:cut vs o n=us):i_ w b (off+o) us:=by
 intro j v hj
 subst hv
 have:=h _ _ (oC _ _ _ _ _ hj).2
 rwa [←aaY]at this
theorem cg.addr{X:Type}[du X]{lo:Nat}{w:World}{s:SV}{l:List X}(h:cg lo w s l)(hl:l ≠ []):∃ b off,s=⟨some ⟨b,off,none⟩,l.length,s.cap⟩:=by
 have hc:=h.cells
 have hlen:=h.len
 obtain⟨sa,sl,sc⟩:=s
 cases sa with
 | none=>exact absurd hc.1 hl
 | some ad =>
  obtain⟨b,off,sp⟩:=ad
  have:sp=none:=hc.1.resolve_left hl
  subst this
  simp only at hlen
  subst hlen
  exact⟨b,off,rfl⟩
section
variable {P:Program}{n:Nat}{F:List (Nat×Value)}{a:Act}{dd:List Deferred}{w:World}{o:Oper}{J:Value→World→Prop}
theorem vS{t ty e lo bytes sz:Nat}{v v':Value}{w':World}{xs news:List Value}{m k c:Nat}{ad:Addr}{i:TypeInfo}{z:Value}(ht:P.underlying t=some (.slice e))(hi:P.info? e=some i)(hz:i.zero=some z)
  (hsize:i.size=sz) (yk:i.bytes=bytes) (hown:w.ownsRow lo e sz v m xs) (hl:news.length=k*sz) (AW:∀ j u,news[j]? = some u→w.cell? (ad.add j)=some u) (h1:∀ u∈news,u.oneCell' = true)
  (h63:m+k≤maxLen) (od:(m+k)*bytes≤140737488355328) (hr:(Builtin.append_ #[t,t] ty #[v,.slice (some ad) k c]).run P w = .ok v' w') :
  ∀ j,v'.ownBlock=some j→v.ownBlock=some j∨w.heap.size≤j:=by
 subst hsize yk
 have hm:(m+k:Nat)≤9223372036854775807:=by simp only[maxLen]at h63;omega
 rcases hown.2 with⟨rfl,rfl⟩|⟨g,cap,cur,rfl,_,hg,_,_,hcs,_⟩
 ·by_cases hk:k=0
  ·subst hk
   have hn:news = []:=ab9 (by simpa using hl)
   subst hn
   have e0:(Builtin.append_ #[t,t] ty #[.slice none 0 0,.slice (some ad) 0 c]).run P w = .ok (.slice none 0 0) w:=by
    simp[Builtin.append_,run_underlying ht,sizeOf,typeInfo,hi,Builtin.lenOf,Builtin.firstCells,loadCells,loadCellsFrom]
   rw[e0]at hr
   cases hr
   intro j hj;cases hj
  ·rw[run_append_nil (P:=P) w t ty e i z ht hi hz ad k c news hl AW ac_ ac_ (by simp only[ab_]at od;omega)]at hr
   cases hr
   intro j hj
   simp[Value.ownBlock]at hj
   exact .inr ac_
 ·by_cases hroom:m+k≤cap
  ·have hfit:m*i.size+news.length≤cur.size:=by rw[hl,hcs,←ab4];exact aca _ hroom
   rw[run_append_room (P:=P) w t ty e i ht hi g m cap cur hg ad k c news hl AW h1 hroom hfit]at hr
   cases hr
   exact fun j hj=>.inl hj
  ·rw[run_append_grow (P:=P) w t ty e i z ht hi hz ⟨g,0,none⟩ m cap xs hown.1 (hown.cells (g:=g) rfl) ad k c news hl AW ac_ ac_ (growslice_fits ac_ od)]at hr
   cases hr
   intro j hj
   simp[Value.ownBlock]at hj
   exact .inr ac_
theorem cK{X:Type}[du X]{t e lo:TypeId}{x:Operand}{s:SV}{l:List X}{w1:World}(hs:cg lo w1 s l)(ht:P.underlying t=some (.slice e))(hF:Fr n F a dd)(ho:o.op = .call { callee:=.builtin .len,args:=#[x],argTypes:=#[t] })(hx:ev F x=some s.v) :
  (execOp a.eval o).run P w = .ok (.value (.int .i64 (l.length:Nat))) w:=by rw[XP ht hF ho hx,hs.len]
theorem bC{X:Type}[du X]{t e lo sz:Nat}{x y:Operand}{k:IntKind}{i:Int}{s:SV}{l:List X}{w1:World}{ti:TypeInfo}(hs:cg lo w1 s l)(ht:P.underlying t=some (.slice e))(hi:P.info? e=some ti)(hsz:ti.size=sz)
  (hF:Fr n F a dd) (ho:o.op = .indexAddr t x y) (hx:ev F x=some s.v) (hy:ev F y=some (.int k i)) (h:0≤i∧i<(l.length:Int)) :
  (execOp a.eval o).run P w = .ok (.value (.pointer (some ⟨s.blk,s.off+i.toNat*sz,none⟩))) w:=by
 rw[hs.addrS (i:=i.toNat) ac_]at hx
 exact zC (P:=P) (w:=w) ht hi hsz hF ho hx hy h
theorem VJ{X:Type}[du X]{x y:Operand}{t e lo lo' bytes:Nat}{s sx:SV}{xs:List Value}{l:List X}{m:Nat}{i:TypeInfo}{z:Value}(ht:P.underlying t=some (.slice e))(hi:P.info? e=some i)(hz:i.zero=some z)
  (hsize:i.size=du.sz X) (yk:i.bytes=bytes) (tg:z.cells.size=du.sz X)
  (hF:Fr n F a dd) (ho:o.op = .call { callee:=.builtin .append,args:=#[x,y],argTypes:=#[t,t] }) (hx:ev F x=some s.v) (hy:ev F y=some sx.v)
  (hown:w.ownsRow lo e (du.sz X) s.v m xs) (hsx:cg lo' w sx l) (h63:m+l.length≤maxLen) (od:(m+l.length)*bytes≤140737488355328) (hlo:lo≤w.heap.size)
  (next:∀ (s':SV) w',oa (.row lo s.v e (du.sz X) m xs) (.row lo s'.v e (du.sz X) (m+l.length) (xs++encs l)) w w' → s'.len=m+l.length→J s'.v w'):Yd P o a.eval w J:=by
 have fin:∀ v' w',(Builtin.append_ #[t,t] o.type #[s.v,sx.v]).run P w = .ok v' w' → w'.ownsRow lo e (du.sz X) v' (m+l.length) (xs++encs l)→w.grownBy w' s.v.ownBlock →
   (∀ j,v'.ownBlock=some j→s.v.ownBlock=some j∨w.heap.size≤j)→Yd P o a.eval w J:=by
  intro v' w' hr h2 h3 h4
  have hv:∃ s':SV,v' = s'.v∧s'.len=m+l.length:=by
   rcases h2.2 with⟨rfl,h0⟩|⟨g,cap,cur,rfl,_⟩
   ·exact⟨SV.nil,rfl,h0.symm⟩
   ·exact⟨⟨some ⟨g,0,none⟩,_,cap⟩,rfl,rfl⟩
  obtain⟨s',rfl,hl'⟩:=hv
  have h:=next s' w' ⟨⟨h3.os,h3.tape,h3.output⟩,h3.size,fun k hk hf=>h3.block k hk fun e'=>hf (by simpa[di.fp]using e'.symm),h2,h4⟩ hl'
  unfold Yd
  simp only[execOp,ho,resolve,invoke,builtin,Sem.run_bind,Sem.run_pure,Result.andThen_ok,ab0,aa4,aa5,hF.eval hx,hF.eval hy,hr]
  exact h
 have hc:=hsx.cells
 have vn:=hsx.len
 obtain⟨sa,sl,sc⟩:=sx
 cases sa with
 | some ad =>
  obtain⟨h1,h2,h3⟩:=hc
  obtain⟨b,off,sp⟩:=ad
  simp only at h1 h2 h3 vn
  subst vn
  have hcell:∀ j u,(encs l)[j]? = some u→w.cell? ((⟨b,off,sp⟩ : Addr).add j)=some u:=fun j u hu=>by
   rcases h1 with h1|h1
   ·subst h1;simp[jS]at hu
   ·subst h1;rw[eC];exact h3 j u hu
  obtain⟨v',w',hr,h4,h5,_⟩:=run_append_own (P:=P) w lo t o.type e i z (du.sz X) bytes ht hi hz hsize yk tg (du.pos) s.v m xs hown ⟨b,off,sp⟩ l.length sc (encs l) (dN l) hcell (fA l) h63 od hlo
  exact fin v' w' hr h4 h5 (vS ht hi hz hsize yk hown (dN l) hcell (fA l) h63 od hr)
 | none =>
  obtain⟨h1,h2⟩:=hc
  simp only at h1 h2 vn
  subst h1 h2
  simp only[abV]at vn
  subst vn
  refine fin s.v w ?_ (by simpa[jS]using hown) ⟨rfl,rfl,rfl,aal _,fun _ _ _=>rfl⟩ fun j hj=>.inl hj
  have hcap:s.len≤s.cap:=by
   rcases hown.2 with⟨h,_⟩|⟨g,cap,cur,h,_,_,h',_⟩
   ·obtain⟨sa,sl,sc⟩:=s;cases h;exact aal _
   ·obtain⟨sa,sl,sc⟩:=s;cases h;exact h'
  obtain⟨sa,sl,sc⟩:=s
  have AQ:sl≤sc:=hcap
  cases sa<;>simp[Builtin.append_,run_underlying ht,sizeOf,typeInfo,hi,Builtin.lenOf,Builtin.firstCells,storeCells,AQ]
end
end Go.Fw
end
section
namespace Go.Fw
instance:du Int:=⟨fun x=>[.int .i64 x],1,fun _=>rfl,fun x u hu=>by simp at hu;subst hu;rfl,by decide⟩
instance:du UInt8:=⟨fun x=>[.int .u8 (x.toNat:Int)],1,fun _=>rfl,fun x u hu=>by simp at hu;subst hu;rfl,by decide⟩
instance:du SV:=⟨fun x=>[x.v],1,fun _=>rfl,fun x u hu=>by simp at hu;subst hu;rfl,by decide⟩
structure Vec(X:Type)(n:Nat) where
 l:List X
 h:l.length=n
deriving DecidableEq
theorem Vec.len{X:Type}{n:Nat}(x:Vec X n):x.l.length=n:=x.h
def Vec.set{X:Type}{n:Nat}(x:Vec X n)(i:Nat)(y:X):Vec X n:=⟨x.l.set i y,by rw[abv];exact x.h⟩
theorem Vec.ext{X:Type}{n:Nat}{x y:Vec X n}(h:x.l=y.l):x=y:=by cases x;cases y;cases h;rfl
theorem Vec.get{X:Type}{n:Nat}(x:Vec X n){i:Nat}(h:i<n):∃ y,x.l[i]? = some y:=⟨_,aa1 (by rw[x.len];exact h)⟩
theorem cO{s R:List Value}{m o:Nat}{v:Value}(h:s.length=m)(t:R[o]? = some v):(s++R)[m+o]? = some v:=by
 subst h;rw[aa0 ac_];simpa using t
theorem cP{s R R':List Value}{m o:Nat}{v:Value}(h:s.length=m)(t:R.set o v=R'):(s++R).set (m+o) v=s++R':=by
 subst h;rw[List.set_append_right _ _ ac_];simp[t]
theorem kT{s R y:List Value}{m o n:Nat}(h:s.length=m)(t:cut R o n=y):cut (s++R) (m+o) n=y:=by
 subst h;unfold cut at *; rw[ab8];exact t
theorem iK{R y:List Value}{v:Value}{o n:Nat}(t:cut R o n=y):cut (v::R) (o+1) n=y:=t
theorem gT{s R:List Value}{n:Nat}(h:s.length=n):cut (s++R) 0 n=s:=by
 subst h;simp[cut]
theorem cG{s:List Value}{n:Nat}(h:s.length=n):cut s 0 n=s:=by
 subst h;simp[cut]
theorem uY{s R y:List Value}{o n:Nat}(h:o+n≤s.length)(t:cut s o n=y):cut (s++R) o n=y:=by
 unfold cut at *
 rw[acb ac_,ab7 (by simp;omega)]
 exact t
theorem nF{s R y:List Value}{m o n e:Nat}(h:s.length=m)(t:cut R (o+e) n=y):cut (s++R) (m+o+e) n=y:=by rw[aaY];exact kT h t
theorem oY{R y:List Value}{v:Value}{o n e:Nat}(t:cut R (o+e) n=y):cut (v::R) (o+1+e) n=y:=by rw[acd];exact iK t
theorem jI{s R R' vs:List Value}{m o:Nat}(h:s.length=m)(t:put R o vs=R'):put (s++R) (m+o) vs=s++R':=by
 subst h;unfold put at *; rw[List.take_length_add_append,aaY,ab8,←t];simp
theorem iM{R R' vs:List Value}{v:Value}{o:Nat}(t:put R o vs=R'):put (v::R) (o+1) vs=v::R':=by
 unfold put at *; rw[acd];simp[←t]
theorem gM{s R vs:List Value}(h:s.length=vs.length):put (s++R) 0 vs=vs++R:=by
 unfold put;simp[←h]
theorem bF{s vs:List Value}(h:s.length=vs.length):put s 0 vs=vs:=by
 unfold put;simp[←h]
theorem qQ{s R s' vs:List Value}{o n:Nat}(h:o+n≤s.length)(hv:vs.length=n)(t:put s o vs=s'):put (s++R) o vs=s' ++ R:=by
 unfold put at *
 rw[ab7 ac_,acb ac_,←t]
 simp
theorem nJ{s R R' vs:List Value}{m o e:Nat}(h:s.length=m)(t:put R (o+e) vs=R'):put (s++R) (m+o+e) vs=s++R':=by rw[aaY];exact jI h t
theorem pM{R R' vs:List Value}{v:Value}{o e:Nat}(t:put R (o+e) vs=R'):put (v::R) (o+1+e) vs=v::R':=by rw[acd];exact iM t
theorem F4{X:Type}[du X]{l:List X}{i:Nat}(h:i<l.length):i*du.sz X+du.sz X≤(encs l).length:=by
 rw[dN,←Nat.succ_mul];exact aca _ h
theorem VN{X:Type}[du X]{l:List X}{i:Nat}{y:X}(h:l[i]? = some y):i*du.sz X+du.sz X≤(encs l).length:=F4 (aap.1 h).1
theorem U0{X:Type}[du X]{l:List X}{i:Nat}{y:X}(h:i<l.length):put (encs l) (i*du.sz X) (du.enc y)=encs (l.set i y):=by
 induction l generalizing i with
 | nil=>simp at h
 | cons z l ih =>
  cases i with
  | zero =>
   simp only[ab5,List.set_cons_zero,kE]
   exact gM ((du.len _).trans (du.len _).symm)
  | succ i =>
   simp only[ace,kE]
   rw[show(i+1)*du.sz X=du.sz X+i*du.sz X by rw[ab4];omega]
   exact jI (du.len _) (ih (by simpa using h))
theorem aR{X:Type}[du X]{n:Nat}(x:Vec X n):(encs x.l).length=n*du.sz X:=by rw[dN,x.len]
theorem fY{X:Type}[du X]{l:List X}{i:Nat}{y:X}(h:l[i]? = some y):cut (encs l) (0+i*du.sz X) (du.sz X)=du.enc y:=by rw[ab_];exact kV l i y h
theorem nO{X:Type}[du X]{l:List X}{i:Nat}{y:X}(h:l[i]? = some y):0+i*du.sz X+du.sz X≤(encs l).length:=by rw[ab_];exact VN h
theorem mG{X:Type}[du X]{n:Nat}{v:Vec X n}{i:Nat}(h:i<n):0+i*du.sz X+du.sz X≤(encs v.l).length:=by rw[ab_];exact F4 (by rw[v.len];exact h)
theorem kF{X:Type}[du X]{n:Nat}{v:Vec X n}{i:Nat}{y:X}(h:i<n):put (encs v.l) (0+i*du.sz X) (du.enc y)=encs (v.set i y).l:=by rw[ab_];exact U0 (by rw[v.len];exact h)
theorem cL{l vs:List Value}{o n j:Nat}{v:Value}(h:cut l o n=vs)(t:vs[j]? = some v):l[o+j]? = some v:=by
 subst h;exact(oC _ _ _ _ _ t).2
structure aj where
 kind:Int
 table:Int
 row:Int
 x:Int
deriving DecidableEq
def aj.enc(x:aj):List Value:=[.int .i64 x.kind,.int .i64 x.table,.int .i64 x.row,.int .i64 x.x]
theorem aj.len(x:aj):x.enc.length=4:=rfl
theorem aj.one(x:aj):∀ u∈x.enc,u.oneCell' = true:=(acf.2 ⟨rfl,(acf.2 ⟨rfl,(acf.2 ⟨rfl,(acf.2 ⟨rfl,(fun _ h=>absurd h abN)⟩)⟩)⟩)⟩)
instance:du aj:=⟨aj.enc,4,aj.len,aj.one,by decide⟩
theorem aj.g_kind(x:aj):x.enc[0]? = some (.int .i64 x.kind):=rfl
theorem aj.s_kind(x:aj)(y:Int):x.enc.set 0 (.int .i64 y) = { x with kind:=y }.enc:=rfl
theorem aj.g_table(x:aj):x.enc[1]? = some (.int .i64 x.table):=rfl
theorem aj.s_table(x:aj)(y:Int):x.enc.set 1 (.int .i64 y) = { x with table:=y }.enc:=(congrArg (List.cons _) rfl)
theorem aj.g_row(x:aj):x.enc[2]? = some (.int .i64 x.row):=rfl
theorem aj.s_row(x:aj)(y:Int):x.enc.set 2 (.int .i64 y) = { x with row:=y }.enc:=(congrArg (List.cons _) (congrArg (List.cons _) rfl))
theorem aj.g_x(x:aj):x.enc[3]? = some (.int .i64 x.x):=rfl
theorem aj.s_x(x:aj)(y:Int):x.enc.set 3 (.int .i64 y) = { x with x:=y }.enc:=(congrArg (List.cons _) (congrArg (List.cons _) (congrArg (List.cons _) rfl)))
structure bn where
 ptr:aj
 bytes:Vec UInt8 8
 mask:Int
deriving DecidableEq
def bn.enc(x:bn):List Value:=aj.enc x.ptr++(encs x.bytes.l++([.int .i64 x.mask]))
theorem bn.len(x:bn):x.enc.length=13:=by
 have h0:(aj.enc x.ptr).length=4:=aj.len x.ptr
 have h1:(encs x.bytes.l).length=8:=aR x.bytes
 simp[bn.enc,h0,h1]
theorem bn.one(x:bn):∀ u∈x.enc,u.oneCell' = true:=(acg.2 ⟨aj.one x.ptr,(acg.2 ⟨fA x.bytes.l,(acf.2 ⟨rfl,(fun _ h=>absurd h abN)⟩)⟩)⟩)
instance:du bn:=⟨bn.enc,13,bn.len,bn.one,by decide⟩
theorem bn.c_ptr(x:bn):cut x.enc 0 4=x.ptr.enc:=(gT (n:=4) (aj.len x.ptr))
theorem bn.p_ptr(x:bn)(y:aj):put x.enc 0 (y.enc) = { x with ptr:=y }.enc:=(gM (Eq.trans (b:=4) (aj.len x.ptr) (Eq.symm (aj.len y))))
theorem bn.c_bytes(x:bn):cut x.enc 4 8=encs x.bytes.l:=(kT (m:=4) (o:=0) (aj.len x.ptr) (gT (n:=8) (aR x.bytes)))
theorem bn.pi_bytes(x:bn)(i:Nat)(y:UInt8)(h:i<8):put x.enc (4+i*1) ([.int .u8 (y.toNat:Int)]) = { x with bytes:=x.bytes.set i y }.enc:=(nJ (m:=4) (o:=0) (e:=i*1) (aj.len x.ptr) (qQ (mG (v:=x.bytes) h) (du.len y) (kF (v:=x.bytes) h)))
theorem bn.g_mask(x:bn):x.enc[12]? = some (.int .i64 x.mask):=(cO (m:=4) (o:=8) (aj.len x.ptr) (cO (m:=8) (o:=0) (aR x.bytes) rfl))
theorem bn.s_mask(x:bn)(y:Int):x.enc.set 12 (.int .i64 y) = { x with mask:=y }.enc:=(cP (m:=4) (o:=8) (aj.len x.ptr) (cP (m:=8) (o:=0) (aR x.bytes) rfl))
structure dM where
 reg:Int
 old:aj
 new:aj
deriving DecidableEq
def dM.enc(x:dM):List Value:=.int .i64 x.reg::aj.enc x.old++(aj.enc x.new)
theorem dM.len(x:dM):x.enc.length=9:=by
 have h0:(aj.enc x.old).length=4:=aj.len x.old
 have h1:(aj.enc x.new).length=4:=aj.len x.new
 simp[dM.enc,h0,h1]
theorem dM.one(x:dM):∀ u∈x.enc,u.oneCell' = true:=(acf.2 ⟨rfl,(acg.2 ⟨aj.one x.old,(aj.one x.new)⟩)⟩)
instance:du dM:=⟨dM.enc,9,dM.len,dM.one,by decide⟩
theorem dM.g_reg(x:dM):x.enc[0]? = some (.int .i64 x.reg):=rfl
theorem dM.s_reg(x:dM)(y:Int):x.enc.set 0 (.int .i64 y) = { x with reg:=y }.enc:=rfl
theorem dM.c_old(x:dM):cut x.enc 1 4=x.old.enc:=(iK (o:=0) (gT (n:=4) (aj.len x.old)))
theorem dM.p_old(x:dM)(y:aj):put x.enc 1 (y.enc) = { x with old:=y }.enc:=(iM (o:=0) (gM (Eq.trans (b:=4) (aj.len x.old) (Eq.symm (aj.len y)))))
theorem dM.c_new(x:dM):cut x.enc 5 4=x.new.enc:=(iK (o:=4) (kT (m:=4) (o:=0) (aj.len x.old) (cG (n:=4) (aj.len x.new))))
theorem dM.p_new(x:dM)(y:aj):put x.enc 5 (y.enc) = { x with new:=y }.enc:=(iM (o:=4) (jI (m:=4) (o:=0) (aj.len x.old) (bF (Eq.trans (b:=4) (aj.len x.new) (Eq.symm (aj.len y))))))
structure d_ where
 slot:Int
 old:bn
 new:bn
deriving DecidableEq
def d_.enc(x:d_):List Value:=.int .i64 x.slot::bn.enc x.old++(bn.enc x.new)
theorem d_.len(x:d_):x.enc.length=27:=by
 have h0:(bn.enc x.old).length=13:=bn.len x.old
 have h1:(bn.enc x.new).length=13:=bn.len x.new
 simp[d_.enc,h0,h1]
theorem d_.one(x:d_):∀ u∈x.enc,u.oneCell' = true:=(acf.2 ⟨rfl,(acg.2 ⟨bn.one x.old,(bn.one x.new)⟩)⟩)
instance:du d_:=⟨d_.enc,27,d_.len,d_.one,by decide⟩
theorem d_.g_slot(x:d_):x.enc[0]? = some (.int .i64 x.slot):=rfl
theorem d_.s_slot(x:d_)(y:Int):x.enc.set 0 (.int .i64 y) = { x with slot:=y }.enc:=rfl
theorem d_.c_old(x:d_):cut x.enc 1 13=x.old.enc:=(iK (o:=0) (gT (n:=13) (bn.len x.old)))
theorem d_.p_old(x:d_)(y:bn):put x.enc 1 (y.enc) = { x with old:=y }.enc:=(iM (o:=0) (gM (Eq.trans (b:=13) (bn.len x.old) (Eq.symm (bn.len y)))))
theorem d_.c_new(x:d_):cut x.enc 14 13=x.new.enc:=(iK (o:=13) (kT (m:=13) (o:=0) (bn.len x.old) (cG (n:=13) (bn.len x.new))))
theorem d_.p_new(x:d_)(y:bn):put x.enc 14 (y.enc) = { x with new:=y }.enc:=(iM (o:=13) (jI (m:=13) (o:=0) (bn.len x.old) (bF (Eq.trans (b:=13) (bn.len x.new) (Eq.symm (bn.len y))))))
structure bk where
 table:Int
 from_:Int
 old:SV
 new:SV
deriving DecidableEq
def bk.enc(x:bk):List Value:=[.int .i64 x.table,.int .i64 x.from_,x.old.v,x.new.v]
theorem bk.len(x:bk):x.enc.length=4:=rfl
theorem bk.one(x:bk):∀ u∈x.enc,u.oneCell' = true:=(acf.2 ⟨rfl,(acf.2 ⟨rfl,(acf.2 ⟨rfl,(acf.2 ⟨rfl,(fun _ h=>absurd h abN)⟩)⟩)⟩)⟩)
instance:du bk:=⟨bk.enc,4,bk.len,bk.one,by decide⟩
theorem bk.g_table(x:bk):x.enc[0]? = some (.int .i64 x.table):=rfl
theorem bk.s_table(x:bk)(y:Int):x.enc.set 0 (.int .i64 y) = { x with table:=y }.enc:=rfl
theorem bk.g_from_(x:bk):x.enc[1]? = some (.int .i64 x.from_):=rfl
theorem bk.s_from_(x:bk)(y:Int):x.enc.set 1 (.int .i64 y) = { x with from_:=y }.enc:=(congrArg (List.cons _) rfl)
theorem bk.g_old(x:bk):x.enc[2]? = some (x.old.v):=rfl
theorem bk.mr(x:bk)(y:SV):x.enc.set 2 (y.v) = { x with old:=y }.enc:=(congrArg (List.cons _) (congrArg (List.cons _) rfl))
theorem bk.g_new(x:bk):x.enc[3]? = some (x.new.v):=rfl
theorem bk.mg(x:bk)(y:SV):x.enc.set 3 (y.v) = { x with new:=y }.enc:=(congrArg (List.cons _) (congrArg (List.cons _) (congrArg (List.cons _) rfl)))
structure bw where
 at_:Int
 next:Int
 done:Bool
 a8:SV
 slots:SV
 dy:SV
 a7:SV
deriving DecidableEq
def bw.enc(x:bw):List Value:=[.int .i64 x.at_,.int .i64 x.next,.bool x.done,x.a8.v,x.slots.v,x.dy.v,x.a7.v]
theorem bw.len(x:bw):x.enc.length=7:=rfl
theorem bw.one(x:bw):∀ u∈x.enc,u.oneCell' = true:=(acf.2 ⟨rfl,(acf.2 ⟨rfl,(acf.2 ⟨rfl,(acf.2 ⟨rfl,(acf.2 ⟨rfl,(acf.2 ⟨rfl,(acf.2 ⟨rfl,(fun _ h=>absurd h abN)⟩)⟩)⟩)⟩)⟩)⟩)⟩)
instance:du bw:=⟨bw.enc,7,bw.len,bw.one,by decide⟩
theorem bw.g_at_(x:bw):x.enc[0]? = some (.int .i64 x.at_):=rfl
theorem bw.s_at_(x:bw)(y:Int):x.enc.set 0 (.int .i64 y) = { x with at_:=y }.enc:=rfl
theorem bw.g_next(x:bw):x.enc[1]? = some (.int .i64 x.next):=rfl
theorem bw.s_next(x:bw)(y:Int):x.enc.set 1 (.int .i64 y) = { x with next:=y }.enc:=(congrArg (List.cons _) rfl)
theorem bw.g_done(x:bw):x.enc[2]? = some (.bool x.done):=rfl
theorem bw.s_done(x:bw)(y:Bool):x.enc.set 2 (.bool y) = { x with done:=y }.enc:=(congrArg (List.cons _) (congrArg (List.cons _) rfl))
theorem bw.g_regs(x:bw):x.enc[3]? = some (x.a8.v):=rfl
theorem bw.nu(x:bw)(y:SV):x.enc.set 3 (y.v) = { x with a8:=y }.enc:=(congrArg (List.cons _) (congrArg (List.cons _) (congrArg (List.cons _) rfl)))
theorem bw.g_slots(x:bw):x.enc[4]? = some (x.slots.v):=rfl
theorem bw.kA(x:bw)(y:SV):x.enc.set 4 (y.v) = { x with slots:=y }.enc:=(congrArg (List.cons _) (congrArg (List.cons _) (congrArg (List.cons _) (congrArg (List.cons _) rfl))))
theorem bw.g_pieces(x:bw):x.enc[5]? = some (x.dy.v):=rfl
theorem bw.jM(x:bw)(y:SV):x.enc.set 5 (y.v) = { x with dy:=y }.enc:=(congrArg (List.cons _) (congrArg (List.cons _) (congrArg (List.cons _) (congrArg (List.cons _) (congrArg (List.cons _) rfl)))))
theorem bw.g_sent(x:bw):x.enc[6]? = some (x.a7.v):=rfl
theorem bw.gx(x:bw)(y:SV):x.enc.set 6 (y.v) = { x with a7:=y }.enc:=(congrArg (List.cons _) (congrArg (List.cons _) (congrArg (List.cons _) (congrArg (List.cons _) (congrArg (List.cons _) (congrArg (List.cons _) rfl))))))
structure bu where
 cq:SV
 ah:SV
deriving DecidableEq
def bu.enc(x:bu):List Value:=[x.cq.v,x.ah.v]
theorem bu.len(x:bu):x.enc.length=2:=rfl
theorem bu.one(x:bu):∀ u∈x.enc,u.oneCell' = true:=(acf.2 ⟨rfl,(acf.2 ⟨rfl,(fun _ h=>absurd h abN)⟩)⟩)
instance:du bu:=⟨bu.enc,2,bu.len,bu.one,by decide⟩
theorem bu.g_ctx(x:bu):x.enc[0]? = some (x.cq.v):=rfl
theorem bu.ig(x:bu)(y:SV):x.enc.set 0 (y.v) = { x with cq:=y }.enc:=rfl
theorem bu.g_tables(x:bu):x.enc[1]? = some (x.ah.v):=rfl
theorem bu.eh(x:bu)(y:SV):x.enc.set 1 (y.v) = { x with ah:=y }.enc:=(congrArg (List.cons _) rfl)
structure bp where
 qb:bu
 dW:SV
 end_:Int
deriving DecidableEq
def bp.enc(x:bp):List Value:=bu.enc x.qb++(x.dW.v :: [.int .i64 x.end_])
theorem bp.len(x:bp):x.enc.length=4:=by
 have h0:(bu.enc x.qb).length=2:=bu.len x.qb
 simp[bp.enc,h0]
theorem bp.one(x:bp):∀ u∈x.enc,u.oneCell' = true:=(acg.2 ⟨bu.one x.qb,(acf.2 ⟨rfl,(acf.2 ⟨rfl,(fun _ h=>absurd h abN)⟩)⟩)⟩)
instance:du bp:=⟨bp.enc,4,bp.len,bp.one,by decide⟩
theorem bp.c_in_(x:bp):cut x.enc 0 2=x.qb.enc:=(gT (n:=2) (bu.len x.qb))
theorem bp.p_in_(x:bp)(y:bu):put x.enc 0 (y.enc) = { x with qb:=y }.enc:=(gM (Eq.trans (b:=2) (bu.len x.qb) (Eq.symm (bu.len y))))
theorem bp.g_marks(x:bp):x.enc[2]? = some (x.dW.v):=(cO (m:=2) (o:=0) (bu.len x.qb) rfl)
theorem bp.pX(x:bp)(y:SV):x.enc.set 2 (y.v) = { x with dW:=y }.enc:=(cP (m:=2) (o:=0) (bu.len x.qb) rfl)
theorem bp.g_end_(x:bp):x.enc[3]? = some (.int .i64 x.end_):=(cO (m:=2) (o:=1) (bu.len x.qb) rfl)
theorem bp.s_end_(x:bp)(y:Int):x.enc.set 3 (.int .i64 y) = { x with end_:=y }.enc:=(cP (m:=2) (o:=1) (bu.len x.qb) (congrArg (List.cons _) rfl))
structure gP where
 rows:Int
 wide:Int
deriving DecidableEq
def gP.enc(x:gP):List Value:=[.int .i64 x.rows,.int .i64 x.wide]
theorem gP.len(x:gP):x.enc.length=2:=rfl
theorem gP.one(x:gP):∀ u∈x.enc,u.oneCell' = true:=(acf.2 ⟨rfl,(acf.2 ⟨rfl,(fun _ h=>absurd h abN)⟩)⟩)
instance:du gP:=⟨gP.enc,2,gP.len,gP.one,by decide⟩
theorem gP.g_rows(x:gP):x.enc[0]? = some (.int .i64 x.rows):=rfl
theorem gP.g_wide(x:gP):x.enc[1]? = some (.int .i64 x.wide):=rfl
structure bg where
 op:Int
 narrow:Bool
 reg:Bool
 size:Int
 dst:Int
 src:Int
 off:Int
 jN:Int
deriving DecidableEq
def bg.enc(x:bg):List Value:=[.int .i64 x.op,.bool x.narrow,.bool x.reg,.int .i64 x.size,.int .i64 x.dst,.int .i64 x.src,.int .i64 x.off,.int .i64 x.jN]
theorem bg.len(x:bg):x.enc.length=8:=rfl
theorem bg.one(x:bg):∀ u∈x.enc,u.oneCell' = true:=(acf.2 ⟨rfl,(acf.2 ⟨rfl,(acf.2 ⟨rfl,(acf.2 ⟨rfl,(acf.2 ⟨rfl,(acf.2 ⟨rfl,(acf.2 ⟨rfl,(acf.2 ⟨rfl,(fun _ h=>absurd h abN)⟩)⟩)⟩)⟩)⟩)⟩)⟩)⟩)
instance:du bg:=⟨bg.enc,8,bg.len,bg.one,by decide⟩
theorem bg.g_op(x:bg):x.enc[0]? = some (.int .i64 x.op):=rfl
theorem bg.s_op(x:bg)(y:Int):x.enc.set 0 (.int .i64 y) = { x with op:=y }.enc:=rfl
theorem bg.g_narrow(x:bg):x.enc[1]? = some (.bool x.narrow):=rfl
theorem bg.s_narrow(x:bg)(y:Bool):x.enc.set 1 (.bool y) = { x with narrow:=y }.enc:=(congrArg (List.cons _) rfl)
theorem bg.g_reg(x:bg):x.enc[2]? = some (.bool x.reg):=rfl
theorem bg.s_reg(x:bg)(y:Bool):x.enc.set 2 (.bool y) = { x with reg:=y }.enc:=(congrArg (List.cons _) (congrArg (List.cons _) rfl))
theorem bg.g_size(x:bg):x.enc[3]? = some (.int .i64 x.size):=rfl
theorem bg.s_size(x:bg)(y:Int):x.enc.set 3 (.int .i64 y) = { x with size:=y }.enc:=(congrArg (List.cons _) (congrArg (List.cons _) (congrArg (List.cons _) rfl)))
theorem bg.g_dst(x:bg):x.enc[4]? = some (.int .i64 x.dst):=rfl
theorem bg.s_dst(x:bg)(y:Int):x.enc.set 4 (.int .i64 y) = { x with dst:=y }.enc:=(congrArg (List.cons _) (congrArg (List.cons _) (congrArg (List.cons _) (congrArg (List.cons _) rfl))))
theorem bg.g_src(x:bg):x.enc[5]? = some (.int .i64 x.src):=rfl
theorem bg.s_src(x:bg)(y:Int):x.enc.set 5 (.int .i64 y) = { x with src:=y }.enc:=(congrArg (List.cons _) (congrArg (List.cons _) (congrArg (List.cons _) (congrArg (List.cons _) (congrArg (List.cons _) rfl)))))
theorem bg.g_off(x:bg):x.enc[6]? = some (.int .i64 x.off):=rfl
theorem bg.s_off(x:bg)(y:Int):x.enc.set 6 (.int .i64 y) = { x with off:=y }.enc:=(congrArg (List.cons _) (congrArg (List.cons _) (congrArg (List.cons _) (congrArg (List.cons _) (congrArg (List.cons _) (congrArg (List.cons _) rfl))))))
theorem bg.g_imm(x:bg):x.enc[7]? = some (.int .i64 x.jN):=rfl
theorem bg.s_imm(x:bg)(y:Int):x.enc.set 7 (.int .i64 y) = { x with jN:=y }.enc:=(congrArg (List.cons _) (congrArg (List.cons _) (congrArg (List.cons _) (congrArg (List.cons _) (congrArg (List.cons _) (congrArg (List.cons _) (congrArg (List.cons _) rfl)))))))
structure bj where
 lo:Int
 hi:Int
 data:SV
 ah:SV
 code:SV
deriving DecidableEq
def bj.enc(x:bj):List Value:=[.int .i64 x.lo,.int .i64 x.hi,x.data.v,x.ah.v,x.code.v]
theorem bj.len(x:bj):x.enc.length=5:=rfl
theorem bj.one(x:bj):∀ u∈x.enc,u.oneCell' = true:=(acf.2 ⟨rfl,(acf.2 ⟨rfl,(acf.2 ⟨rfl,(acf.2 ⟨rfl,(acf.2 ⟨rfl,(fun _ h=>absurd h abN)⟩)⟩)⟩)⟩)⟩)
instance:du bj:=⟨bj.enc,5,bj.len,bj.one,by decide⟩
theorem bj.g_lo(x:bj):x.enc[0]? = some (.int .i64 x.lo):=rfl
theorem bj.s_lo(x:bj)(y:Int):x.enc.set 0 (.int .i64 y) = { x with lo:=y }.enc:=rfl
theorem bj.g_hi(x:bj):x.enc[1]? = some (.int .i64 x.hi):=rfl
theorem bj.s_hi(x:bj)(y:Int):x.enc.set 1 (.int .i64 y) = { x with hi:=y }.enc:=(congrArg (List.cons _) rfl)
theorem bj.g_data(x:bj):x.enc[2]? = some (x.data.v):=rfl
theorem bj.lI(x:bj)(y:SV):x.enc.set 2 (y.v) = { x with data:=y }.enc:=(congrArg (List.cons _) (congrArg (List.cons _) rfl))
theorem bj.g_tables(x:bj):x.enc[3]? = some (x.ah.v):=rfl
theorem bj.eh(x:bj)(y:SV):x.enc.set 3 (y.v) = { x with ah:=y }.enc:=(congrArg (List.cons _) (congrArg (List.cons _) (congrArg (List.cons _) rfl)))
theorem bj.g_code(x:bj):x.enc[4]? = some (x.code.v):=rfl
theorem bj.gu(x:bj)(y:SV):x.enc.set 4 (y.v) = { x with code:=y }.enc:=(congrArg (List.cons _) (congrArg (List.cons _) (congrArg (List.cons _) (congrArg (List.cons _) rfl))))
structure bf where
 a8:Vec aj 11
 bh:Vec bn 32
 cq:SV
 ah:SV
 a7:SV
 at_:Int
 steps:Int
 done:Bool
deriving DecidableEq
def bf.enc(x:bf):List Value:=encs x.a8.l++(encs x.bh.l++(x.cq.v::x.ah.v::x.a7.v :: .int .i64 x.at_ :: .int .i64 x.steps :: [.bool x.done]))
theorem bf.len(x:bf):x.enc.length=466:=by
 have h0:(encs x.a8.l).length=44:=aR x.a8
 have h1:(encs x.bh.l).length=416:=aR x.bh
 simp[bf.enc,h0,h1]
theorem bf.one(x:bf):∀ u∈x.enc,u.oneCell' = true:=(acg.2 ⟨fA x.a8.l,(acg.2 ⟨fA x.bh.l,(acf.2 ⟨rfl,(acf.2 ⟨rfl,(acf.2 ⟨rfl,(acf.2 ⟨rfl,(acf.2 ⟨rfl,(acf.2 ⟨rfl,(fun _ h=>absurd h abN)⟩)⟩)⟩)⟩)⟩)⟩)⟩)⟩)
instance:du bf:=⟨bf.enc,466,bf.len,bf.one,by decide⟩
theorem bf.c_regs(x:bf):cut x.enc 0 44=encs x.a8.l:=(gT (n:=44) (aR x.a8))
theorem bf.p_regs(x:bf)(y:Vec aj 11):put x.enc 0 (encs y.l) = { x with a8:=y }.enc:=(gM (Eq.trans (b:=44) (aR x.a8) (Eq.symm (aR y))))
theorem bf.ci_regs(x:bf)(i:Nat)(y:aj)(h:x.a8.l[i]? = some y):cut x.enc (0+i*4) 4=y.enc:=(uY (nO h) (fY h))
theorem bf.pi_regs(x:bf)(i:Nat)(y:aj)(h:i<11):put x.enc (0+i*4) (y.enc) = { x with a8:=x.a8.set i y }.enc:=(qQ (mG (v:=x.a8) h) (du.len y) (kF (v:=x.a8) h))
theorem bf.c_stack(x:bf):cut x.enc 44 416=encs x.bh.l:=(kT (m:=44) (o:=0) (aR x.a8) (gT (n:=416) (aR x.bh)))
theorem bf.p_stack(x:bf)(y:Vec bn 32):put x.enc 44 (encs y.l) = { x with bh:=y }.enc:=(jI (m:=44) (o:=0) (aR x.a8) (gM (Eq.trans (b:=416) (aR x.bh) (Eq.symm (aR y)))))
theorem bf.ci_stack(x:bf)(i:Nat)(y:bn)(h:x.bh.l[i]? = some y):cut x.enc (44+i*13) 13=y.enc:=(nF (m:=44) (o:=0) (e:=i*13) (aR x.a8) (uY (nO h) (fY h)))
theorem bf.pi_stack(x:bf)(i:Nat)(y:bn)(h:i<32):put x.enc (44+i*13) (y.enc) = { x with bh:=x.bh.set i y }.enc:=(nJ (m:=44) (o:=0) (e:=i*13) (aR x.a8) (qQ (mG (v:=x.bh) h) (du.len y) (kF (v:=x.bh) h)))
theorem bf.g_ctx(x:bf):x.enc[460]? = some (x.cq.v):=(cO (m:=44) (o:=416) (aR x.a8) (cO (m:=416) (o:=0) (aR x.bh) rfl))
theorem bf.ig(x:bf)(y:SV):x.enc.set 460 (y.v) = { x with cq:=y }.enc:=(cP (m:=44) (o:=416) (aR x.a8) (cP (m:=416) (o:=0) (aR x.bh) rfl))
theorem bf.g_tables(x:bf):x.enc[461]? = some (x.ah.v):=(cO (m:=44) (o:=417) (aR x.a8) (cO (m:=416) (o:=1) (aR x.bh) rfl))
theorem bf.eh(x:bf)(y:SV):x.enc.set 461 (y.v) = { x with ah:=y }.enc:=(cP (m:=44) (o:=417) (aR x.a8) (cP (m:=416) (o:=1) (aR x.bh) (congrArg (List.cons _) rfl)))
theorem bf.g_sent(x:bf):x.enc[462]? = some (x.a7.v):=(cO (m:=44) (o:=418) (aR x.a8) (cO (m:=416) (o:=2) (aR x.bh) rfl))
theorem bf.gx(x:bf)(y:SV):x.enc.set 462 (y.v) = { x with a7:=y }.enc:=(cP (m:=44) (o:=418) (aR x.a8) (cP (m:=416) (o:=2) (aR x.bh) (congrArg (List.cons _) (congrArg (List.cons _) rfl))))
theorem bf.g_at_(x:bf):x.enc[463]? = some (.int .i64 x.at_):=(cO (m:=44) (o:=419) (aR x.a8) (cO (m:=416) (o:=3) (aR x.bh) rfl))
theorem bf.s_at_(x:bf)(y:Int):x.enc.set 463 (.int .i64 y) = { x with at_:=y }.enc:=(cP (m:=44) (o:=419) (aR x.a8) (cP (m:=416) (o:=3) (aR x.bh) (congrArg (List.cons _) (congrArg (List.cons _) (congrArg (List.cons _) rfl)))))
theorem bf.g_steps(x:bf):x.enc[464]? = some (.int .i64 x.steps):=(cO (m:=44) (o:=420) (aR x.a8) (cO (m:=416) (o:=4) (aR x.bh) rfl))
theorem bf.s_steps(x:bf)(y:Int):x.enc.set 464 (.int .i64 y) = { x with steps:=y }.enc:=(cP (m:=44) (o:=420) (aR x.a8) (cP (m:=416) (o:=4) (aR x.bh) (congrArg (List.cons _) (congrArg (List.cons _) (congrArg (List.cons _) (congrArg (List.cons _) rfl))))))
theorem bf.g_done(x:bf):x.enc[465]? = some (.bool x.done):=(cO (m:=44) (o:=421) (aR x.a8) (cO (m:=416) (o:=5) (aR x.bh) rfl))
theorem bf.s_done(x:bf)(y:Bool):x.enc.set 465 (.bool y) = { x with done:=y }.enc:=(cP (m:=44) (o:=421) (aR x.a8) (cP (m:=416) (o:=5) (aR x.bh) (congrArg (List.cons _) (congrArg (List.cons _) (congrArg (List.cons _) (congrArg (List.cons _) (congrArg (List.cons _) rfl)))))))
structure fj where
 r0:Int
 cq:SV
 ah:SV
 a7:SV
deriving DecidableEq
def fj.enc(x:fj):List Value:=[.int .i64 x.r0,x.cq.v,x.ah.v,x.a7.v]
theorem fj.len(x:fj):x.enc.length=4:=rfl
theorem fj.one(x:fj):∀ u∈x.enc,u.oneCell' = true:=(acf.2 ⟨rfl,(acf.2 ⟨rfl,(acf.2 ⟨rfl,(acf.2 ⟨rfl,(fun _ h=>absurd h abN)⟩)⟩)⟩)⟩)
instance:du fj:=⟨fj.enc,4,fj.len,fj.one,by decide⟩
theorem fj.g_ctx(x:fj):x.enc[1]? = some (x.cq.v):=rfl
theorem fj.ig(x:fj)(y:SV):x.enc.set 1 (y.v) = { x with cq:=y }.enc:=(congrArg (List.cons _) rfl)
theorem fj.g_tables(x:fj):x.enc[2]? = some (x.ah.v):=rfl
theorem fj.eh(x:fj)(y:SV):x.enc.set 2 (y.v) = { x with ah:=y }.enc:=(congrArg (List.cons _) (congrArg (List.cons _) rfl))
theorem fj.g_sent(x:fj):x.enc[3]? = some (x.a7.v):=rfl
theorem fj.gx(x:fj)(y:SV):x.enc.set 3 (y.v) = { x with a7:=y }.enc:=(congrArg (List.cons _) (congrArg (List.cons _) (congrArg (List.cons _) rfl)))
structure gp where
 b:SV
deriving DecidableEq
def gp.enc(x:gp):List Value:=[x.b.v]
theorem gp.len(x:gp):x.enc.length=1:=rfl
theorem gp.one(x:gp):∀ u∈x.enc,u.oneCell' = true:=(acf.2 ⟨rfl,(fun _ h=>absurd h abN)⟩)
instance:du gp:=⟨gp.enc,1,gp.len,gp.one,by decide⟩
theorem gp.g_b(x:gp):x.enc[0]? = some (x.b.v):=rfl
theorem gp.tW(x:gp)(y:SV):x.enc.set 0 (y.v) = { x with b:=y }.enc:=rfl
structure h_ where
 b:SV
 at_:Int
 place:Int
 e:Int
deriving DecidableEq
def h_.enc(x:h_):List Value:=[x.b.v,.int .i64 x.at_,.int .i64 x.place,.int .i64 x.e]
theorem h_.len(x:h_):x.enc.length=4:=rfl
theorem h_.one(x:h_):∀ u∈x.enc,u.oneCell' = true:=(acf.2 ⟨rfl,(acf.2 ⟨rfl,(acf.2 ⟨rfl,(acf.2 ⟨rfl,(fun _ h=>absurd h abN)⟩)⟩)⟩)⟩)
instance:du h_:=⟨h_.enc,4,h_.len,h_.one,by decide⟩
theorem h_.g_b(x:h_):x.enc[0]? = some (x.b.v):=rfl
theorem h_.tW(x:h_)(y:SV):x.enc.set 0 (y.v) = { x with b:=y }.enc:=rfl
theorem h_.g_at_(x:h_):x.enc[1]? = some (.int .i64 x.at_):=rfl
theorem h_.s_at_(x:h_)(y:Int):x.enc.set 1 (.int .i64 y) = { x with at_:=y }.enc:=(congrArg (List.cons _) rfl)
structure g_ where
 b:SV
 at_:Int
 place:Int
 e:Int
deriving DecidableEq
def g_.enc(x:g_):List Value:=[x.b.v,.int .i64 x.at_,.int .i64 x.place,.int .i64 x.e]
theorem g_.len(x:g_):x.enc.length=4:=rfl
theorem g_.one(x:g_):∀ u∈x.enc,u.oneCell' = true:=(acf.2 ⟨rfl,(acf.2 ⟨rfl,(acf.2 ⟨rfl,(acf.2 ⟨rfl,(fun _ h=>absurd h abN)⟩)⟩)⟩)⟩)
instance:du g_:=⟨g_.enc,4,g_.len,g_.one,by decide⟩
theorem g_.g_b(x:g_):x.enc[0]? = some (x.b.v):=rfl
theorem g_.tW(x:g_)(y:SV):x.enc.set 0 (y.v) = { x with b:=y }.enc:=rfl
theorem g_.g_at_(x:g_):x.enc[1]? = some (.int .i64 x.at_):=rfl
theorem g_.s_at_(x:g_)(y:Int):x.enc.set 1 (.int .i64 y) = { x with at_:=y }.enc:=(congrArg (List.cons _) rfl)
structure bq where
 bh:Vec bn 32
 cq:SV
 ah:SV
 data:SV
 sizes:SV
deriving DecidableEq
def bq.enc(x:bq):List Value:=encs x.bh.l++(x.cq.v::x.ah.v::x.data.v :: [x.sizes.v])
theorem bq.len(x:bq):x.enc.length=420:=by
 have h0:(encs x.bh.l).length=416:=aR x.bh
 simp[bq.enc,h0]
theorem bq.one(x:bq):∀ u∈x.enc,u.oneCell' = true:=(acg.2 ⟨fA x.bh.l,(acf.2 ⟨rfl,(acf.2 ⟨rfl,(acf.2 ⟨rfl,(acf.2 ⟨rfl,(fun _ h=>absurd h abN)⟩)⟩)⟩)⟩)⟩)
instance:du bq:=⟨bq.enc,420,bq.len,bq.one,by decide⟩
theorem bq.c_stack(x:bq):cut x.enc 0 416=encs x.bh.l:=(gT (n:=416) (aR x.bh))
theorem bq.p_stack(x:bq)(y:Vec bn 32):put x.enc 0 (encs y.l) = { x with bh:=y }.enc:=(gM (Eq.trans (b:=416) (aR x.bh) (Eq.symm (aR y))))
theorem bq.ci_stack(x:bq)(i:Nat)(y:bn)(h:x.bh.l[i]? = some y):cut x.enc (0+i*13) 13=y.enc:=(uY (nO h) (fY h))
theorem bq.pi_stack(x:bq)(i:Nat)(y:bn)(h:i<32):put x.enc (0+i*13) (y.enc) = { x with bh:=x.bh.set i y }.enc:=(qQ (mG (v:=x.bh) h) (du.len y) (kF (v:=x.bh) h))
theorem bq.g_ctx(x:bq):x.enc[416]? = some (x.cq.v):=(cO (m:=416) (o:=0) (aR x.bh) rfl)
theorem bq.ig(x:bq)(y:SV):x.enc.set 416 (y.v) = { x with cq:=y }.enc:=(cP (m:=416) (o:=0) (aR x.bh) rfl)
theorem bq.g_tables(x:bq):x.enc[417]? = some (x.ah.v):=(cO (m:=416) (o:=1) (aR x.bh) rfl)
theorem bq.eh(x:bq)(y:SV):x.enc.set 417 (y.v) = { x with ah:=y }.enc:=(cP (m:=416) (o:=1) (aR x.bh) (congrArg (List.cons _) rfl))
theorem bq.g_data(x:bq):x.enc[418]? = some (x.data.v):=(cO (m:=416) (o:=2) (aR x.bh) rfl)
theorem bq.lI(x:bq)(y:SV):x.enc.set 418 (y.v) = { x with data:=y }.enc:=(cP (m:=416) (o:=2) (aR x.bh) (congrArg (List.cons _) (congrArg (List.cons _) rfl)))
theorem bq.g_sizes(x:bq):x.enc[419]? = some (x.sizes.v):=(cO (m:=416) (o:=3) (aR x.bh) rfl)
theorem bq.pY(x:bq)(y:SV):x.enc.set 419 (y.v) = { x with sizes:=y }.enc:=(cP (m:=416) (o:=3) (aR x.bh) (congrArg (List.cons _) (congrArg (List.cons _) (congrArg (List.cons _) rfl))))
structure af where
 ae:bq
 code:SV
 dq:SV
 da:Option Nat
 a8:Vec aj 11
 a7:SV
 at_:Int
 steps:Int
 done:Bool
deriving DecidableEq
def af.enc(x:af):List Value:=bq.enc x.ae++(x.code.v::x.dq.v :: .map x.da::encs x.a8.l++(x.a7.v :: .int .i64 x.at_ :: .int .i64 x.steps :: [.bool x.done]))
theorem af.len(x:af):x.enc.length=471:=by
 have h0:(bq.enc x.ae).length=420:=bq.len x.ae
 have h1:(encs x.a8.l).length=44:=aR x.a8
 simp[af.enc,h0,h1]
theorem af.one(x:af):∀ u∈x.enc,u.oneCell' = true:=(acg.2 ⟨bq.one x.ae,(acf.2 ⟨rfl,(acf.2 ⟨rfl,(acf.2 ⟨rfl,(acg.2 ⟨fA x.a8.l,(acf.2 ⟨rfl,(acf.2 ⟨rfl,(acf.2 ⟨rfl,(acf.2 ⟨rfl,(fun _ h=>absurd h abN)⟩)⟩)⟩)⟩)⟩)⟩)⟩)⟩)⟩)
instance:du af:=⟨af.enc,471,af.len,af.one,by decide⟩
theorem af.c_memory(x:af):cut x.enc 0 420=x.ae.enc:=(gT (n:=420) (bq.len x.ae))
theorem af.p_memory(x:af)(y:bq):put x.enc 0 (y.enc) = { x with ae:=y }.enc:=(gM (Eq.trans (b:=420) (bq.len x.ae) (Eq.symm (bq.len y))))
theorem af.g_code(x:af):x.enc[420]? = some (x.code.v):=(cO (m:=420) (o:=0) (bq.len x.ae) rfl)
theorem af.gu(x:af)(y:SV):x.enc.set 420 (y.v) = { x with code:=y }.enc:=(cP (m:=420) (o:=0) (bq.len x.ae) rfl)
theorem af.g_units(x:af):x.enc[421]? = some (x.dq.v):=(cO (m:=420) (o:=1) (bq.len x.ae) rfl)
theorem af.nc(x:af)(y:SV):x.enc.set 421 (y.v) = { x with dq:=y }.enc:=(cP (m:=420) (o:=1) (bq.len x.ae) (congrArg (List.cons _) rfl))
theorem af.g_begin_(x:af):x.enc[422]? = some (.map x.da):=(cO (m:=420) (o:=2) (bq.len x.ae) rfl)
theorem af.s_begin_(x:af)(y:Option Nat):x.enc.set 422 (.map y) = { x with da:=y }.enc:=(cP (m:=420) (o:=2) (bq.len x.ae) (congrArg (List.cons _) (congrArg (List.cons _) rfl)))
theorem af.c_regs(x:af):cut x.enc 423 44=encs x.a8.l:=(kT (m:=420) (o:=3) (bq.len x.ae) (iK (o:=2) (iK (o:=1) (iK (o:=0) (gT (n:=44) (aR x.a8))))))
theorem af.p_regs(x:af)(y:Vec aj 11):put x.enc 423 (encs y.l) = { x with a8:=y }.enc:=(jI (m:=420) (o:=3) (bq.len x.ae) (iM (o:=2) (iM (o:=1) (iM (o:=0) (gM (Eq.trans (b:=44) (aR x.a8) (Eq.symm (aR y))))))))
theorem af.ci_regs(x:af)(i:Nat)(y:aj)(h:x.a8.l[i]? = some y):cut x.enc (423+i*4) 4=y.enc:=(nF (m:=420) (o:=3) (e:=i*4) (bq.len x.ae) (oY (o:=2) (e:=i*4) (oY (o:=1) (e:=i*4) (oY (o:=0) (e:=i*4) (uY (nO h) (fY h))))))
theorem af.pi_regs(x:af)(i:Nat)(y:aj)(h:i<11):put x.enc (423+i*4) (y.enc) = { x with a8:=x.a8.set i y }.enc:=(nJ (m:=420) (o:=3) (e:=i*4) (bq.len x.ae) (pM (o:=2) (e:=i*4) (pM (o:=1) (e:=i*4) (pM (o:=0) (e:=i*4) (qQ (mG (v:=x.a8) h) (du.len y) (kF (v:=x.a8) h))))))
theorem af.g_sent(x:af):x.enc[467]? = some (x.a7.v):=(cO (m:=420) (o:=47) (bq.len x.ae) (cO (m:=44) (o:=0) (aR x.a8) rfl))
theorem af.gx(x:af)(y:SV):x.enc.set 467 (y.v) = { x with a7:=y }.enc:=(cP (m:=420) (o:=47) (bq.len x.ae) (congrArg (List.cons _) (congrArg (List.cons _) (congrArg (List.cons _) (cP (m:=44) (o:=0) (aR x.a8) rfl)))))
theorem af.g_at_(x:af):x.enc[468]? = some (.int .i64 x.at_):=(cO (m:=420) (o:=48) (bq.len x.ae) (cO (m:=44) (o:=1) (aR x.a8) rfl))
theorem af.s_at_(x:af)(y:Int):x.enc.set 468 (.int .i64 y) = { x with at_:=y }.enc:=(cP (m:=420) (o:=48) (bq.len x.ae) (congrArg (List.cons _) (congrArg (List.cons _) (congrArg (List.cons _) (cP (m:=44) (o:=1) (aR x.a8) (congrArg (List.cons _) rfl))))))
theorem af.g_steps(x:af):x.enc[469]? = some (.int .i64 x.steps):=(cO (m:=420) (o:=49) (bq.len x.ae) (cO (m:=44) (o:=2) (aR x.a8) rfl))
theorem af.s_steps(x:af)(y:Int):x.enc.set 469 (.int .i64 y) = { x with steps:=y }.enc:=(cP (m:=420) (o:=49) (bq.len x.ae) (congrArg (List.cons _) (congrArg (List.cons _) (congrArg (List.cons _) (cP (m:=44) (o:=2) (aR x.a8) (congrArg (List.cons _) (congrArg (List.cons _) rfl)))))))
theorem af.g_done(x:af):x.enc[470]? = some (.bool x.done):=(cO (m:=420) (o:=50) (bq.len x.ae) (cO (m:=44) (o:=3) (aR x.a8) rfl))
theorem af.s_done(x:af)(y:Bool):x.enc.set 470 (.bool y) = { x with done:=y }.enc:=(cP (m:=420) (o:=50) (bq.len x.ae) (congrArg (List.cons _) (congrArg (List.cons _) (congrArg (List.cons _) (cP (m:=44) (o:=3) (aR x.a8) (congrArg (List.cons _) (congrArg (List.cons _) (congrArg (List.cons _) rfl))))))))
structure yq where
 written:Bool
 byte:UInt8
 ptr:Int
 pos:Int
deriving DecidableEq
def yq.enc(x:yq):List Value:=[.bool x.written,.int .u8 (x.byte.toNat:Int),.int .i64 x.ptr,.int .i64 x.pos]
theorem yq.len(x:yq):x.enc.length=4:=rfl
theorem yq.one(x:yq):∀ u∈x.enc,u.oneCell' = true:=(acf.2 ⟨rfl,(acf.2 ⟨rfl,(acf.2 ⟨rfl,(acf.2 ⟨rfl,(fun _ h=>absurd h abN)⟩)⟩)⟩)⟩)
instance:du yq:=⟨yq.enc,4,yq.len,yq.one,by decide⟩
structure RM where
 p:bj
 dq:SV
 a8:Vec aj 11
 cells:Vec yq 256
 ptrs:SV
 cq:SV
 ah:SV
 a7:SV
 at_:Int
 steps:Int
 done:Bool
deriving DecidableEq
def RM.enc(x:RM):List Value:=bj.enc x.p++(x.dq.v::encs x.a8.l++(encs x.cells.l++(x.ptrs.v::x.cq.v::x.ah.v::x.a7.v :: .int .i64 x.at_ :: .int .i64 x.steps :: [.bool x.done])))
theorem RM.len(x:RM):x.enc.length=1081:=by
 have h0:(bj.enc x.p).length=5:=bj.len x.p
 have h1:(encs x.a8.l).length=44:=aR x.a8
 have h2:(encs x.cells.l).length=1024:=aR x.cells
 simp[RM.enc,h0,h1,h2]
theorem RM.one(x:RM):∀ u∈x.enc,u.oneCell' = true:=(acg.2 ⟨bj.one x.p,(acf.2 ⟨rfl,(acg.2 ⟨fA x.a8.l,(acg.2 ⟨fA x.cells.l,(acf.2 ⟨rfl,(acf.2 ⟨rfl,(acf.2 ⟨rfl,(acf.2 ⟨rfl,(acf.2 ⟨rfl,(acf.2 ⟨rfl,(acf.2 ⟨rfl,(fun _ h=>absurd h abN)⟩)⟩)⟩)⟩)⟩)⟩)⟩)⟩)⟩)⟩)⟩)
instance:du RM:=⟨RM.enc,1081,RM.len,RM.one,by decide⟩
theorem RM.g_units(x:RM):x.enc[5]? = some (x.dq.v):=(cO (m:=5) (o:=0) (bj.len x.p) rfl)
theorem RM.nc(x:RM)(y:SV):x.enc.set 5 (y.v) = { x with dq:=y }.enc:=(cP (m:=5) (o:=0) (bj.len x.p) rfl)
theorem RM.c_regs(x:RM):cut x.enc 6 44=encs x.a8.l:=(kT (m:=5) (o:=1) (bj.len x.p) (iK (o:=0) (gT (n:=44) (aR x.a8))))
theorem RM.p_regs(x:RM)(y:Vec aj 11):put x.enc 6 (encs y.l) = { x with a8:=y }.enc:=(jI (m:=5) (o:=1) (bj.len x.p) (iM (o:=0) (gM (Eq.trans (b:=44) (aR x.a8) (Eq.symm (aR y))))))
theorem RM.ci_regs(x:RM)(i:Nat)(y:aj)(h:x.a8.l[i]? = some y):cut x.enc (6+i*4) 4=y.enc:=(nF (m:=5) (o:=1) (e:=i*4) (bj.len x.p) (oY (o:=0) (e:=i*4) (uY (nO h) (fY h))))
theorem RM.pi_regs(x:RM)(i:Nat)(y:aj)(h:i<11):put x.enc (6+i*4) (y.enc) = { x with a8:=x.a8.set i y }.enc:=(nJ (m:=5) (o:=1) (e:=i*4) (bj.len x.p) (pM (o:=0) (e:=i*4) (qQ (mG (v:=x.a8) h) (du.len y) (kF (v:=x.a8) h))))
theorem RM.vb(x:RM)(y:SV):x.enc.set 1074 (y.v) = { x with ptrs:=y }.enc:=(cP (m:=5) (o:=1069) (bj.len x.p) (congrArg (List.cons _) (cP (m:=44) (o:=1024) (aR x.a8) (cP (m:=1024) (o:=0) (aR x.cells) rfl))))
theorem RM.g_ctx(x:RM):x.enc[1075]? = some (x.cq.v):=(cO (m:=5) (o:=1070) (bj.len x.p) (cO (m:=44) (o:=1025) (aR x.a8) (cO (m:=1024) (o:=1) (aR x.cells) rfl)))
theorem RM.ig(x:RM)(y:SV):x.enc.set 1075 (y.v) = { x with cq:=y }.enc:=(cP (m:=5) (o:=1070) (bj.len x.p) (congrArg (List.cons _) (cP (m:=44) (o:=1025) (aR x.a8) (cP (m:=1024) (o:=1) (aR x.cells) (congrArg (List.cons _) rfl)))))
theorem RM.g_tables(x:RM):x.enc[1076]? = some (x.ah.v):=(cO (m:=5) (o:=1071) (bj.len x.p) (cO (m:=44) (o:=1026) (aR x.a8) (cO (m:=1024) (o:=2) (aR x.cells) rfl)))
theorem RM.eh(x:RM)(y:SV):x.enc.set 1076 (y.v) = { x with ah:=y }.enc:=(cP (m:=5) (o:=1071) (bj.len x.p) (congrArg (List.cons _) (cP (m:=44) (o:=1026) (aR x.a8) (cP (m:=1024) (o:=2) (aR x.cells) (congrArg (List.cons _) (congrArg (List.cons _) rfl))))))
theorem RM.g_sent(x:RM):x.enc[1077]? = some (x.a7.v):=(cO (m:=5) (o:=1072) (bj.len x.p) (cO (m:=44) (o:=1027) (aR x.a8) (cO (m:=1024) (o:=3) (aR x.cells) rfl)))
theorem RM.gx(x:RM)(y:SV):x.enc.set 1077 (y.v) = { x with a7:=y }.enc:=(cP (m:=5) (o:=1072) (bj.len x.p) (congrArg (List.cons _) (cP (m:=44) (o:=1027) (aR x.a8) (cP (m:=1024) (o:=3) (aR x.cells) (congrArg (List.cons _) (congrArg (List.cons _) (congrArg (List.cons _) rfl)))))))
theorem RM.g_at_(x:RM):x.enc[1078]? = some (.int .i64 x.at_):=(cO (m:=5) (o:=1073) (bj.len x.p) (cO (m:=44) (o:=1028) (aR x.a8) (cO (m:=1024) (o:=4) (aR x.cells) rfl)))
theorem RM.s_at_(x:RM)(y:Int):x.enc.set 1078 (.int .i64 y) = { x with at_:=y }.enc:=(cP (m:=5) (o:=1073) (bj.len x.p) (congrArg (List.cons _) (cP (m:=44) (o:=1028) (aR x.a8) (cP (m:=1024) (o:=4) (aR x.cells) (congrArg (List.cons _) (congrArg (List.cons _) (congrArg (List.cons _) (congrArg (List.cons _) rfl))))))))
theorem RM.g_steps(x:RM):x.enc[1079]? = some (.int .i64 x.steps):=(cO (m:=5) (o:=1074) (bj.len x.p) (cO (m:=44) (o:=1029) (aR x.a8) (cO (m:=1024) (o:=5) (aR x.cells) rfl)))
theorem RM.s_steps(x:RM)(y:Int):x.enc.set 1079 (.int .i64 y) = { x with steps:=y }.enc:=(cP (m:=5) (o:=1074) (bj.len x.p) (congrArg (List.cons _) (cP (m:=44) (o:=1029) (aR x.a8) (cP (m:=1024) (o:=5) (aR x.cells) (congrArg (List.cons _) (congrArg (List.cons _) (congrArg (List.cons _) (congrArg (List.cons _) (congrArg (List.cons _) rfl)))))))))
theorem RM.g_done(x:RM):x.enc[1080]? = some (.bool x.done):=(cO (m:=5) (o:=1075) (bj.len x.p) (cO (m:=44) (o:=1030) (aR x.a8) (cO (m:=1024) (o:=6) (aR x.cells) rfl)))
theorem RM.s_done(x:RM)(y:Bool):x.enc.set 1080 (.bool y) = { x with done:=y }.enc:=(cP (m:=5) (o:=1075) (bj.len x.p) (congrArg (List.cons _) (cP (m:=44) (o:=1030) (aR x.a8) (cP (m:=1024) (o:=6) (aR x.cells) (congrArg (List.cons _) (congrArg (List.cons _) (congrArg (List.cons _) (congrArg (List.cons _) (congrArg (List.cons _) (congrArg (List.cons _) rfl))))))))))
structure ay where
 code:Int
 op:Int
 size:Int
 narrow:Bool
 reg:Bool
 dst:Int
 src:Int
 off:Int
 jN:Int
 second:Int
 writes:Bool
deriving DecidableEq
def ay.enc(x:ay):List Value:=[.int .i64 x.code,.int .i64 x.op,.int .i64 x.size,.bool x.narrow,.bool x.reg,.int .i64 x.dst,.int .i64 x.src,.int .i64 x.off,.int .i64 x.jN,.int .i64 x.second,.bool x.writes]
theorem ay.len(x:ay):x.enc.length=11:=rfl
theorem ay.one(x:ay):∀ u∈x.enc,u.oneCell' = true:=(acf.2 ⟨rfl,(acf.2 ⟨rfl,(acf.2 ⟨rfl,(acf.2 ⟨rfl,(acf.2 ⟨rfl,(acf.2 ⟨rfl,(acf.2 ⟨rfl,(acf.2 ⟨rfl,(acf.2 ⟨rfl,(acf.2 ⟨rfl,(acf.2 ⟨rfl,(fun _ h=>absurd h abN)⟩)⟩)⟩)⟩)⟩)⟩)⟩)⟩)⟩)⟩)⟩)
instance:du ay:=⟨ay.enc,11,ay.len,ay.one,by decide⟩
theorem ay.g_code(x:ay):x.enc[0]? = some (.int .i64 x.code):=rfl
theorem ay.gu(x:ay)(y:Int):x.enc.set 0 (.int .i64 y) = { x with code:=y }.enc:=rfl
theorem ay.g_op(x:ay):x.enc[1]? = some (.int .i64 x.op):=rfl
theorem ay.s_op(x:ay)(y:Int):x.enc.set 1 (.int .i64 y) = { x with op:=y }.enc:=(congrArg (List.cons _) rfl)
theorem ay.g_size(x:ay):x.enc[2]? = some (.int .i64 x.size):=rfl
theorem ay.s_size(x:ay)(y:Int):x.enc.set 2 (.int .i64 y) = { x with size:=y }.enc:=(congrArg (List.cons _) (congrArg (List.cons _) rfl))
theorem ay.g_narrow(x:ay):x.enc[3]? = some (.bool x.narrow):=rfl
theorem ay.s_narrow(x:ay)(y:Bool):x.enc.set 3 (.bool y) = { x with narrow:=y }.enc:=(congrArg (List.cons _) (congrArg (List.cons _) (congrArg (List.cons _) rfl)))
theorem ay.g_reg(x:ay):x.enc[4]? = some (.bool x.reg):=rfl
theorem ay.s_reg(x:ay)(y:Bool):x.enc.set 4 (.bool y) = { x with reg:=y }.enc:=(congrArg (List.cons _) (congrArg (List.cons _) (congrArg (List.cons _) (congrArg (List.cons _) rfl))))
theorem ay.g_dst(x:ay):x.enc[5]? = some (.int .i64 x.dst):=rfl
theorem ay.s_dst(x:ay)(y:Int):x.enc.set 5 (.int .i64 y) = { x with dst:=y }.enc:=(congrArg (List.cons _) (congrArg (List.cons _) (congrArg (List.cons _) (congrArg (List.cons _) (congrArg (List.cons _) rfl)))))
theorem ay.g_src(x:ay):x.enc[6]? = some (.int .i64 x.src):=rfl
theorem ay.s_src(x:ay)(y:Int):x.enc.set 6 (.int .i64 y) = { x with src:=y }.enc:=(congrArg (List.cons _) (congrArg (List.cons _) (congrArg (List.cons _) (congrArg (List.cons _) (congrArg (List.cons _) (congrArg (List.cons _) rfl))))))
theorem ay.g_off(x:ay):x.enc[7]? = some (.int .i64 x.off):=rfl
theorem ay.s_off(x:ay)(y:Int):x.enc.set 7 (.int .i64 y) = { x with off:=y }.enc:=(congrArg (List.cons _) (congrArg (List.cons _) (congrArg (List.cons _) (congrArg (List.cons _) (congrArg (List.cons _) (congrArg (List.cons _) (congrArg (List.cons _) rfl)))))))
theorem ay.g_imm(x:ay):x.enc[8]? = some (.int .i64 x.jN):=rfl
theorem ay.s_imm(x:ay)(y:Int):x.enc.set 8 (.int .i64 y) = { x with jN:=y }.enc:=(congrArg (List.cons _) (congrArg (List.cons _) (congrArg (List.cons _) (congrArg (List.cons _) (congrArg (List.cons _) (congrArg (List.cons _) (congrArg (List.cons _) (congrArg (List.cons _) rfl))))))))
theorem ay.g_second(x:ay):x.enc[9]? = some (.int .i64 x.second):=rfl
theorem ay.s_second(x:ay)(y:Int):x.enc.set 9 (.int .i64 y) = { x with second:=y }.enc:=(congrArg (List.cons _) (congrArg (List.cons _) (congrArg (List.cons _) (congrArg (List.cons _) (congrArg (List.cons _) (congrArg (List.cons _) (congrArg (List.cons _) (congrArg (List.cons _) (congrArg (List.cons _) rfl)))))))))
theorem ay.g_writes(x:ay):x.enc[10]? = some (.bool x.writes):=rfl
theorem ay.s_writes(x:ay)(y:Bool):x.enc.set 10 (.bool y) = { x with writes:=y }.enc:=(congrArg (List.cons _) (congrArg (List.cons _) (congrArg (List.cons _) (congrArg (List.cons _) (congrArg (List.cons _) (congrArg (List.cons _) (congrArg (List.cons _) (congrArg (List.cons _) (congrArg (List.cons _) (congrArg (List.cons _) rfl))))))))))
structure cj where
 lo:Int
 hi:Int
 Jb:Bool
 I_:Bool
deriving DecidableEq
def cj.enc(x:cj):List Value:=[.int .i64 x.lo,.int .i64 x.hi,.bool x.Jb,.bool x.I_]
theorem cj.len(x:cj):x.enc.length=4:=rfl
theorem cj.one(x:cj):∀ u∈x.enc,u.oneCell' = true:=(acf.2 ⟨rfl,(acf.2 ⟨rfl,(acf.2 ⟨rfl,(acf.2 ⟨rfl,(fun _ h=>absurd h abN)⟩)⟩)⟩)⟩)
instance:du cj:=⟨cj.enc,4,cj.len,cj.one,by decide⟩
theorem cj.g_lo(x:cj):x.enc[0]? = some (.int .i64 x.lo):=rfl
theorem cj.s_lo(x:cj)(y:Int):x.enc.set 0 (.int .i64 y) = { x with lo:=y }.enc:=rfl
theorem cj.g_hi(x:cj):x.enc[1]? = some (.int .i64 x.hi):=rfl
theorem cj.s_hi(x:cj)(y:Int):x.enc.set 1 (.int .i64 y) = { x with hi:=y }.enc:=(congrArg (List.cons _) rfl)
theorem cj.s_noLo(x:cj)(y:Bool):x.enc.set 2 (.bool y) = { x with Jb:=y }.enc:=(congrArg (List.cons _) (congrArg (List.cons _) rfl))
theorem cj.s_noHi(x:cj)(y:Bool):x.enc.set 3 (.bool y) = { x with I_:=y }.enc:=(congrArg (List.cons _) (congrArg (List.cons _) (congrArg (List.cons _) rfl)))
structure gd where
 args:SV
 ret:cj
deriving DecidableEq
def gd.enc(x:gd):List Value:=x.args.v::cj.enc x.ret
theorem gd.len(x:gd):x.enc.length=5:=by
 have h0:(cj.enc x.ret).length=4:=cj.len x.ret
 simp[gd.enc,h0]
theorem gd.one(x:gd):∀ u∈x.enc,u.oneCell' = true:=(acf.2 ⟨rfl,(cj.one x.ret)⟩)
instance:du gd:=⟨gd.enc,5,gd.len,gd.one,by decide⟩
theorem gd.g_args(x:gd):x.enc[0]? = some (x.args.v):=rfl
theorem gd.rR(x:gd)(y:SV):x.enc.set 0 (y.v) = { x with args:=y }.enc:=rfl
theorem gd.qo(x:gd):cut x.enc 1 4=x.ret.enc:=(iK (o:=0) (cG (n:=4) (cj.len x.ret)))
theorem gd.p_ret(x:gd)(y:cj):put x.enc 1 (y.enc) = { x with ret:=y }.enc:=(iM (o:=0) (bF (Eq.trans (b:=4) (cj.len x.ret) (Eq.symm (cj.len y)))))
structure iR where
 room:SV
deriving DecidableEq
def iR.enc(x:iR):List Value:=[x.room.v]
theorem iR.len(x:iR):x.enc.length=1:=rfl
theorem iR.one(x:iR):∀ u∈x.enc,u.oneCell' = true:=(acf.2 ⟨rfl,(fun _ h=>absurd h abN)⟩)
instance:du iR:=⟨iR.enc,1,iR.len,iR.one,by decide⟩
theorem iR.vd(x:iR)(y:SV):x.enc.set 0 (y.v) = { x with room:=y }.enc:=rfl
structure f_ where
 a:Int
 b:Int
deriving DecidableEq
def f_.enc(x:f_):List Value:=[.int .u64 x.a,.int .u64 x.b]
theorem f_.len(x:f_):x.enc.length=2:=rfl
theorem f_.one(x:f_):∀ u∈x.enc,u.oneCell' = true:=(acf.2 ⟨rfl,(acf.2 ⟨rfl,(fun _ h=>absurd h abN)⟩)⟩)
instance:du f_:=⟨f_.enc,2,f_.len,f_.one,by decide⟩
theorem f_.g_a(x:f_):x.enc[0]? = some (.int .u64 x.a):=rfl
theorem f_.s_a(x:f_)(y:Int):x.enc.set 0 (.int .u64 y) = { x with a:=y }.enc:=rfl
theorem f_.g_b(x:f_):x.enc[1]? = some (.int .u64 x.b):=rfl
theorem f_.tW(x:f_)(y:Int):x.enc.set 1 (.int .u64 y) = { x with b:=y }.enc:=(congrArg (List.cons _) rfl)
structure fR where
 a:Int
 b:Int
deriving DecidableEq
def fR.enc(x:fR):List Value:=[.int .i64 x.a,.int .i64 x.b]
theorem fR.len(x:fR):x.enc.length=2:=rfl
theorem fR.one(x:fR):∀ u∈x.enc,u.oneCell' = true:=(acf.2 ⟨rfl,(acf.2 ⟨rfl,(fun _ h=>absurd h abN)⟩)⟩)
instance:du fR:=⟨fR.enc,2,fR.len,fR.one,by decide⟩
theorem fR.g_a(x:fR):x.enc[0]? = some (.int .i64 x.a):=rfl
theorem fR.s_a(x:fR)(y:Int):x.enc.set 0 (.int .i64 y) = { x with a:=y }.enc:=rfl
theorem fR.g_b(x:fR):x.enc[1]? = some (.int .i64 x.b):=rfl
theorem fR.tW(x:fR)(y:Int):x.enc.set 1 (.int .i64 y) = { x with b:=y }.enc:=(congrArg (List.cons _) rfl)
end Go.Fw
end
section
namespace Go.Fw
def kj(P:Program)(t:TypeId){X:Type}[DecidableEq X](v:X→Value):Prop :=
 ∀ (d:Nat) (x y:X) (w:World),1≤d→(Op.equalIn d t (v x) (v y)).run P w = .ok (decide (x=y)) w
theorem kj.int{P:Program}{t:TypeId}{k k':IntKind}(ht:P.underlying t=some (.int k')):kj P t (fun x:Int=>.int k x):=by
 intro d x y w hd
 obtain⟨d,rfl⟩ : ∃ d',d=d' + 1:=⟨d-1,ac_⟩
 rw[run_equalIn_int w d t k k' x y ht];rfl
theorem kj.u8{P:Program}{t:TypeId}{k':IntKind}(ht:P.underlying t=some (.int k')):kj P t (fun x:UInt8=>.int .u8 (x.toNat:Int)):=by
 intro d x y w hd
 obtain⟨d,rfl⟩ : ∃ d',d=d' + 1:=⟨d-1,ac_⟩
 rw[run_equalIn_int w d t .u8 k' _ _ ht]
 have:((x.toNat:Int)==(y.toNat:Int))=decide (x=y):=by
  rw[Bool.eq_iff_iff]
  simp only[beq_iff_eq,aad]
  constructor
  ·intro h;exact UInt8.toNat_inj.1 ac_
  ·intro h;rw[h]
 rw[this]
theorem kj.bool{P:Program}{t:TypeId}(ht:P.underlying t=some .bool):kj P t (fun x:Bool=>.bool x):=by
 intro d x y w hd
 obtain⟨d,rfl⟩ : ∃ d',d=d' + 1:=⟨d-1,ac_⟩
 exact run_equalIn_bool d ht
def Op.eqElems(d:Nat)(e n:Nat)(xs ys:Array Value):List Nat→Sem Bool
 | []=>pure true
 | i::is=>do
  let a←part e xs (i*n)
  let b←part e ys (i*n)
  let r←Op.equalIn d e a b
  if(!r)=true then pure false else Op.eqElems d e n xs ys is
theorem run_equalIn_array{P:Program}(w:World)(d:Nat){t e n len:Nat}(xs ys:Array Value)(ht:P.underlying t=some (.array len e))(hn:∀ w,(sizeOf e).run P w = .ok n w) :
  (Op.equalIn (d+1) t (.agg xs) (.agg ys)).run P w=(Op.eqElems d e n xs ys (List.range len)).run P w:=by
 simp only[Op.equalIn,Sem.run_bind,run_underlying ht,Result.andThen_ok,hn]
 rw[Std.Legacy.Range.forIn_eq_forIn_range']
 have hr:List.range' 0 (Std.Legacy.Range.size { start:=0,stop:=len,step:=1,step_pos:=by decide }) 1=List.range len:=by
  simp[Std.Legacy.Range.size,ach]
 simp only[hr]
 generalize List.range len=is
 induction is generalizing w with
 | nil=>simp[Op.eqElems]
 | cons i is ih =>
  simp only[List.forIn_cons,Op.eqElems,Sem.run_bind]
  generalize (part e xs (i*n)).run P w=r1
  cases r1 with
  | halt x w1=>simp[Result.andThen]
  | ok a w1 =>
   simp only[Result.andThen_ok]
   generalize (part e ys (i*n)).run P w1=r2
   cases r2 with
   | halt x w2=>simp[Result.andThen]
   | ok b w2 =>
    simp only[Result.andThen_ok]
    generalize (Op.equalIn d e a b).run P w2=r3
    cases r3 with
    | halt x w3=>simp[Result.andThen]
    | ok r w3 =>
     cases r
     ·simp
     ·simpa using ih w3
theorem gN{P:Program}(w:World){t sz off:Nat}{cs vs:List Value}(ha:∀ w,(isAgg t).run P w = .ok true w)(hs:∀ w,(sizeOf t).run P w = .ok sz w)(hc:cut cs off sz=vs) :
  (part t cs.toArray off).run P w = .ok (.agg vs.toArray) w:=by
 subst hc
 simp[part,ha,hs,cut]
theorem gO{P:Program}(w:World){t off:Nat}{cs:List Value}{v:Value}(ha:∀ w,(isAgg t).run P w = .ok false w)(hc:cs[off]? = some v):(part t cs.toArray off).run P w = .ok v w:=by
 simp[part,ha,hc]
theorem kj.vecOne{P:Program}{t e len n:Nat}{X:Type}[du X][DecidableEq X]{v:X→Value}(ht:P.underlying t=some (.array len e))(hn:∀ w,(sizeOf e).run P w = .ok n w)(hn1:n=du.sz X)(ha:∀ w,(isAgg e).run P w = .ok false w)
  (hv:∀ x,du.enc x = [v x]) (he:kj P e v) :
  ∀ (d:Nat) (x y:Vec X len) (w:World),2≤d→(Op.equalIn d t (.agg (encs x.l).toArray) (.agg (encs y.l).toArray)).run P w = .ok (decide (x=y)) w:=by
 intro d x y w hd
 subst hn1
 obtain⟨d,rfl⟩ : ∃ d',d=d' + 1:=⟨d-1,ac_⟩
 rw[run_equalIn_array w d _ _ ht hn]
 have key:∀ (k s:Nat),s+k=len→(Op.eqElems d e (du.sz X) (encs x.l).toArray (encs y.l).toArray (List.range' s k)).run P w = .ok (decide (x.l.drop s=y.l.drop s)) w:=by
  intro k
  induction k with
  | zero =>
   intro s hs
   rw[aci (by rw[x.len];omega),aci (by rw[y.len];omega)]
   simp[Op.eqElems]
  | succ k ih =>
   intro s hs
   obtain⟨a,hxa⟩:=x.get (i:=s) ac_
   obtain⟨b,Q7⟩:=y.get (i:=s) ac_
   have ga:(encs x.l)[s*du.sz X]? = some (v a):=by
    have:=(oC (encs x.l) (s*du.sz X) (du.sz X) 0 (v a) (by rw[kV x.l s a hxa,hv];rfl)).2
    simpa using this
   have gb:(encs y.l)[s*du.sz X]? = some (v b):=by
    have:=(oC (encs y.l) (s*du.sz X) (du.sz X) 0 (v b) (by rw[kV y.l s b Q7,hv];rfl)).2
    simpa using this
   simp only[List.range'_succ,Op.eqElems,Sem.run_bind,gO w ha ga,gO w ha gb,Result.andThen_ok,he d a b w ac_]
   have hx:x.l.drop s=a::x.l.drop (s+1):=by
    obtain⟨h1,h2⟩:=aap.1 hxa
    rw[←h2];exact acj h1
   have hy:y.l.drop s=b::y.l.drop (s+1):=by
    obtain⟨h1,h2⟩:=aap.1 Q7
    rw[←h2];exact acj h1
   rw[hx,hy]
   by_cases hab:a=b
   ·subst hab
    simp only[decide_true,abK,abq,if_false,ih (s+1) ac_,List.cons.injEq,true_and]
   ·simp[hab]
 have:=key len 0 ac_
 rw[ach,this]
 simp only[ab6]
 congr 1
 rw[decide_eq_decide]
 exact⟨fun h=>Vec.ext h,fun h=>by rw[h]⟩
theorem jL{P:Program}{w:World}{d:Nat}{cx cy ux uy:List Value}{f:Field}{fs:List Field}{sz:Nat}{r:Bool}(hn:f.name ≠ "_") (ha:∀ w,(isAgg f.type).run P w = .ok true w) (hs:∀ w,(sizeOf f.type).run P w = .ok sz w)
  (hx:cut cx f.offset sz=ux) (hy:cut cy f.offset sz=uy) (he:(Op.equalIn d f.type (.agg ux.toArray) (.agg uy.toArray)).run P w = .ok r w) :
  (Op.eqFields d cx.toArray cy.toArray (f::fs)).run P w=if r then(Op.eqFields d cx.toArray cy.toArray fs).run P w else .ok false w:=by
 simp only[Op.eqFields,aay hn,Sem.run_bind,gN w ha hs hx,gN w ha hs hy,Result.andThen_ok,he]
 cases r<;>simp
theorem dS{P:Program}{w:World}{d:Nat}{cx cy:List Value}{ux uy:Value}{f:Field}{fs:List Field}{r:Bool}(hn:f.name ≠ "_") (ha:∀ w,(isAgg f.type).run P w = .ok false w)
  (hx:cx[f.offset]? = some ux) (hy:cy[f.offset]? = some uy) (he:(Op.equalIn d f.type ux uy).run P w = .ok r w) :
  (Op.eqFields d cx.toArray cy.toArray (f::fs)).run P w=if r then(Op.eqFields d cx.toArray cy.toArray fs).run P w else .ok false w:=by
 simp only[Op.eqFields,aay hn,Sem.run_bind,gO w ha hx,gO w ha hy,Result.andThen_ok,he]
 cases r<;>simp
theorem iC{P:Program}{w:World}{d:Nat}{cx cy:Array Value}:(Op.eqFields d cx cy []).run P w = .ok true w:=by simp[Op.eqFields]
section
variable {P:Program}{n:Nat}{F:List (Nat×Value)}{a:Act}{dd:List Deferred}{w:World}{o:Oper}
theorem lY{t yt:TypeId}{x y:Operand}{cx cy:List Value}{r:Bool}(hg:P.eqGuardType P.depth t=false)(he:(Op.equalIn 10000 t (.agg cx.toArray) (.agg cy.toArray)).run P w = .ok r w)
  (hF:Fr n F a dd) (ho:o.op = .binOp .neq t x y yt) (hx:ev F x=some (.agg cx.toArray)) (hy:ev F y=some (.agg cy.toArray)):(execOp a.eval o).run P w = .ok (.value (.bool (!r))) w:=by
 simp only[execOp,ho,hF.eval hx,hF.eval hy,Sem.run_bind,run_eqGuard_agg w .neq t x y _ _ hg,Result.andThen_ok,run_neq_struct,he,Sem.run_pure]
end
end Go.Fw
end
section
namespace Go.Fw
section
variable {P:Program}{n:Nat}{F:List (Nat×Value)}{a:Act}{dd:List Deferred}{w:World}{o:Oper}
def byteOf(x:Int):UInt8:=UInt8.ofNat (x%256).toNat
theorem FP(x:Int):((byteOf x).toNat:Int)=x%256:=by
 unfold byteOf
 rw[UInt8.toNat_ofNat']
 omega
theorem wrap_u8(x:Int):IntKind.u8.wrap x=((byteOf x).toNat:Int):=by
 rw[FP,IntKind.wrap_u8]
theorem fK{s d:TypeId}{x:Operand}{ds:TypeDesc}{k:IntKind}{i:Int}(hs:P.underlying s=some ds)(hd:P.underlying d=some (.int .u8))(hF:Fr n F a dd)(ho:o.op = .convert s d x)(hx:ev F x=some (.int k i)) :
  (execOp a.eval o).run P w = .ok (.value (.int .u8 ((byteOf i).toNat:Int))) w:=by rw[D9 hs hd hF ho hx,wrap_u8]
def Ja:IntKind→Bool
 | .i8=>false
 | _=>true
theorem UF{k:IntKind}(hk:Ja k=true)(b:UInt8):k.wrap (b.toNat:Int)=(b.toNat:Int):=by
 have:=b.toNat_lt
 cases k
 ·cases hk
 ·exact IntWalk.i16_in _ ac_
 ·exact IntWalk.i32_in _ ac_
 ·exact IntWalk.i64_in _ ac_
 ·exact IntWalk.u8_in _ ac_
 ·exact IntWalk.u16_in _ ac_
 ·exact IntWalk.u32_in _ ac_
 ·exact IntWalk.u64_in _ ac_
theorem tK{s d:TypeId}{x:Operand}{ds:TypeDesc}{k:IntKind}{b:UInt8}(hs:P.underlying s=some ds)(hd:P.underlying d=some (.int k))(hk:Ja k=true)(hF:Fr n F a dd)(ho:o.op = .convert s d x)(hx:ev F x=some (.int .u8 (b.toNat:Int))) :
  (execOp a.eval o).run P w = .ok (.value (.int k (b.toNat:Int))) w:=by rw[D9 hs hd hF ho hx,UF hk]
theorem wL{t:TypeId}{x:Operand}{i:Nat}{fs:Array Field}{f:Field}{cs:List Value}{v:Value}(ht:P.underlying t=some (.struct fs))(hf:fs[i]? = some f)(ha:∀ w,(isAgg f.type).run P w = .ok false w)(hF:Fr n F a dd)(ho:o.op = .field t x i)
  (hx:ev F x=some (.agg cs.toArray)) (hv:cs[f.offset]? = some v):(execOp a.eval o).run P w = .ok (.value v) w:=by
 simp[execOp,ho,hF.eval hx,Instr.field,run_underlying ht,hf,asAgg,gO w ha hv]
theorem pA(vs:List Value):∀ (k off:Nat) (cs:List Value),off+k+vs.length≤cs.length→(vs.zipIdx k).foldl (fun(acc:Array Value) (p:Value×Nat)=>acc.setIfInBounds (off+p.2) p.1) cs.toArray=(put cs (off+k) vs).toArray:=by
 induction vs with
 | nil=>intro k off cs _;simp[put]
 | cons v vs ih =>
  intro k off cs h
  simp only[abm]at h
  simp only[List.zipIdx_cons,ack,List.setIfInBounds_toArray]
  rw[ih (k+1) off (cs.set (off+k) v) (by simp;omega)]
  congr 1
  unfold put
  rw[abZ,aay ac_]
  have h1:(cs.take (off+k)).length=off+k:=by simp;omega
  simp only[abm]
  rw[show off+(k+1)=off+k+1 by omega]
  rw[List.take_append,List.drop_append,h1]
  simp only[show off+k+1-(off+k)=1 by omega,show off+k+1+vs.length-(off+k)=vs.length+1 by omega,acm,List.take_zero,List.drop_succ_cons]
  rw[abW (by rw[h1];omega),aci (by rw[h1];omega)]
  simp
  congr 1
  omega
theorem bD{place:Nat→Option (Nat×Nat)}{cs:List Value}:Instr.fill place cs.toArray []=some cs.toArray:=rfl
theorem fC{place:Nat→Option (Nat×Nat)}{cs cs' vs:List Value}{i off sz:Nat}{rest:List (Nat×Value)}{r:Array Value}(hp:place i=some (off,sz))(hl:vs.length=sz)(hle:off+vs.length≤cs.length)(qa:put cs off vs=cs')(h:Instr.fill place cs'.toArray rest=some r) :
  Instr.fill place cs.toArray ((i,.agg vs.toArray)::rest)=some r:=by
 subst qa hl
 have hf:=pA vs 0 off cs ac_
 simp only[abX]at hf
 simp only[Instr.fill,hp,Value.cells,abY,ne_eq,not_true_eq_false,decide_false,acn,aad]
 rw[aaz ac_,←aco,acp]
 simp only[hf]
 exact h
theorem aP{place:Nat→Option (Nat×Nat)}{cs cs':List Value}{v:Value}{i off:Nat}{rest:List (Nat×Value)}{r:Array Value}(hp:place i=some (off,1))(hv:v.oneCell' = true)(hle:off<cs.length)(qa:cs.set off v=cs')(h:Instr.fill place cs'.toArray rest=some r) :
  Instr.fill place cs.toArray ((i,v)::rest)=some r:=by
 subst qa
 have hc:v.cells = [v].toArray:=by cases v<;>first|rfl|cases hv
 have hf:=pA [v] 0 off cs (by simp;omega)
 simp only[abX]at hf
 simp only[Instr.fill,hp,hc,abY,abm,abV,ab_,ne_eq,not_true_eq_false,decide_false,acn,aad]
 rw[aaz ac_,←aco,acp]
 simp only[hf]
 rw[abZ,aay hle]at h
 simpa[put]using h
def vh(P:Program)(t:TypeId):Sem (Array (Nat×Nat)):=(P.fieldsOf t).mapM fun f=>do pure (f.offset,←sizeOf f.type)
theorem aW{t:TypeId}{fs:Array Field}{pl:Array (Nat×Nat)}{zs cs:List Value}{parts:List (Nat×Operand)}{vM:List (Nat×Value)}(hz:∀ w,(zeroValue t).run P w = .ok (.agg zs.toArray) w)(hu:P.underlying t=some (.struct fs))
  (hp:∀ w,(vh P t).run P w = .ok pl w) (hF:Fr n F a dd) (ho:o.op = .build t parts.toArray) (hx:wu F parts=some vM) (po:Instr.fill (pl[·]?) zs.toArray vM=some cs.toArray) :
  (execOp a.eval o).run P w = .ok (.value (.agg cs.toArray)) w:=by
 have hps:(parts.toArray.map fun(i,x)=>(i,a.eval x)).toList=vM:=by
  simp only[ab0]
  exact hF.evalps hx
 simp only[vh,Program.fieldsOf,hu]at hp
 simp only[execOp,ho,Instr.build,Sem.run_bind,hz,Result.andThen_ok,Value.cells,run_underlying hu,hp,hps,po,Sem.run_pure]
end
theorem cE{G:Prop}{n:Nat}{F:List (Nat×Value)}{a:Act}{dd:List Deferred}{b:Bool}(t:Nat)(ZN:Fr n F a dd)(_h:look F t=some (.bool b))(h1:b=true→G)(h2:b=false→G):G:=by
 cases b
 ·exact h2 rfl
 ·exact h1 rfl
theorem G1{b:Bool}(h:b=true):(!b)=false:=by rw[h];rfl
theorem G0{b:Bool}(h:b=false):(!b)=true:=by rw[h];rfl
section
variable {r:Option Nat}{P:Program}{Q:Exit→Act→World→Prop}{a:Act}{dd:List Deferred}{w:World}{n:Nat}{F:List (Nat×Value)}{L:List di}
theorem Fr.first{G:List (Nat×Value)}{ks:List Nat}(h:Fr n F a dd)(hG:allIn F G):Fr n (G++qd F ks) a dd :=
 h.head G ks (qE hG)
theorem au.tail{r:di}(h:au w (r::L)):au w L:=by
 constructor
 ·intro i s hi;exact h.hold (i+1) s hi
 ·intro i j s t hi hj hij;exact h.apart (i+1) (j+1) s t hi hj ac_
theorem OM{c:Operand}{x y:Code}{b:Bool}(hF:Fr n F a dd)(hc:ev F c=some (.bool b))(hb:b=true)(h:Wp r P x Q a w):Wp r P (.cond c x y) Q a w:=wpIn_cond_true (by rw[hF.eval hc,hb]) h
theorem zZ{c:Operand}{x y:Code}{b:Bool}(hF:Fr n F a dd)(hc:ev F c=some (.bool b))(hb:b=false)(h:Wp r P y Q a w):Wp r P (.cond c x y) Q a w:=wpIn_cond_false (by rw[hF.eval hc,hb]) h
theorem PO{ops:Array Oper}{o:Oper}{g t:Nat}{want:Bool}(hF:Fr n F a dd)(hg:o.guard=some (g,want))(ht:(ops[g]?).bind (·.dst)=some t)(hc:look F t=some undef) :
  Region.wanted o (yielded ops a.tmps)=false:=by
 have:=hF.get t _ hc
 simp[Region.wanted,hg,yielded,ht,this,undef]
theorem gR{ops:Array Oper}{o:Oper}{rest:List Oper}{d:Nat}{g t:Nat}{want:Bool}(hF:Fr n F a dd)(hg:o.guard=some (g,want))(ht:(ops[g]?).bind (·.dst)=some t)(hc:look F t=some undef)
  (hd:o.dst=some d) (hn:Nat.blt d n=true)
  (next:∀ a',Fr n ((d,undef)::F) a' dd→vi r P ops Q rest a' w):vi r P ops Q (o::rest) a w :=
 wpListIn_step fun _ hK=>by
  rw[aaz (by rw[PO hF hg ht hc];exact aaA)]
  exact⟨fun _ _=>trivial,hK _ _ (by rw[hd];exact next _ (hF.put hn))⟩
variable {ops:Array Oper}{T:List Nat}{C:World→Prop}{Ls:List di}{o:Oper}{d:Nat}{v:Value}
theorem aK(hF:Fr n F a dd)(hc:chk ops=true)(i:Nat)(ho:ops[i]? = some o)(hok:Be ops T i=true)(hg:o.guard=none)(hd:o.dst=some d)(hn:Nat.blt d n=true)
  (hr:∀ w,au w Ls→(execOp a.eval o).run P w = .ok (.value v) w) (next:∀ a',Fr n ((d,v)::F) a' dd→DW r P ops Q (i::T) (au · Ls) C a'):DW r P ops Q T (au · Ls) C a :=
 F9 hc ho hok (fun w hw=>.inl ⟨by simp[Region.wanted,hg],hr w hw⟩) (by rw[hd];exact next _ (hF.put hn))
theorem cU{g t:Nat}{want c:Bool}(hF:Fr n F a dd)(hc:chk ops=true)(i:Nat)(ho:ops[i]? = some o)(hok:Be ops T i=true)(hg:o.guard=some (g,want))(ht:(ops[g]?).bind (·.dst)=some t)(hb:look F t=some (.bool c))(hw:c=want)(hd:o.dst=some d)(hn:Nat.blt d n=true)
  (hr:∀ w,au w Ls→(execOp a.eval o).run P w = .ok (.value v) w) (next:∀ a',Fr n ((d,v)::F) a' dd→DW r P ops Q (i::T) (au · Ls) C a'):DW r P ops Q T (au · Ls) C a :=
 F9 hc ho hok (fun w hx=>.inl ⟨qY hF hg ht hb hw,hr w hx⟩) (by rw[hd];exact next _ (hF.put hn))
theorem cS{g t:Nat}{want c:Bool}(hF:Fr n F a dd)(hc:chk ops=true)(i:Nat)(ho:ops[i]? = some o)(hok:Be ops T i=true)(hg:o.guard=some (g,want))(ht:(ops[g]?).bind (·.dst)=some t)(hb:look F t=some (.bool c))(hw:c = !want)(hd:o.dst=some d)(hn:Nat.blt d n=true)
  (next:∀ a',Fr n ((d,undef)::F) a' dd→DW r P ops Q (i::T) (au · Ls) C a'):DW r P ops Q T (au · Ls) C a :=
 F9 hc ho hok (fun _ _=>.inr ⟨Ed hF hg ht hb hw,rfl⟩) (by rw[hd];exact next _ (hF.put hn))
theorem dK{g t:Nat}{want:Bool}(hF:Fr n F a dd)(hc:chk ops=true)(i:Nat)(ho:ops[i]? = some o)(hok:Be ops T i=true)(hg:o.guard=some (g,want))(ht:(ops[g]?).bind (·.dst)=some t)(hb:look F t=some undef)(hd:o.dst=some d)(hn:Nat.blt d n=true)
  (next:∀ a',Fr n ((d,undef)::F) a' dd→DW r P ops Q (i::T) (au · Ls) C a'):DW r P ops Q T (au · Ls) C a :=
 F9 hc ho hok (fun _ _=>.inr ⟨PO hF hg ht hb,rfl⟩) (by rw[hd];exact next _ (hF.put hn))
theorem cA(hF:Fr n F a dd)(e:Nat)(ho:ops[e]? = some o)(hns:lu o=true)(hg:o.guard=none)(hd:o.dst=some d)(hn:Nat.blt d n=true)
  (hy:∀ w,au w Ls→au w L→Yd P o a.eval w (fun v w'=>∃ oq L',au w' oq∧au w' L' ∧ ((∀ x,au x oq→au x Ls)∨sync ops T e=true) ∧ ∀ a',Fr n ((d,v)::F) a' dd→DW r P ops Q (e::T) (au · oq) (au · L') a')) :
  Ex r P ops Q T (au · Ls) (au · L) a e :=
 ⟨o,ho,by simp[Region.wanted,hg],hns,fun w h1 h2=>(hy w h1 h2).mono fun v w' ⟨oq,L',h3,h4,h5,h6⟩=>⟨_,_,h3,h4,h5.imp id K_,by rw[hd];exact h6 _ (hF.put hn)⟩⟩
theorem lK{g t:Nat}{want c:Bool}(hF:Fr n F a dd)(e:Nat)(ho:ops[e]? = some o)(hns:lu o=true)(hg:o.guard=some (g,want))(ht:(ops[g]?).bind (·.dst)=some t)(hb:look F t=some (.bool c))(hw:c=want)(hd:o.dst=some d)(hn:Nat.blt d n=true)
  (hy:∀ w,au w Ls→au w L→Yd P o a.eval w (fun v w'=>∃ oq L',au w' oq∧au w' L' ∧ ((∀ x,au x oq→au x Ls)∨sync ops T e=true) ∧ ∀ a',Fr n ((d,v)::F) a' dd→DW r P ops Q (e::T) (au · oq) (au · L') a')) :
  Ex r P ops Q T (au · Ls) (au · L) a e :=
 ⟨o,ho,qY hF hg ht hb hw,hns,fun w h1 h2=>(hy w h1 h2).mono fun v w' ⟨oq,L',h3,h4,h5,h6⟩=>⟨_,_,h3,h4,h5.imp id K_,by rw[hd];exact h6 _ (hF.put hn)⟩⟩
theorem eT(e:Nat)(ho:ops[e]? = some o)(hns:lu o=true)(hg:o.guard=none)(hd:o.dst=none)
  (hy:∀ w,au w Ls→au w L→Yd P o a.eval w (fun _ w'=>∃ oq L',au w' oq∧au w' L' ∧ ((∀ x,au x oq→au x Ls)∨sync ops T e=true)∧DW r P ops Q (e::T) (au · oq) (au · L') a)) :
  Ex r P ops Q T (au · Ls) (au · L) a e :=
 ⟨o,ho,by simp[Region.wanted,hg],hns,fun w h1 h2=>(hy w h1 h2).mono fun v w' ⟨oq,L',h3,h4,h5,h6⟩=>⟨_,_,h3,h4,h5.imp id K_,by rw[hd];exact h6⟩⟩
theorem bN{Cs:World→Prop}(hc:chk ops=true)(e:Nat)(hb:blk ops T [e]=true)(hl:Nat.blt e ops.size=true)(hT:ji e T=false)(h:Ex r P ops Q T Cs C a e):DW r P ops Q T Cs C a :=
 J8 hc [e] hb ⟨e,by simp,aae hl,hT⟩ ⟨h,trivial⟩
theorem fM{Cs:World→Prop}(hc:chk ops=true)(e f:Nat)(hb:blk ops T [e,f]=true)(hl:Nat.blt e ops.size=true)(hT:ji e T=false)(h:Ex r P ops Q T Cs C a e)(h':Ex r P ops Q T Cs C a f):DW r P ops Q T Cs C a :=
 J8 hc [e,f] hb ⟨e,by simp,aae hl,hT⟩ ⟨h,h',trivial⟩
theorem vZ{Cs:World→Prop}(hc:chk ops=true)(e f g:Nat)(hb:blk ops T [e,f,g]=true)(hl:Nat.blt e ops.size=true)(hT:ji e T=false)(h:Ex r P ops Q T Cs C a e)(h':Ex r P ops Q T Cs C a f)(h'':Ex r P ops Q T Cs C a g):DW r P ops Q T Cs C a :=
 J8 hc [e,f,g] hb ⟨e,by simp,aae hl,hT⟩ ⟨h,h',h'',trivial⟩
theorem dJ{Cs:World→Prop}(hc:chk ops=true)(hall:tt ops T=true)(h:∀ w,au w L→Q .normal a w):DW r P ops Q T Cs (au · L) a:=Qc hc hall h
end
end Go.Fw
end
section
namespace Go.Proofs
open Go.Fw
set_option maxRecDepth 20000
def aj.zero:aj:=⟨0,0,0,0⟩
def bn.zero:bn:=⟨aj.zero,⟨List.replicate 8 0,rfl⟩,0⟩
def dM.zero:dM:=⟨0,aj.zero,aj.zero⟩
def d_.zero:d_:=⟨0,bn.zero,bn.zero⟩
def bk.zero:bk:=⟨0,0,SV.nil,SV.nil⟩
def bw.zero:bw:=⟨0,0,false,SV.nil,SV.nil,SV.nil,SV.nil⟩
def bu.zero:bu:=⟨SV.nil,SV.nil⟩
def bp.zero:bp:=⟨bu.zero,SV.nil,0⟩
def gP.zero:gP:=⟨0,0⟩
def bg.zero:bg:=⟨0,false,false,0,0,0,0,0⟩
def bj.zero:bj:=⟨0,0,SV.nil,SV.nil,SV.nil⟩
def bf.zero:bf:=⟨⟨List.replicate 11 aj.zero,rfl⟩,⟨List.replicate 32 bn.zero,rfl⟩,SV.nil,SV.nil,SV.nil,0,0,false⟩
def fj.zero:fj:=⟨0,SV.nil,SV.nil,SV.nil⟩
def gp.zero:gp:=⟨SV.nil⟩
def h_.zero:h_:=⟨SV.nil,0,0,0⟩
def g_.zero:g_:=⟨SV.nil,0,0,0⟩
def bq.zero:bq:=⟨⟨List.replicate 32 bn.zero,rfl⟩,SV.nil,SV.nil,SV.nil,SV.nil⟩
def af.zero:af:=⟨bq.zero,SV.nil,SV.nil,none,⟨List.replicate 11 aj.zero,rfl⟩,SV.nil,0,0,false⟩
def yq.zero:yq:=⟨false,0,0,0⟩
def RM.zero:RM:=⟨bj.zero,SV.nil,⟨List.replicate 11 aj.zero,rfl⟩,⟨List.replicate 256 yq.zero,rfl⟩,SV.nil,SV.nil,SV.nil,SV.nil,0,0,false⟩
def ay.zero:ay:=⟨0,0,0,false,false,0,0,0,0,0,false⟩
def cj.zero:cj:=⟨0,0,false,false⟩
def gd.zero:gd:=⟨SV.nil,cj.zero⟩
def iR.zero:iR:=⟨SV.nil⟩
def f_.zero:f_:=⟨0,0⟩
def fR.zero:fR:=⟨0,0⟩
end Go.Proofs
end
section
namespace Go.Fw
structure eo where
 least:Int
 most:Int
deriving DecidableEq
def eo.enc(x:eo):List Value:=[.int .i64 x.least,.int .i64 x.most]
theorem eo.len(x:eo):x.enc.length=2:=rfl
theorem eo.one(x:eo):∀ u∈x.enc,u.oneCell' = true:=(acf.2 ⟨rfl,(acf.2 ⟨rfl,(fun _ h=>absurd h abN)⟩)⟩)
instance:du eo:=⟨eo.enc,2,eo.len,eo.one,by decide⟩
theorem eo.g_least(x:eo):x.enc[0]? = some (.int .i64 x.least):=rfl
theorem eo.s_least(x:eo)(y:Int):x.enc.set 0 (.int .i64 y) = { x with least:=y }.enc:=rfl
theorem eo.g_most(x:eo):x.enc[1]? = some (.int .i64 x.most):=rfl
theorem eo.s_most(x:eo)(y:Int):x.enc.set 1 (.int .i64 y) = { x with most:=y }.enc:=(congrArg (List.cons _) rfl)
structure ez where
 from_:Int
deriving DecidableEq
def ez.enc(x:ez):List Value:=[.int .i64 x.from_]
theorem ez.len(x:ez):x.enc.length=1:=rfl
theorem ez.one(x:ez):∀ u∈x.enc,u.oneCell' = true:=(acf.2 ⟨rfl,(fun _ h=>absurd h abN)⟩)
instance:du ez:=⟨ez.enc,1,ez.len,ez.one,by decide⟩
theorem ez.g_from_(x:ez):x.enc[0]? = some (.int .i64 x.from_):=rfl
theorem ez.s_from_(x:ez)(y:Int):x.enc.set 0 (.int .i64 y) = { x with from_:=y }.enc:=rfl
structure bX where
 many:Int
 span:cj
deriving DecidableEq
def bX.enc(x:bX):List Value:=.int .i64 x.many::cj.enc x.span
theorem bX.len(x:bX):x.enc.length=5:=by
 have h0:(cj.enc x.span).length=4:=cj.len x.span
 simp[bX.enc,h0]
theorem bX.one(x:bX):∀ u∈x.enc,u.oneCell' = true:=(acf.2 ⟨rfl,(cj.one x.span)⟩)
instance:du bX:=⟨bX.enc,5,bX.len,bX.one,by decide⟩
theorem bX.g_many(x:bX):x.enc[0]? = some (.int .i64 x.many):=rfl
theorem bX.s_many(x:bX)(y:Int):x.enc.set 0 (.int .i64 y) = { x with many:=y }.enc:=rfl
theorem bX.c_span(x:bX):cut x.enc 1 4=x.span.enc:=(iK (o:=0) (cG (n:=4) (cj.len x.span)))
theorem bX.p_span(x:bX)(y:cj):put x.enc 1 (y.enc) = { x with span:=y }.enc:=(iM (o:=0) (bF (Eq.trans (b:=4) (cj.len x.span) (Eq.symm (cj.len y)))))
end Go.Fw
namespace Go.Proofs
open Go.Fw
def eo.zero:eo:=⟨0,0⟩
def ez.zero:ez:=⟨0⟩
def bX.zero:bX:=⟨0,cj.zero⟩
end Go.Proofs
end
section
namespace Go.Fw
abbrev ak{X:Type}[du X](lo:Nat)(s:SV)(e:TypeId)(l:List X):di:=.row lo s.v e (du.sz X) l.length (encs l)
abbrev Own{X:Type}[du X](lo:Nat)(w:World)(e:TypeId)(s:SV)(l:List X):Prop:=w.ownsRow lo e (du.sz X) s.v l.length (encs l)
theorem Own.nil{X:Type}[du X](lo:Nat)(w:World)(e:TypeId):Own lo w e SV.nil ([]:List X):=World.ownsRow_nil w lo e (du.sz X)
theorem Own.len{X:Type}[du X]{lo e:Nat}{w:World}{s:SV}{l:List X}(h:Own lo w e s l):s.len=l.length:=by
 rcases h.2 with⟨h1,h2⟩|⟨g,cap,cur,h1,_⟩
 ·obtain⟨a,b,c⟩:=s;cases h1;exact h2.symm
 ·obtain⟨a,b,c⟩:=s;cases h1;rfl
theorem Own.slice{X:Type}[du X]{lo e:Nat}{w:World}{s:SV}{l:List X}(h:Own lo w e s l):cg lo w s l:=by
 refine⟨h.len,?_,?_⟩
 ·rcases h.2 with⟨h1,h2⟩|⟨g,cap,cur,h1,h3,h4,h5,h6,h7,h8⟩
  ·obtain⟨a,b,c⟩:=s;cases h1;exact aal _
  ·obtain⟨a,b,c⟩:=s;cases h1;exact h5
 rcases h.2 with⟨h1,h2⟩|⟨g,cap,cur,h1,h3,h4,h5,h6,h7,h8⟩
 ·obtain⟨a,b,c⟩:=s;cases h1
  exact⟨ab9 h2,rfl⟩
 ·obtain⟨a,b,c⟩:=s;cases h1
  refine⟨.inr rfl,h3,fun j v hv=>?_⟩
  rw[←h8,aav]at hv
  split at hv
  ·simp only[ab_,World.cell?,h4]
   simpa using hv
  ·cases hv
theorem Own.now{X:Type}[du X]{lo lo' e:Nat}{S:List Nat}{w1 w:World}{s:SV}{l:List X}(h:Own lo w1 e s l)(hs:Same lo' S w1 w)(hlo:lo' ≤ lo)(hS:∀ b∈S,b<lo):Own lo w e s l:=by
 refine⟨h.1,?_⟩
 rcases h.2 with h1|⟨g,cap,cur,h1,h3,h4,r⟩
 ·exact .inl h1
 ·refine .inr ⟨g,cap,cur,h1,h3,?_,r⟩
  rw[hs.block g ac_ (aao.1 h4).1 (fun hm=>by have:=hS g hm;omega)]
  exact h4
theorem Own.keep{X:Type}[du X]{lo e:Nat}{w w':World}{s:SV}{l:List X}(h:Own lo w e s l)(k:gw [] w w'):Own lo w' e s l :=
 h.now (lo':=0) (S:=[]) ⟨k.size,fun j _ hj _=>k.block j hj (by simp)⟩ (aau _) (by simp)
theorem Own.mono{X:Type}[du X]{lo lo' e:Nat}{w:World}{s:SV}{l:List X}(h:Own lo w e s l)(hl:lo' ≤ lo):Own lo' w e s l:=by
 refine⟨h.1,?_⟩
 rcases h.2 with h1|⟨g,cap,cur,h1,h3,r⟩
 ·exact .inl h1
 ·exact .inr ⟨g,cap,cur,h1,ac_,r⟩
section
variable {w w':World}{L:List di}
theorem au.rowNil(h:au w L){X:Type}[du X](lo e:Nat):au w (ak lo SV.nil e ([]:List X)::L) :=
 h.add (gw.refl w) (Own.nil lo w e) fun j hj=>by simp[di.fp,Value.ownBlock]at hj
theorem au.own(h:au w L){X:Type}[du X]{i lo e:Nat}{s:SV}{l:List X}(hi:L[i]? = some (ak lo s e l)):Own lo w e s l:=h.row hi
theorem au.rowS(h:au w L){X:Type}[du X]{i lo e:Nat}{s:SV}{l:List X}(hi:L[i]? = some (ak lo s e l)):cg lo w s l:=Own.slice (h.own hi)
theorem au.ptS(h:au w L){X:Type}[du X]{i b e n c:Nat}{l:List X}{cs:List Value}(hi:L[i]? = some (pt b cs e))(hc:cs=encs l)(hn:n=l.length)(hcap:n≤c):cg b w ⟨some ⟨b,0,none⟩,n,c⟩ l:=by
 subst hc hn
 exact⟨rfl,hcap,.inr rfl,aal _,fun j v hv=>FD (h.obj hi) (by rw[ab_];exact hv)⟩
end
section
variable {P:Program}{n:Nat}{F:List (Nat×Value)}{a:Act}{dd:List Deferred}{w:World}{o:Oper}{J:Value→World→Prop}
theorem Ec{X:Type}[du X]{x y:Operand}{t e lo lo' bytes:Nat}{s sx:SV}{xs l:List X}{i:TypeInfo}{z:Value}(ht:P.underlying t=some (.slice e))(hi:P.info? e=some i)(hz:i.zero=some z)
  (hsize:i.size=du.sz X) (yk:i.bytes=bytes) (tg:z.cells.size=du.sz X)
  (hF:Fr n F a dd) (ho:o.op = .call { callee:=.builtin .append,args:=#[x,y],argTypes:=#[t,t] }) (hx:ev F x=some s.v) (hy:ev F y=some sx.v)
  (hown:Own lo w e s xs) (hsx:cg lo' w sx l) (hb:(xs.length+l.length)*bytes≤140737488355328∧xs.length+l.length≤4611686018427387904) (hlo:lo≤w.heap.size)
  (next:∀ (s':SV) w',oa (ak lo s e xs) (ak lo s' e (xs++l)) w w' → s'.len=(xs++l).length→J s'.v w'):Yd P o a.eval w J:=by
 refine VJ ht hi hz hsize yk tg hF ho hx hy hown hsx (by simp only[maxLen];omega) hb.1 hlo fun s' w' hU hl=>next s' w' ?_ (by rw[hl,abT])
 rw[←abT,←dY]at hU
 exact hU
theorem bO{X:Type}[du X]{t e:Nat}{x:Operand}{y:X}{v:Value}{ie:TypeInfo}{z:Value}(hu:P.underlying t=some (.slice e))(hie:P.info? e=some ie)(hz:ie.zero=some z)(hs:ie.size=du.sz X)(tg:z.cells.size=du.sz X)
  (EU:Nat.ble (1*du.sz X) 16777216=true) (hF:Fr n F a dd) (ho:o.op = .buildSlice t 1 #[(0,x)]) (hx:ev F x=some v) (hv:v.cells=(du.enc y).toArray)
  (next:∀ b w',w.heap.size=b→iz (pt b (encs [y]) e) w w' → J (SV.v ⟨some ⟨b,0,none⟩,1,1⟩) w'):Yd P o a.eval w J:=by
 have hpos:=du.pos (X:=X)
 refine xD (parts:=[(0,x)]) (vM:=[(0,v)]) (cs:=encs [y]) hu hie hz hs hF ho (by simp[wu,hx]) EU (by cases h:du.sz X with|zero=>omega|succ k=>rw[acr];rfl) ?_ next
 have hlen:(du.enc y).length=du.sz X:=du.len y
 have hz0:((Array.range (1*du.sz X)).map (z.cells[· % z.cells.size]!))=(((Array.range (1*du.sz X)).map (z.cells[· % z.cells.size]!)).toList).toArray:=(acs).symm
 rw[hz0]
 generalize hL:((Array.range (1*du.sz X)).map (z.cells[· % z.cells.size]!)).toList=zl
 have Gp:zl.length=du.sz X:=by rw[←hL];simp
 have po:Instr.fill (fun i=>some (i*du.sz X,du.sz X)) zl.toArray ((0,v) :: [])=some ((du.enc y)).toArray:=by
  have hf:=pA (du.enc y) 0 0 zl ac_
  simp only[abX]at hf
  simp only[Instr.fill,hv,abY,hlen,ne_eq,not_true_eq_false,decide_false,acn,ab5,ab_,Gp,abJ,gt_iff_lt,abq,if_false]
  rw[←aco,acp]
  simp only[ab_]at hf
  simp only[hf,bF (Gp.trans hlen.symm)]
 rw[po,wB]
end
end Go.Fw
end
section
namespace Go.Fw
structure cn{A B:Type}(R:A→B→Prop)(hs:List A)(l:List B):Prop where
 len:hs.length=l.length
 at_:∀ (i:Nat) h p,hs[i]? = some h→l[i]? = some p→R h p
theorem cn.nil{A B:Type}{R:A→B→Prop}:cn R ([]:List A) ([]:List B):=⟨rfl,fun i h p hh=>by simp at hh⟩
theorem cn.mono{A B:Type}{R R':A→B→Prop}{hs:List A}{l:List B}(h:cn R hs l)(k:∀ x y,R x y→R' x y):cn R' hs l:=⟨h.len,fun i x y hx hy=>k x y (h.at_ i x y hx hy)⟩
theorem cn.snoc{A B:Type}{R:A→B→Prop}{hs:List A}{l:List B}{x:A}{y:B}(h:cn R hs l)(k:R x y):cn R (hs ++ [x]) (l ++ [y]):=by
 refine⟨by simp[h.len],fun i a b ha hb=>?_⟩
 by_cases hi:i<hs.length
 ·rw[aaZ hi]at ha
  rw[aaZ (by rw[←h.len];exact hi)]at hb
  exact h.at_ i a b ha hb
 ·rw[aa0 ac_]at ha
  rw[aa0 (by rw[←h.len];omega)]at hb
  have hi0:i-hs.length=0:=by
   have:=(aap.1 ha).1
   simp at this;omega
  rw[←h.len]at hb
  rw[hi0]at ha hb
  simp at ha hb
  subst ha hb
  exact k
theorem cn.append{A B:Type}{R:A→B→Prop}{hs hs':List A}{l l':List B}(h:cn R hs l)(k:cn R hs' l'):cn R (hs++hs') (l++l'):=by
 refine⟨by simp[h.len,k.len],fun i a b ha hb=>?_⟩
 by_cases hi:i<hs.length
 ·rw[aaZ hi]at ha
  rw[aaZ (by rw[←h.len];exact hi)]at hb
  exact h.at_ i a b ha hb
 ·rw[aa0 ac_]at ha
  rw[aa0 (by rw[←h.len];omega)]at hb
  rw[←h.len]at hb
  exact k.at_ _ a b ha hb
theorem cn.get{A B:Type}{R:A→B→Prop}{hs:List A}{l:List B}(h:cn R hs l){i:Nat}(hi:i<l.length):∃ x y,hs[i]? = some x∧l[i]? = some y∧R x y:=by
 have h1:=aa1 (l:=hs) (i:=i) (by rw[h.len];exact hi)
 have h2:=aa1 (l:=l) (i:=i) hi
 exact⟨_,_,h1,h2,h.at_ i _ _ h1 h2⟩
theorem cn.take{A B:Type}{R:A→B→Prop}{hs:List A}{l:List B}(h:cn R hs l)(n:Nat):cn R (hs.take n) (l.take n):=by
 refine⟨by simp[h.len],fun i a b ha hb=>?_⟩
 rw[aav]at ha hb
 split at ha
 ·rename_i hi;rw[aay hi]at hb;exact h.at_ i a b ha hb
 ·cases ha
theorem cn.set{A B:Type}{R:A→B→Prop}{hs:List A}{l:List B}{x:A}{y:B}(h:cn R hs l)(i:Nat)(k:R x y):cn R (hs.set i x) (l.set i y):=by
 refine⟨by simp[h.len],fun j a b ha hb=>?_⟩
 by_cases hij:i=j
 ·subst hij
  rw[List.getElem?_set_self']at ha hb
  cases h1:hs[i]? with
  | none=>simp[h1]at ha
  | some _=>cases h2:l[i]? with
   | none=>simp[h2]at hb
   | some _=>simp[h1]at ha;simp[h2]at hb;subst ha hb;exact k
 ·rw[aaq hij]at ha hb;exact h.at_ j a b ha hb
structure t_{X:Type}[du X](lo:Nat)(w:World)(s:SV)(l:List X):Prop where
 sl:cg lo w s l
 big:l.length≤4294967296
structure sJ{X Y:Type}[du X](R:Nat→World→X→Y→Prop)(lo:Nat)(w:World)(s:SV)(hs:List X)(l:List Y):Prop where
 sl:cg lo w s hs
 big:l.length≤4294967296
 each:cn (R lo w) hs l
abbrev GF:=sJ (X:=SV) (Y:=List UInt8) t_
structure GM where
 cq:List UInt8
 tabs:List (List UInt8)
deriving DecidableEq
structure wh where
 a8:Vec aj 11
 bh:Vec bn 32
 cq:List UInt8
 tabs:List (List UInt8)
 a7:List Int
 at_:Int
 steps:Int
 done:Bool
deriving DecidableEq
structure ug where
 table:Int
 from_:Int
 old:List UInt8
 new:List UInt8
deriving DecidableEq
structure xj where
 at_:Int
 next:Int
 done:Bool
 a8:List dM
 slots:List d_
 dy:List ug
 a7:List Int
deriving DecidableEq
structure Cb where
 inp:GM
 dW:List xj
 end_:Int
deriving DecidableEq
structure vj(lo:Nat)(w:World)(x:bu)(p:GM):Prop where
 cq:t_ lo w x.cq p.cq
 tabs:∃ hs,GF lo w x.ah hs p.tabs
structure kY(lo:Nat)(w:World)(x:bk)(p:ug):Prop where
 table:x.table=p.table
 from_:x.from_=p.from_
 old:t_ lo w x.old p.old
 new:t_ lo w x.new p.new
structure wo(lo:Nat)(w:World)(x:bf)(p:wh):Prop where
 a8:x.a8=p.a8
 bh:x.bh=p.bh
 cq:t_ lo w x.cq p.cq
 tabs:∃ hs,GF lo w x.ah hs p.tabs
 a7:t_ lo w x.a7 p.a7
 at_:x.at_=p.at_
 steps:x.steps=p.steps
 done:x.done=p.done
structure nY(lo:Nat)(w:World)(x:bw)(p:xj):Prop where
 at_:x.at_=p.at_
 next:x.next=p.next
 done:x.done=p.done
 a8:t_ lo w x.a8 p.a8
 slots:t_ lo w x.slots p.slots
 dy:∃ hs,sJ kY lo w x.dy hs p.dy
 a7:t_ lo w x.a7 p.a7
structure ql(lo:Nat)(w:World)(x:bp)(p:Cb):Prop where
 inp:vj lo w x.qb p.inp
 dW:∃ hs,sJ nY lo w x.dW hs p.dW
 end_:x.end_=p.end_
section
variable {lo lo':Nat}{S:List Nat}{w1 w w':World}
theorem t_.nil{X:Type}[du X](lo:Nat)(w:World):t_ lo w SV.nil ([]:List X):=⟨cg.nil lo w,by simp⟩
theorem t_.now{X:Type}[du X]{s:SV}{l:List X}(h:t_ lo w1 s l)(hs:Same lo' S w1 w)(hlo:lo' ≤ lo)(hS:∀ b∈S,b<lo):t_ lo w s l:=⟨h.sl.now hs hlo hS,h.big⟩
theorem sJ.now{X Y:Type}[du X]{R:Nat→World→X→Y→Prop}(hR:∀ x y,R lo w1 x y→R lo w x y){s:SV}{hs:List X}{l:List Y}(h:sJ R lo w1 s hs l)(EU:Same lo' S w1 w)(hlo:lo' ≤ lo)(hS:∀ b∈S,b<lo):sJ R lo w s hs l :=
 ⟨h.sl.now EU hlo hS,h.big,h.each.mono hR⟩
theorem vj.now{x:bu}{p:GM}(h:vj lo w1 x p)(hs:Same lo' S w1 w)(hlo:lo' ≤ lo)(hS:∀ b∈S,b<lo):vj lo w x p :=
 ⟨h.cq.now hs hlo hS,h.tabs.imp fun _ k=>k.now (fun _ _ q=>q.now hs hlo hS) hs hlo hS⟩
theorem kY.now{x:bk}{p:ug}(h:kY lo w1 x p)(hs:Same lo' S w1 w)(hlo:lo' ≤ lo)(hS:∀ b∈S,b<lo):kY lo w x p :=
 ⟨h.table,h.from_,h.old.now hs hlo hS,h.new.now hs hlo hS⟩
theorem wo.now{x:bf}{p:wh}(h:wo lo w1 x p)(hs:Same lo' S w1 w)(hlo:lo' ≤ lo)(hS:∀ b∈S,b<lo):wo lo w x p :=
 ⟨h.a8,h.bh,h.cq.now hs hlo hS,h.tabs.imp fun _ k=>k.now (fun _ _ q=>q.now hs hlo hS) hs hlo hS,h.a7.now hs hlo hS,h.at_,h.steps,h.done⟩
theorem nY.now{x:bw}{p:xj}(h:nY lo w1 x p)(hs:Same lo' S w1 w)(hlo:lo' ≤ lo)(hS:∀ b∈S,b<lo):nY lo w x p :=
 ⟨h.at_,h.next,h.done,h.a8.now hs hlo hS,h.slots.now hs hlo hS,h.dy.imp fun _ k=>k.now (fun _ _ q=>q.now hs hlo hS) hs hlo hS,h.a7.now hs hlo hS⟩
theorem ql.now{x:bp}{p:Cb}(h:ql lo w1 x p)(hs:Same lo' S w1 w)(hlo:lo' ≤ lo)(hS:∀ b∈S,b<lo):ql lo w x p :=
 ⟨h.inp.now hs hlo hS,h.dW.imp fun _ k=>k.now (fun _ _ q=>q.now hs hlo hS) hs hlo hS,h.end_⟩
theorem t_.mono{X:Type}[du X]{s:SV}{l:List X}(h:t_ lo w s l)(hl:lo' ≤ lo):t_ lo' w s l:=⟨h.sl.mono hl,h.big⟩
theorem sJ.mono{X Y:Type}[du X]{R:Nat→World→X→Y→Prop}(hR:∀ x y,R lo w x y→R lo' w x y){s:SV}{hs:List X}{l:List Y}(h:sJ R lo w s hs l)(hl:lo' ≤ lo):sJ R lo' w s hs l:=⟨h.sl.mono hl,h.big,h.each.mono hR⟩
theorem vj.mono{x:bu}{p:GM}(h:vj lo w x p)(hl:lo' ≤ lo):vj lo' w x p:=⟨h.cq.mono hl,h.tabs.imp fun _ k=>k.mono (fun _ _ q=>q.mono hl) hl⟩
theorem kY.mono{x:bk}{p:ug}(h:kY lo w x p)(hl:lo' ≤ lo):kY lo' w x p:=⟨h.table,h.from_,h.old.mono hl,h.new.mono hl⟩
theorem wo.mono{x:bf}{p:wh}(h:wo lo w x p)(hl:lo' ≤ lo):wo lo' w x p :=
 ⟨h.a8,h.bh,h.cq.mono hl,h.tabs.imp fun _ k=>k.mono (fun _ _ q=>q.mono hl) hl,h.a7.mono hl,h.at_,h.steps,h.done⟩
theorem nY.mono{x:bw}{p:xj}(h:nY lo w x p)(hl:lo' ≤ lo):nY lo' w x p :=
 ⟨h.at_,h.next,h.done,h.a8.mono hl,h.slots.mono hl,h.dy.imp fun _ k=>k.mono (fun _ _ q=>q.mono hl) hl,h.a7.mono hl⟩
theorem ql.mono{x:bp}{p:Cb}(h:ql lo w x p)(hl:lo' ≤ lo):ql lo' w x p:=⟨h.inp.mono hl,h.dW.imp fun _ k=>k.mono (fun _ _ q=>q.mono hl) hl,h.end_⟩
theorem gw.same(k:gw [] w w'):Same 0 [] w w':=⟨k.size,fun j _ hj _=>k.block j hj (by simp)⟩
theorem t_.keep{X:Type}[du X]{s:SV}{l:List X}(h:t_ lo w s l)(k:gw [] w w'):t_ lo w' s l:=h.now k.same (aau _) (by simp)
theorem sJ.keep{X Y:Type}[du X]{R:Nat→World→X→Y→Prop}(hR:∀ x y,R lo w x y→R lo w' x y){s:SV}{hs:List X}{l:List Y}(h:sJ R lo w s hs l)(k:gw [] w w'):sJ R lo w' s hs l:=h.now hR k.same (aau _) (by simp)
theorem vj.keep{x:bu}{p:GM}(h:vj lo w x p)(k:gw [] w w'):vj lo w' x p:=h.now k.same (aau _) (by simp)
theorem kY.keep{x:bk}{p:ug}(h:kY lo w x p)(k:gw [] w w'):kY lo w' x p:=h.now k.same (aau _) (by simp)
theorem wo.keep{x:bf}{p:wh}(h:wo lo w x p)(k:gw [] w w'):wo lo w' x p:=h.now k.same (aau _) (by simp)
theorem nY.keep{x:bw}{p:xj}(h:nY lo w x p)(k:gw [] w w'):nY lo w' x p:=h.now k.same (aau _) (by simp)
theorem ql.keep{x:bp}{p:Cb}(h:ql lo w x p)(k:gw [] w w'):ql lo w' x p:=h.now k.same (aau _) (by simp)
end
end Go.Fw
end
