/- Ground for the claim TraceFaith. -/
import Derived.Carry
import Derived.Test.YtmgnkohlfbjjnaaGreatRFa5
set_option linter.unusedVariables false
set_option linter.unusedSimpArgs false
section
namespace Go.Fx
open Go Go.Fw
def je{X:Type}:List (Int×X)→Int→Option (Nat×X)
 | [],_=>none
 | (b,y)::l,a=>if a=b then some (0,y)else(je l a).map fun p=>(p.1+1,p.2)
def jy{X:Type}(l:List (Int×X))(a:Int):Option X:=(je l a).map (·.2)
def kz{X:Type}:List (Int×X)→Int→X→List (Int×X)
 | [],a,x=>[(a,x)]
 | (b,y)::l,a,x=>if a=b then(a,x)::l else(b,y)::kz l a x
def jv(q:IntKind):Nat→List (Int×Value)→List MapEntry
 | _,[]=>[]
 | i,(a,v)::l=>⟨.int q a,v,i⟩::jv q (i+1) l
def jZ(q:IntKind)(l:List (Int×Value)):Obj:=.map (jv q 0 l).toArray l.length
def jc(l:List (Int×Int)):Obj:=jZ .i64 (l.map fun p=>(p.1,.int .i64 p.2))
def jk(L:World→Prop)(b:Nat)(l:List (Int×Int)):Prop:=∀ w,L w→(dw.obj b (jc l)).holds w
theorem wH(q:IntKind)(a:Int):∀ (l:List (Int×Value)) (i j:Nat),Instr.findNow (.int q) (.int q a) (jv q j l) i=some ((je l a).map fun p=>(i+p.1,p.2))
 | [],_,_=>rfl
 | (b,y)::l,i,j=>by
  by_cases h:a=b
  ·subst h;simp[jv,Instr.findNow,Instr.sameNow,je]
  ·have hb:(a==b)=false:=by simpa using h
   simp only[jv,Instr.findNow,Instr.sameNow,je,aaJ,hb,aaK h,wH q a l (i+1) (j+1),Option.map_map]
   cases je l a with
   | none=>rfl
   | some p=>simp[Function.comp];omega
theorem sJ(q:IntKind)(a:Int)(v:Value):∀ (l:List (Int×Value)) (j:Nat),je l a=none→jv q j (kz l a v)=jv q j l ++ [⟨.int q a,v,j+l.length⟩]∧(kz l a v).length=l.length+1
 | [],j,_=>⟨rfl,rfl⟩
 | (b,y)::l,j,h=>by
  by_cases hb:a=b
  ·subst hb;simp[je]at h
  ·simp only[je,aaK hb,Option.map_eq_none_iff]at h
   obtain⟨e1,e2⟩:=sJ q a v l (j+1) h
   simp only[kz,aaK hb,jv,e1,aad,abN,e2]
   refine⟨?_,trivial⟩
   rw[abj,Nat.add_comm 1]
theorem GF(q:IntKind)(a:Int)(v y:Value):∀ (l:List (Int×Value)) (j k:Nat),je l a=some (k,y) →
  jv q j (kz l a v)=(jv q j l).modify k (fun e=>{ e with key:=.int q a,val:=v })∧(kz l a v).length=l.length ∧ ∃ n,(jv q j l)[k]? = some ⟨.int q a,y,n⟩
 | [],_,_,h=>by simp[je]at h
 | (b,z)::l,j,k,h=>by
  by_cases hb:a=b
  ·subst hb
   simp only[je,aaJ,adq,Prod.mk.injEq]at h
   obtain⟨rfl,rfl⟩:=h
   simp[kz,jv,List.modify]
  ·simp only[je,aaK hb,aaI,Prod.mk.injEq]at h
   obtain⟨⟨k',y'⟩,h1,rfl,rfl⟩:=h
   obtain⟨e1,e2,n,e3⟩:=GF q a v y' l (j+1) k' h1
   simp only[kz,aaK hb,jv,e1,abN,e2,List.modify_succ_cons,List.getElem?_cons_succ,true_and]
   exact⟨n,e3⟩
theorem N3{X:Type}(f:X→Value)(a:Int)(x:X):∀ l:List (Int×X),kz (l.map fun p=>(p.1,f p.2)) a (f x)=(kz l a x).map fun p=>(p.1,f p.2)
 | []=>rfl
 | (b,y)::l=>by
  by_cases h:a=b
  ·simp[kz,h]
  ·simp[kz,h,N3 f a x l]
theorem Ig{X:Type}(f:X→Value)(a:Int):∀ l:List (Int×X),je (l.map fun p=>(p.1,f p.2)) a=(je l a).map fun p=>(p.1,f p.2)
 | []=>rfl
 | (b,y)::l=>by
  by_cases h:a=b
  ·simp[je,h]
  ·simp[je,h,Ig f a l,Function.comp_def]
theorem sF{X:Type}(f:X→Value)(a:Int)(l:List (Int×X)):jy (l.map fun p=>(p.1,f p.2)) a=(jy l a).map f:=by
 simp[jy,Ig,Function.comp_def]
section
variable {P:Program}{n:Nat}{F:List (Nat×Value)}{a:Act}{dd:List Deferred}{w:World}{o:Oper}{J:Value→World→Prop}
theorem yT{t:Nat}{q:IntKind}(ho:o.op = .makeMap t none)(next:∀ b w',w.heap.size=b→iy (.obj b (jZ q [])) w w' → J (.map (some b)) w'):Yd P o a.eval w J:=by
 have h:=next w.heap.size (w.alloc (.map #[] 0)) rfl (iy.alloc w _)
 unfold Yd
 simp only[execOp,ho,acL,Sem.run_bind,RowKit.run_makeMap,Result.andThen_ok,Sem.run_pure]
 exact h
theorem VW{t kt et b:Nat}{q:IntKind}{l:List (Int×Value)}{m k x:Operand}{c:Int}{v:Value}(hm:P.underlying t=some (.map kt et))(hk:P.underlying kt=some (.int q))(hF:Fr n F a dd)(ho:o.op = .mapUpdate t m k x)
  (h1:ev F m=some (.map (some b))) (h2:ev F k=some (.int q c)) (h3:ev F x=some v) (hb:(dw.obj b (jZ q l)).holds w)
  (next:∀ w',oc (.obj b (jZ q l)) (.obj b (jZ q (kz l c v))) w w' → J undef w'):Yd P o a.eval w J:=by
 have kT:w.heap[b]? = some (.map (jv q 0 l).toArray l.length):=hb
 have oH:∀ ob,(setObj b ob).run P w = .ok () (w.putObj b ob):=fun ob=>by simp[setObj,Sem.run,kT,World.putObj]
 have Ao:∀ b,(Instr.checkKey b 10000 kt (.int q c)).run P w = .ok () w:=fun b=>Go.Ev.iE hk b q c
 have hU:=Go.Ev.oc.putObj (o':=jZ q (kz l c v)) kT
 have vf:(Instr.findKey kt (.int q c) (jv q 0 l)).run P w = .ok ((je l c).map fun p=>(p.1,p.2)) w:=by
  have:=wH q c l 0 0
  simp only[acr]at this
  exact MapKept.run_findKey hk this
 have h:=next _ hU
 unfold Yd
 cases hf:je l c with
 | none =>
  obtain⟨e1,e2⟩:=sJ q c v l 0 hf
  rw[hf]at vf
  have e3:jZ q (kz l c v) = .map ((jv q 0 l).toArray.push ⟨.int q c,v,l.length⟩) (l.length+1):=by
   simp only[jZ,e1,e2,acr,List.push_toArray]
  rw[e3]at h
  simp only[execOp,ho,hF.eval h1,hF.eval h2,hF.eval h3,Instr.mapUpdate,Sem.run_bind,run_underlying hm,Result.andThen_ok,MapKept.run_getObj_map kT,Ao,vf,acL,oH,Sem.run_pure]
  exact h
 | some p =>
  obtain⟨k',y⟩:=p
  obtain⟨e1,e2,m',e4⟩:=GF q c v y l 0 k' hf
  rw[hf]at vf
  have hst:(Instr.keyThatStays (.int q c) (.int q c)).run P w = .ok (.int q c) w:=MapKept.run_keyThatStays (d:=.int q) rfl
  have Dh:((jv q 0 l).toArray[k']?).map (·.key)=some (.int q c):=by simp[e4]
  have e3:jZ q (kz l c v) = .map ((jv q 0 l).toArray.modify k' fun e=>{ e with key:=.int q c,val:=v }) l.length:=by
   simp only[jZ,e1,e2,adf]
  rw[e3]at h
  simp only[execOp,ho,hF.eval h1,hF.eval h2,hF.eval h3,Instr.mapUpdate,Sem.run_bind,run_underlying hm,Result.andThen_ok,MapKept.run_getObj_map kT,Ao,vf,aaU,Dh,aaV,hst,oH,Sem.run_pure]
  exact h
theorem tT{t kt et b:Nat}{q:IntKind}{l:List (Int×Value)}{x k:Operand}{c:Int}{z:Value}(hm:P.underlying t=some (.map kt et))(hk:P.underlying kt=some (.int q))(hz:∀ w,(zeroValue et).run P w = .ok z w)
  (hF:Fr n F a dd) (ho:o.op = .lookup t x k true) (h1:ev F x=some (.map (some b))) (h2:ev F k=some (.int q c)) (hb:(dw.obj b (jZ q l)).holds w) :
  (execOp a.eval o).run P w = .ok (.value (.tuple #[(jy l c).getD z,.bool (jy l c).isSome])) w:=by
 have kT:w.heap[b]? = some (.map (jv q 0 l).toArray l.length):=hb
 have Ao:∀ b,(Instr.checkKey b 10000 kt (.int q c)).run P w = .ok () w:=fun b=>Go.Ev.iE hk b q c
 have vf:(Instr.findKey kt (.int q c) (jv q 0 l)).run P w = .ok ((je l c).map fun p=>(p.1,p.2)) w:=by
  have:=wH q c l 0 0
  simp only[acr]at this
  exact MapKept.run_findKey hk this
 cases hf:je l c with
 | none =>
  rw[hf]at vf
  simp only[execOp,ho,hF.eval h1,hF.eval h2,Instr.lookup,Sem.run_bind,run_underlying hm,Result.andThen_ok,MapKept.run_getObj_map kT,Ao,vf,acL,hz,Sem.run_pure,jy,hf,adg,Option.isSome_none,if_true]
 | some p =>
  rw[hf]at vf
  simp only[execOp,ho,hF.eval h1,hF.eval h2,Instr.lookup,Sem.run_bind,run_underlying hm,Result.andThen_ok,MapKept.run_getObj_map kT,Ao,vf,aaU,Sem.run_pure,jy,hf,aaV,Option.isSome_some,if_true]
theorem Jy{t kt et b:Nat}{q:IntKind}{l:List (Int×Value)}{x k:Operand}{c:Int}{z:Value}(hm:P.underlying t=some (.map kt et))(hk:P.underlying kt=some (.int q))(hz:∀ w,(zeroValue et).run P w = .ok z w)
  (hF:Fr n F a dd) (ho:o.op = .lookup t x k false) (h1:ev F x=some (.map (some b))) (h2:ev F k=some (.int q c)) (hb:(dw.obj b (jZ q l)).holds w) :
  (execOp a.eval o).run P w = .ok (.value ((jy l c).getD z)) w:=by
 have kT:w.heap[b]? = some (.map (jv q 0 l).toArray l.length):=hb
 have Ao:∀ b,(Instr.checkKey b 10000 kt (.int q c)).run P w = .ok () w:=fun b=>Go.Ev.iE hk b q c
 have vf:(Instr.findKey kt (.int q c) (jv q 0 l)).run P w = .ok ((je l c).map fun p=>(p.1,p.2)) w:=by
  have:=wH q c l 0 0
  simp only[acr]at this
  exact MapKept.run_findKey hk this
 cases hf:je l c with
 | none =>
  rw[hf]at vf
  simp only[execOp,ho,hF.eval h1,hF.eval h2,Instr.lookup,Sem.run_bind,run_underlying hm,Result.andThen_ok,MapKept.run_getObj_map kT,Ao,vf,acL,hz,Sem.run_pure,jy,hf,adg]
  rfl
 | some p =>
  rw[hf]at vf
  simp only[execOp,ho,hF.eval h1,hF.eval h2,Instr.lookup,Sem.run_bind,run_underlying hm,Result.andThen_ok,MapKept.run_getObj_map kT,Ao,vf,aaU,Sem.run_pure,jy,hf,aaV]
  rfl
theorem vT{t:Nat}(ho:o.op = .makeMap t none)(next:∀ b w',w.heap.size=b→iy (.obj b (jc [])) w w' → J (.map (some b)) w'):Yd P o a.eval w J :=
 yT (q:=.i64) ho next
theorem Jz{t kt et b:Nat}{l:List (Int×Int)}{m k x:Operand}{c y:Int}(hm:P.underlying t=some (.map kt et))(hk:P.underlying kt=some (.int .i64))(hF:Fr n F a dd)(ho:o.op = .mapUpdate t m k x)
  (h1:ev F m=some (.map (some b))) (h2:ev F k=some (.int .i64 c)) (h3:ev F x=some (.int .i64 y)) (hb:(dw.obj b (jc l)).holds w)
  (next:∀ w',oc (.obj b (jc l)) (.obj b (jc (kz l c y))) w w' → J undef w'):Yd P o a.eval w J :=
 VW hm hk hF ho h1 h2 h3 hb fun w' h=>next w' (by
  have e:jZ .i64 (kz (l.map fun p=>(p.1,Value.int .i64 p.2)) c (Value.int .i64 y))=jc (kz l c y):=by
   rw[jc,N3 (fun x:Int=>Value.int .i64 x) c y l]
  rw[←e];exact h)
theorem Ww{t kt et b:Nat}{l:List (Int×Int)}{x k:Operand}{c:Int}(hm:P.underlying t=some (.map kt et))(hk:P.underlying kt=some (.int .i64))(hz:∀ w,(zeroValue et).run P w = .ok (.int .i64 0) w)
  (hF:Fr n F a dd) (ho:o.op = .lookup t x k true) (h1:ev F x=some (.map (some b))) (h2:ev F k=some (.int .i64 c)) (hb:(dw.obj b (jc l)).holds w) :
  (execOp a.eval o).run P w = .ok (.value (.tuple #[.int .i64 ((jy l c).getD 0),.bool (jy l c).isSome])) w:=by
 rw[tT hm hk hz hF ho h1 h2 hb,sF (fun x:Int=>Value.int .i64 x) c l]
 cases jy l c<;>rfl
end
theorem Xu{L L' y:List Value}{n b m:Nat}(h:cut L 0 n=L')(k:cut L' b m=y)(hb:b+m≤n):cut L b m=y:=by
 subst h;subst k
 unfold cut
 rw[ack,List.drop_take,List.take_take]
 congr 1
 omega
theorem XG{L L' RB R ys:List Value}{n b:Nat}(h:cut L 0 n=L')(k:put L' b ys=RB)(p:put L 0 RB=R)(hb:b+ys.length≤n)(hl:n≤L.length):put L b ys=R:=by
 subst h;subst k;subst p
 unfold cut put
 simp only[ack,List.take_zero,abX,acr,List.take_take,ach,abO,abK]
 rw[ab6 (by omega:b≤n),ab6 (by omega:b≤L.length),ab6 hl]
 have e:b+ys.length+(n-(b+ys.length))=n:=adr
 rw[e]
 have d:List.drop (b+ys.length) L=List.drop (b+ys.length) (List.take n L)++List.drop n L:=by
  conv=>lhs;rw[←abt n L]
  rw[acv (by rw[abO];omega)]
 rw[d]
 simp only[ade]
end Go.Fx
end
section
namespace Go.Fx
open Go Go.Fw
def sL(r s:dw):Prop:=∀ k,r.fp k → ¬ s.fp k
theorem sL.symm{r s:dw}(h:sL r s):sL s r:=fun k h1 h2=>h k h2 h1
theorem iJ{w:World}{L:List dw}:au w L↔(∀ r∈L,r.holds w)∧L.Pairwise sL:=by
 constructor
 ·intro h
  refine⟨fun r hr=>?_,?_⟩
  ·obtain⟨i,hi⟩:=aa_.1 hr;exact h.hold i r hi
  ·rw[aa0]
   intro i j hi hj hij
   exact h.apart i j _ _ (aa9 hi) (aa9 hj) adr
 ·rintro⟨h1,h2⟩
  rw[aa0]at h2
  refine⟨fun i r hi=>h1 r (abb hi),fun i j r s hi hj hij=>?_⟩
  obtain⟨a,rfl⟩:=aaz.1 hi
  obtain⟨b,rfl⟩:=aaz.1 hj
  rcases Nat.lt_or_gt_of_ne hij with h|h
  ·exact h2 i j a b h
  ·exact sL.symm (h2 j i b a h)
theorem DF{w:World}{L L':List dw}(h:au w L)(p:L.Perm L'):au w L':=by
 rw[iJ]at h ⊢
 exact⟨fun r hr=>h.1 r (p.mem_iff.2 hr),(p.pairwise_iff sL.symm).1 h.2⟩
abbrev zt(p:Prop)(A:List dw):dw:=.gen (fun k=>∃ r∈A,r.fp k) (fun w=>p∧au w A)
section
variable {w w':World}{A L:List dw}{p:Prop}
theorem HD(h:au w A)(Ez:Io w w')(hs:w.heap.size≤w'.heap.size)(hk:∀ k,(∃ r∈A,r.fp k)→w'.heap[k]? = w.heap[k]?):au w' A :=
 ⟨fun i r hi=>dw.keep (h.hold i r hi) Ez hs fun k hf=>hk k ⟨r,abb hi,hf⟩,h.apart⟩
theorem RI(hp:p)(h:au w A):(zt p A).holds w:=by
 rw[iJ]at h
 exact⟨fun k ⟨r,hr,hf⟩=>dw.fp_lt (h.1 r hr) hf,fun w' a b c=>⟨hp,HD (iJ.2 h) a b c⟩⟩
theorem nS(h:(zt p A).holds w):p∧au w A:=h.2 w (Io.refl w) (aah _) fun _ _=>rfl
theorem Bn(hp:p)(h:au w (A++L)):au w (zt p A::L):=by
 rw[iJ,abG]at h
 obtain⟨h1,h2,h3,h4⟩:=h
 rw[iJ,aa4]
 refine⟨fun r hr=>?_,fun s hs k ⟨r,hr,hf⟩ FQ=>h4 r hr s hs k hf FQ,h3⟩
 rcases aaY.1 hr with rfl|hr
 ·exact RI hp (iJ.2 ⟨fun r hr=>h1 r (abw _ hr),h2⟩)
 ·exact h1 r (abx _ hr)
theorem yl(h:au w (zt p A::L)):p∧au w (A++L):=by
 obtain⟨hp,hA⟩:=nS (h.hold 0 _ rfl)
 rw[iJ]at h hA
 rw[aa4]at h
 rw[iJ,abG]
 refine⟨hp,fun r hr=>?_,hA.2,h.2.2,fun r hr s hs k hf FQ=>h.2.1 s hs k ⟨r,hr,hf⟩ FQ⟩
 rcases aaR.1 hr with hr|hr
 ·exact hA.1 r hr
 ·exact h.1 r (aaZ _ hr)
end
def ov(hs:List SV)(ls:List (List UInt8)):List dw:=List.zipWith (fun h l=>ai 0 h 5 l) hs ls
def a_(hs:List SV)(ls:List (List UInt8)):dw:=zt (hs.length=ls.length) (ov hs ls)
def pk(ls:List (List UInt8))(k:Nat):List UInt8:=ls.getD k []
section
variable {w w':World}{L:List dw}{hs:List SV}{ls m:List (List UInt8)}{h s:SV}{l:List UInt8}
theorem Ny(q:(a_ hs ls).holds' w):hs.length=ls.length:=(nS q).1
theorem SC{k:Nat}(h1:hs[k]? = some h)(h2:ls[k]? = some l):(ov hs ls)[k]? = some (ai 0 h 5 l):=by
 unfold ov;rw[adh,h1,h2]
theorem sG{k:Nat}(q:(a_ hs ls).holds' w)(hk:hs[k]? = some h):ls[k]? = some (pk ls k)∧Own 0 w 5 h (pk ls k):=by
 have hl:=Ny q
 have:k<ls.length:=by rw[←hl];exact(aaz.1 hk).1
 have e:ls[k]? = some (pk ls k):=by simp[pk,this]
 exact⟨e,(nS q).2.hold k _ (SC hk e)⟩
theorem Gt{k:Nat}(q:(a_ hs ls).holds' w)(hk:hs[k]? = some h):cH 0 w h (pk ls k):=Own.slice (sG q hk).2
theorem lX(e:hs.length=ls.length):bw (cn (X:=UInt8) (a_ hs ls).holds') hs ls:=by
 refine⟨e,fun i x y hx hy w q=>?_⟩
 have:=Gt q hx
 rwa [show pk ls i=y by simp[pk,hy]]at this
theorem mP(h:au w L):au w (a_ [] []::L):=Bn (A:=ov [] []) rfl h
theorem tO(q:au w (a_ hs ls::ai 0 h 5 l::L))(e:m=ls ++ [l]):au w (a_ (hs ++ [h]) m::L):=by
 subst e
 obtain⟨h1,h2⟩:=yl q
 refine Bn (by simp[h1]) ?_
 have e:ov (hs ++ [h]) (ls ++ [l])=ov hs ls ++ [ai 0 h 5 l]:=by unfold ov;rw[List.zipWith_append h1];rfl
 rw[e];simpa using h2
theorem VI(q:au w (a_ hs ls::ai 0 h 5 l::L)):au w (a_ (h::hs) (l::ls)::L):=by
 obtain⟨h1,h2⟩:=yl q
 refine Bn (by simp[h1]) ?_
 exact DF h2 List.perm_middle
theorem Jt(q:au w (a_ (h::hs) ls::L)):au w (ai 0 h 5 (pk ls 0)::a_ hs ls.tail::L)∧hs.length=ls.tail.length:=by
 obtain⟨h1,h2⟩:=yl q
 cases ls with
 | nil=>simp at h1
 | cons l ls =>
  have e:hs.length=ls.length:=by simpa using h1
  refine⟨?_,e⟩
  have h3:au w (ai 0 h 5 l::(ov hs ls++L)):=h2
  have h4:au w (ov hs ls++(ai 0 h 5 l::L)):=DF h3 List.perm_middle.symm
  exact DF (Bn e h4) (List.Perm.swap _ _ _)
theorem H9{k:Nat}{l':List UInt8}(q:(a_ hs ls).holds' w)(hk:hs[k]? = some h)(hU:oc (ai 0 h 5 (pk ls k)) (ai 0 h 5 l') w w'):oc (a_ hs ls) (a_ hs (ls.set k l')) w w':=by
 obtain⟨e,ho⟩:=sG q hk
 have hr:=SC hk e
 have hin:ai 0 h 5 (pk ls k)∈ov hs ls:=abb hr
 have hlt:k<ls.length:=(aaz.1 e).1
 have es:ov hs (ls.set k l')=(ov hs ls).set k (ai 0 h 5 l'):=by
  unfold ov
  apply abr
  intro j
  rw[adh,ab1,ab1,adh]
  by_cases hj:k=j
  ·subst hj
   rw[aaJ rfl,aaJ rfl,aaJ hlt,aaJ (by rw[List.length_zipWith];have:=(aaz.1 hk).1;omega),hk]
  ·rw[aaK hj,aaK hj]
 obtain⟨h1,h2⟩:=nS q
 refine⟨hU.io,hU.size,fun j hj hf=>hU.block j hj fun FQ=>hf ⟨_,hin,FQ⟩,?_,?_⟩
 ·refine RI (by rw[abT];exact h1) ?_
  rw[es]
  exact h2.chg hU hr
 ·rintro j ⟨r,hr',hf⟩
  rw[es]at hr'
  rcases abW hr' with hr' | rfl
  ·exact .inl ⟨r,hr',hf⟩
  ·rcases hU.fp j hf with h|h
   ·exact .inl ⟨_,hin,h⟩
   ·exact .inr h
theorem IB{A B:Type}{h:A}{hs:List A}{ls:List B}(e:(h::hs).length=ls.length):hs.length=ls.tail.length:=by
 rw[List.length_tail,←e];rfl
theorem WB{A B:Type}{hs:List A}{ls:List B}{k:Nat}{x:B}(e:hs.length=ls.length):hs.length=(ls.set k x).length:=by rw[abT];exact e
theorem VJ{i:Int}{x:List UInt8}(hl:(h::hs).length=ls.length)(hx:Fx.get ls.tail i=some x):(0≤i∧i<(hs.length:Int)) ∧ ∃ y,hs[i.toNat]? = some y∧(h::hs)[i.toNat+1]? = some y:=by
 obtain⟨h0,h1⟩:=aL hx
 have h2:=(aaz.1 h1).1
 have e:hs.length=ls.tail.length:=IB hl
 have h3:i.toNat<hs.length:=adr
 exact⟨adr,hs[i.toNat],aa9 h3,by simp[h3]⟩
def za(B:World→Prop)(n:Nat)(hs:List SV)(ls:List (List UInt8)):Prop:=hs.length=ls.length ∧ ∀ i x y,n≤i→hs[i]? = some x→ls[i]? = some y→cn B x y
theorem Zz{B:World→Prop}(q:bw (cn (X:=UInt8) B) hs ls):za B 0 hs ls:=⟨q.len,fun i x y _ hx hy=>q.at_ i x y hx hy⟩
theorem Ik{B:World→Prop}{n:Nat}{i:Int}{x:List UInt8}(q:za B n hs ls)(hx:Fx.get ls i=some x):(0≤i∧i<(hs.length:Int)) ∧ ∃ y,hs[i.toNat]? = some y∧(n≤i.toNat→cn B y x):=by
 obtain⟨h0,h1⟩:=aL hx
 have h2:=(aaz.1 h1).1
 have h3:i.toNat<hs.length:=by rw[q.1];exact h2
 exact⟨adr,hs[i.toNat],aa9 h3,fun hn=>q.2 _ _ _ hn (aa9 h3) h1⟩
theorem Xa{B:World→Prop}{n:Nat}{i:Int}{x:List UInt8}(q:za B n hs ls)(hx:Fx.get ls i=some x)(hi:i.toNat=n):za B (n+1) (hs.set i.toNat h) ls :=
 ⟨by rw[abT];exact q.1,fun j a b hj ha hb=>by
  rw[ab1]at ha
  rw[aaK adr]at ha
  exact q.2 j a b adr ha hb⟩
theorem XR{B:World→Prop}{n:Nat}{i:Int}{x:List UInt8}(q:za B n hs ls)(hx:Fx.get ls i=some x)(hi:i.toNat=n)(hM:au w (a_ (hs.take n) (ls.take n)::ai 0 h 5 x::L)) :
  au w (a_ ((hs.set i.toNat h).take (n+1)) (ls.take (n+1))::L):=by
 subst hi
 obtain⟨h0,h1⟩:=aL hx
 have h2:=(aaz.1 h1).1
 have h3:i.toNat<hs.length:=by rw[q.1];exact h2
 have e1:(hs.set i.toNat h).take (i.toNat+1)=hs.take i.toNat ++ [h]:=by
  rw[abI]
  rw[ab1,aaJ rfl,aaJ h3]
  congr 1
  rw[List.take_set_of_le (aah _)]
 rw[e1]
 refine tO hM ?_
 rw[abI,h1];rfl
theorem XQ{B:World→Prop}{n:Nat}(q:za B n hs ls)(hn:ls.length≤n)(hM:au w (a_ (hs.take n) (ls.take n)::L)):au w (a_ hs ls::L):=by
 rwa [acn (by rw[q.1];exact hn),acn hn]at hM
end
def IX{X:Type}(l:List X)(i:Int)(m:List X):Option (List X):=if 0≤i∧i.toNat+m.length≤l.length then some (put l i.toNat m)else none
theorem Xr{X:Type}{l m r:List X}{i:Int}(h:IX l i m=some r):(0≤i∧i.toNat+m.length≤l.length)∧r=put l i.toNat m:=by
 unfold IX at h
 split at h
 ·cases h;exact⟨by assumption,rfl⟩
 ·cases h
section
variable {P:Program}{n:Nat}{F:List (Nat×Value)}{a:Act}{dd:List Deferred}{w:World}{o:Oper}{J:Value→World→Prop}
theorem Zd{t dT lo' k:Nat}{s sx:SV}{hs:List SV}{ls:List (List UInt8)}{xs r:List UInt8}{i j:Int}{sz:Nat}{ti:TypeInfo}{x y:Operand}(hr:Fx.IX (pk ls k) i xs=some r)(hj:j=((pk ls k).length:Int))(ht:P.underlying dT=some (.slice 5))(hi:P.info? 5=some ti)(hs1:ti.size=1)(hsz:sz=1)
  (hF:Fr n F a dd) (ho:o.op = .call { callee:=.builtin .copy,args:=#[x,y],argTypes:=#[dT,t] }) (hx:ev F x=some (s.cut i.toNat j.toNat sz).v) (hy:ev F y=some sx.v)
  (q:(a_ hs ls).holds' w) (hk:hs[k]? = some s) (hsx:cH lo' w sx xs)
  (next:∀ w',oc (a_ hs ls) (a_ hs (ls.set k r)) w w' → J (.int .i64 (xs.length:Nat)) w'):Yd P o a.eval w J:=by
 obtain⟨h1,rfl⟩:=Xr hr
 subst hj hsz
 exact GR (ty:=0) (i:=i.toNat) (l:=pk ls k) ht hi hs1 rfl hF ho hx hy (sG q hk).2 hsx h1.2 fun w' hU=>next w' (H9 q hk hU)
end
end Go.Fx
end
section
namespace Go.Fx
open Go Go.Fw
theorem Xf{l y y' l':List Value}{v:Value}{o c d e:Nat}(hc:Fw.cut l o c=y)(hp:y.set (d+e) v=y')(hl:put l o y' = l')(h1:o+c≤l.length)(h2:d+e<c):l.set (o+d+e) v=l':=by
 rw[abj];exact fT hc hp hl h1 h2
theorem YD{X:Type}[d_ X]{n sz:Nat}{v:Vec X n}{i:Nat}{y:X}{u:Value}(h:i<n)(h1:d_.enc y = [u])(hs:d_.sz X=sz)(hz:sz=1):(encs v.l).set (0+i*sz) u=encs (v.set i y).l:=by
 subst hs
 have:=kH (v:=v) (i:=i) (y:=y) h
 rw[h1]at this
 refine Gu this ?_
 have e:=mG (v:=v) h
 omega
def Ey{X:Type}(l:List X)(i j:Int)(m:List X):Option (List X):=if 0≤i∧i.toNat+m.length≤j.toNat∧j≤(l.length:Int)then some (put l i.toNat m)else none
theorem Iu{X:Type}{l m r:List X}{i j:Int}(h:Ey l i j m=some r):(0≤i∧i.toNat+m.length≤j.toNat∧j≤(l.length:Int))∧r=put l i.toNat m:=by
 unfold Ey at h
 split at h
 ·cases h;exact⟨by assumption,rfl⟩
 ·cases h
section
variable {P:Program}{n:Nat}{F:List (Nat×Value)}{a:Act}{dd:List Deferred}{w:World}{o:Oper}{J:Value→World→Prop}
theorem RS{X:Type}[d_ X]{t dT e lo lo' i z:Nat}{s sx:SV}{l xs:List X}{ti:TypeInfo}{x y:Operand}(ht:P.underlying dT=some (.slice e))(hi:P.info? e=some ti)(hs1:ti.size=1)(hX:d_.sz X=1)
  (hF:Fr n F a dd) (ho:o.op = .call { callee:=.builtin .copy,args:=#[x,y],argTypes:=#[dT,t] }) (hx:ev F x=some (s.cut i z 1).v) (hy:ev F y=some sx.v)
  (hown:Own lo w e s l) (hsx:cH lo' w sx xs) (hfit:i+xs.length≤z) (hz:z≤l.length)
  (next:∀ w',oc (ai lo s e l) (ai lo s e (put l i xs)) w w' → J (.int .i64 (xs.length:Nat)) w'):Yd P o a.eval w J:=by
 have hsz:(P.info? e).map (·.size)=some 1:=by simp[hi,hs1]
 have fin:∀ w',(Builtin.copy_ #[dT,t] o.type #[(s.cut i z 1).v,sx.v]).run P w = .ok (goInt xs.length) w' → oc (ai lo s e l) (ai lo s e (put l i xs)) w w' → Yd P o a.eval w J:=by
  intro w' hr hU
  have h:=next w' hU
  unfold Yd
  simp only[execOp,ho,resolve,invoke,builtin,Sem.run_bind,Sem.run_pure,Result.andThen_ok,acd,abp,abq,hF.eval hx,hF.eval hy,hr]
  exact h
 have vo:=hsx.len
 by_cases hxs:xs = []
 ·subst hxs
  have qb:put l i ([]:List X)=l:=by simp[put]
  refine fin w ?_ ?_
  ·simp only[acu]at vo
   have:=run_copy_none (P:=P) w dT t o.type e (s.cut i z 1).a sx.a (s.cut i z 1).len (s.cut i z 1).cap sx.len sx.cap ht hsz (by rw[vo];simp)
   simpa[SV.v]using this
  ·rw[qb]
   exact⟨Io.refl w,aah _,fun _ _ _=>rfl,hown,fun k hk=>.inl hk⟩
 ·have hpos:0<xs.length:=acN.2 hxs
  obtain⟨b,off,hb⟩:=hsx.addr hxs
  have EY:=hsx.cells
  rw[hb]at EY
  obtain⟨_,_,EY⟩:=EY
  rcases hown.2 with⟨h1,h2⟩|⟨g,cap,cur,h1,h3,h4,h5,h6,h7,h8⟩
  ·omega
  ·have hs:s=⟨some ⟨g,0,none⟩,l.length,cap⟩:=by obtain⟨a,b,c⟩:=s;cases h1;rfl
   have hcut:s.cut i z 1=⟨some ⟨g,i,none⟩,z-i,cap-i⟩:=by
    rw[hs];simp only[SV.cut];rw[aaK adr];simp[dY]
   have hel:(encs xs).length=xs.length:=by rw[dM,hX,acO]
   rw[hX,acO]at h7 h8
   have Df:i+(encs xs).length≤cur.size:=by rw[hel];omega
   have hr:=run_copy_row (P:=P) w dT t o.type e g i (z-i) (cap-i) ⟨b,off,none⟩ xs.length sx.cap cur e (encs xs) ht hsz h4 (by rw[hel];simp[Nat.min_def];omega) (fun j v hv=>by rw[dY];exact EY j v hv) Df (eY xs)
   rw[hel]at hr
   refine fin _ (by rw[hcut,hb];exact hr) ?_
   have hnew:∀ (cs':List Value),cs'.length=cur.size→cs'.take l.length=encs (put l i xs)→Own lo (w.setRow g cs'.toArray) e s (put l i xs):=by
    intro cs' hc1 qN
    have xr:(put l i xs).length=l.length:=by simp[put];omega
    refine⟨by rw[dM],.inr ⟨g,cap,cs'.toArray,by rw[xr];exact h1,h3,setRow_heap w g cur cs'.toArray e _ h4,by rw[xr];exact h5,h6,by simp[hc1,h7,hX],by rw[xr,hX,acO];simpa using qN⟩⟩
   have I4:(encs l).length=l.length:=by rw[dM,hX,acO]
   refine⟨⟨rfl,rfl,rfl⟩,by simp[World.setRow],fun k _ hf=>setRow_other w g k _ fun e'=>hf (by subst e'; simp[dw.fp,h1,Value.ownBlock]),hnew _ (by simp;omega) ?_,fun k hk=>.inl hk⟩
   have e1:encs (put l i xs)=(encs l).take i++encs xs++(encs l).drop (i+xs.length):=by
    unfold put
    rw[dW,dW]
    congr 1
    ·congr 1
     have e3:(encs (l.take i)).length=i:=by rw[dM,hX];simp;omega
     have h':=dW (l.take i) (l.drop i)
     rw[abt]at h'
     rw[h'];exact(acP e3).symm
    ·have e3:(encs (l.take (i+xs.length))).length=i+xs.length:=by rw[dM,hX];simp;omega
     have h':=dW (l.take (i+xs.length)) (l.drop (i+xs.length))
     rw[abt]at h'
     rw[h'];exact(acQ e3).symm
   rw[e1,←h8]
   apply abr
   intro j
   simp only[aaG,acR,ach,abO,abK,aaH,hel,acS]
   repeat' split
   all_goals first|rfl|omega|(congr 1;omega)|skip
theorem Ze{t dT e lo':Nat}{s sx:SV}{l xs r:List UInt8}{i j:Int}{ti:TypeInfo}{x y:Operand}(hr:Fx.Ey l i j xs=some r)(ht:P.underlying dT=some (.slice e))(hi:P.info? e=some ti)(hs1:ti.size=1)
  (hF:Fr n F a dd) (ho:o.op = .call { callee:=.builtin .copy,args:=#[x,y],argTypes:=#[dT,t] }) (hx:ev F x=some (s.cut i.toNat j.toNat 1).v) (hy:ev F y=some sx.v)
  (hown:Own 0 w e s l) (hsx:cH lo' w sx xs)
  (next:∀ w',oc (ai 0 s e l) (ai 0 s e r) w w' → J (.int .i64 (xs.length:Nat)) w'):Yd P o a.eval w J:=by
 obtain⟨⟨h1,h2,h3⟩,rfl⟩:=Iu hr
 exact RS ht hi hs1 rfl hF ho hx hy hown hsx h2 adr next
theorem Zf{t dT lo' k:Nat}{s sx:SV}{hs:List SV}{ls:List (List UInt8)}{l xs r:List UInt8}{i j:Int}{ti:TypeInfo}{x y:Operand}(hr:Fx.Ey l i j xs=some r)(hl:ls[k]? = some l)(ht:P.underlying dT=some (.slice 5))(hi:P.info? 5=some ti)(hs1:ti.size=1)
  (hF:Fr n F a dd) (ho:o.op = .call { callee:=.builtin .copy,args:=#[x,y],argTypes:=#[dT,t] }) (hx:ev F x=some (s.cut i.toNat j.toNat 1).v) (hy:ev F y=some sx.v)
  (q:(a_ hs ls).holds' w) (hk:hs[k]? = some s) (hsx:cH lo' w sx xs)
  (next:∀ w',oc (a_ hs ls) (a_ hs (ls.set k r)) w w' → J (.int .i64 (xs.length:Nat)) w'):Yd P o a.eval w J:=by
 obtain⟨⟨h1,h2,h3⟩,rfl⟩:=Iu hr
 have e:pk ls k=l:=by simp[pk,hl]
 subst e
 exact RS ht hi hs1 rfl hF ho hx hy (sG q hk).2 hsx h2 adr fun w' hU=>next w' (H9 q hk hU)
end
section
variable {w:World}{hs:List SV}{ls:List (List UInt8)}{h:SV}{l:List UInt8}
theorem JI{k:Nat}(q:(a_ hs ls).holds' w)(hk:hs[k]? = some h)(hl:ls[k]? = some l):cH 0 w h l:=by
 have:=Gt q hk
 rwa [show pk ls k=l by simp[pk,hl]]at this
theorem YX{R:World→Prop}{i:Int}(q:bw (cn (X:=UInt8) R) hs ls)(hx:Fx.get ls i=some l):(0≤i∧i<(hs.length:Int)) ∧ ∃ y,hs[i.toNat]? = some y:=by
 obtain⟨h0,h1⟩:=aL hx
 have h2:=(aaz.1 h1).1
 have h3:i.toNat<hs.length:=by rw[q.len];exact h2
 exact⟨adr,hs[i.toNat],aa9 h3⟩
theorem XB{R:World→Prop}{k:Nat}{r:List UInt8}(q:bw (cn (X:=UInt8) R) hs ls):bw (cn (X:=UInt8) (a_ hs (ls.set k r)).holds') hs (ls.set k r) :=
 lX (by rw[abT];exact q.len)
end
end Go.Fx
end
