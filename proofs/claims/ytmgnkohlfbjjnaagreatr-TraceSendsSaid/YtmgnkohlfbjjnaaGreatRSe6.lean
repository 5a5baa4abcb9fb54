/- Ground for the claim TraceSends. -/
import Derived.Carry
import Derived.Test.YtmgnkohlfbjjnaaGreatRSe5
set_option linter.unusedVariables false
set_option linter.unusedSimpArgs false
open Sum
section
namespace Go.Fx
open Go Go.Fw
def ik{X:Type}:List (Int×X)→Int→Option (Nat×X)
 | [],_=>none
 | (b,y)::l,a=>if a=b then some (0,y)else(ik l a).map fun p=>(p.1+1,p.2)
def il{X:Type}(l:List (Int×X))(a:Int):Option X:=(ik l a).map (·.2)
def jk{X:Type}:List (Int×X)→Int→X→List (Int×X)
 | [],a,x=>[(a,x)]
 | (b,y)::l,a,x=>if a=b then(a,x)::l else(b,y)::jk l a x
def jh(q:IntKind):Nat→List (Int×Value)→List MapEntry
 | _,[]=>[]
 | i,(a,v)::l=>⟨.int q a,v,i⟩::jh q (i+1) l
def ju(q:IntKind)(l:List (Int×Value)):Obj:=.map (jh q 0 l).toArray l.length
def oU(l:List (Int×Int)):Obj:=ju .i64 (l.map fun p=>(p.1,.int .i64 p.2))
def jl(L:World→Prop)(b:Nat)(l:List (Int×Int)):Prop:=∀ w,L w→(di.obj b (oU l)).holds w
theorem wC(q:IntKind)(a:Int):∀ (l:List (Int×Value)) (i j:Nat),Instr.findNow (.int q) (.int q a) (jh q j l) i=some ((ik l a).map fun p=>(i+p.1,p.2))
 | [],_,_=>rfl
 | (b,y)::l,i,j=>by
  by_cases h:a=b
  ·subst h;simp[jh,Instr.findNow,Instr.sameNow,ik]
  ·have hb:(a==b)=false:=by simpa using h
   simp only[jh,Instr.findNow,Instr.sameNow,ik,aay,hb,aaz h,wC q a l (i+1) (j+1),abP]
   cases ik l a with
   | none=>rfl
   | some p=>simp[Function.comp];omega
theorem sC(q:IntKind)(a:Int)(v:Value):∀ (l:List (Int×Value)) (j:Nat),ik l a=none→jh q j (jk l a v)=jh q j l ++ [⟨.int q a,v,j+l.length⟩]∧(jk l a v).length=l.length+1
 | [],j,_=>⟨rfl,rfl⟩
 | (b,y)::l,j,h=>by
  by_cases hb:a=b
  ·subst hb;simp[ik]at h
  ·simp only[ik,aaz hb,Option.map_eq_none_iff]at h
   obtain⟨e1,e2⟩:=sC q a v l (j+1) h
   simp only[jk,aaz hb,jh,e1,aag,abm,e2]
   refine⟨?_,trivial⟩
   rw[aaY,Nat.add_comm 1]
theorem K1(q:IntKind)(a:Int)(v y:Value):∀ (l:List (Int×Value)) (j k:Nat),ik l a=some (k,y) →
  jh q j (jk l a v)=(jh q j l).modify k (fun e=>{ e with key:=.int q a,val:=v })∧(jk l a v).length=l.length ∧ ∃ n,(jh q j l)[k]? = some ⟨.int q a,y,n⟩
 | [],_,_,h=>by simp[ik]at h
 | (b,z)::l,j,k,h=>by
  by_cases hb:a=b
  ·subst hb
   simp only[ik,aay,ac9,Prod.mk.injEq]at h
   obtain⟨rfl,rfl⟩:=h
   simp[jk,jh,List.modify]
  ·simp only[ik,aaz hb,aax,Prod.mk.injEq]at h
   obtain⟨⟨k',y'⟩,h1,rfl,rfl⟩:=h
   obtain⟨e1,e2,n,e3⟩:=K1 q a v y' l (j+1) k' h1
   simp only[jk,aaz hb,jh,e1,abm,e2,List.modify_succ_cons,List.getElem?_cons_succ,true_and]
   exact⟨n,e3⟩
theorem K0{X:Type}(f:X→Value)(a:Int)(x:X):∀ l:List (Int×X),jk (l.map fun p=>(p.1,f p.2)) a (f x)=(jk l a x).map fun p=>(p.1,f p.2)
 | []=>rfl
 | (b,y)::l=>by
  by_cases h:a=b
  ·simp[jk,h]
  ·simp[jk,h,K0 f a x l]
theorem O_{X:Type}(f:X→Value)(a:Int):∀ l:List (Int×X),ik (l.map fun p=>(p.1,f p.2)) a=(ik l a).map fun p=>(p.1,f p.2)
 | []=>rfl
 | (b,y)::l=>by
  by_cases h:a=b
  ·simp[ik,h]
  ·simp[ik,h,O_ f a l,Function.comp_def]
theorem rY{X:Type}(f:X→Value)(a:Int)(l:List (Int×X)):il (l.map fun p=>(p.1,f p.2)) a=(il l a).map f:=by
 simp[il,O_,Function.comp_def]
section
variable {P:Program}{n:Nat}{F:List (Nat×Value)}{a:Act}{dd:List Deferred}{w:World}{o:Oper}{J:Value→World→Prop}
theorem yT{t:Nat}{q:IntKind}(ho:o.op = .makeMap t none)(next:∀ b w',w.heap.size=b→iz (.obj b (ju q [])) w w' → J (.map (some b)) w'):Yd P o a.eval w J:=by
 have h:=next w.heap.size (w.alloc (.map #[] 0)) rfl (iz.alloc w _)
 unfold Yd
 simp only[execOp,ho,acu,Sem.run_bind,RowKit.run_makeMap,Result.andThen_ok,Sem.run_pure]
 exact h
theorem Tm{t kt et b:Nat}{q:IntKind}{l:List (Int×Value)}{m k x:Operand}{c:Int}{v:Value}(hm:P.underlying t=some (.map kt et))(hk:P.underlying kt=some (.int q))(hF:Fr n F a dd)(ho:o.op = .mapUpdate t m k x)
  (h1:ev F m=some (.map (some b))) (h2:ev F k=some (.int q c)) (h3:ev F x=some v) (hb:(di.obj b (ju q l)).holds w)
  (next:∀ w',oa (.obj b (ju q l)) (.obj b (ju q (jk l c v))) w w' → J undef w'):Yd P o a.eval w J:=by
 have ky:w.heap[b]? = some (.map (jh q 0 l).toArray l.length):=hb
 have oe:∀ ob,(setObj b ob).run P w = .ok () (w.putObj b ob):=fun ob=>by simp[setObj,Sem.run,ky,World.putObj]
 have yl:∀ b,(Instr.checkKey b 10000 kt (.int q c)).run P w = .ok () w:=fun b=>Go.Ev.iy hk b q c
 have hU:=Go.Ev.oa.putObj (o':=ju q (jk l c v)) ky
 have tf:(Instr.findKey kt (.int q c) (jh q 0 l)).run P w = .ok ((ik l c).map fun p=>(p.1,p.2)) w:=by
  have:=wC q c l 0 0
  simp only[ab_]at this
  exact MapKept.run_findKey hk this
 have h:=next _ hU
 unfold Yd
 cases hf:ik l c with
 | none =>
  obtain⟨e1,e2⟩:=sC q c v l 0 hf
  rw[hf]at tf
  have e3:ju q (jk l c v) = .map ((jh q 0 l).toArray.push ⟨.int q c,v,l.length⟩) (l.length+1):=by
   simp only[ju,e1,e2,ab_,List.push_toArray]
  rw[e3]at h
  simp only[execOp,ho,hF.eval h1,hF.eval h2,hF.eval h3,Instr.mapUpdate,Sem.run_bind,run_underlying hm,Result.andThen_ok,MapKept.run_getObj_map ky,yl,tf,acu,oe,Sem.run_pure]
  exact h
 | some p =>
  obtain⟨k',y⟩:=p
  obtain⟨e1,e2,m',e4⟩:=K1 q c v y l 0 k' hf
  rw[hf]at tf
  have hst:(Instr.keyThatStays (.int q c) (.int q c)).run P w = .ok (.int q c) w:=MapKept.run_keyThatStays (d:=.int q) rfl
  have AU:((jh q 0 l).toArray[k']?).map (·.key)=some (.int q c):=by simp[e4]
  have e3:ju q (jk l c v) = .map ((jh q 0 l).toArray.modify k' fun e=>{ e with key:=.int q c,val:=v }) l.length:=by
   simp only[ju,e1,e2,acX]
  rw[e3]at h
  simp only[execOp,ho,hF.eval h1,hF.eval h2,hF.eval h3,Instr.mapUpdate,Sem.run_bind,run_underlying hm,Result.andThen_ok,MapKept.run_getObj_map ky,yl,tf,aaI,AU,aaJ,hst,oe,Sem.run_pure]
  exact h
theorem tN{t kt et b:Nat}{q:IntKind}{l:List (Int×Value)}{x k:Operand}{c:Int}{z:Value}(hm:P.underlying t=some (.map kt et))(hk:P.underlying kt=some (.int q))(hz:∀ w,(zeroValue et).run P w = .ok z w)
  (hF:Fr n F a dd) (ho:o.op = .lookup t x k true) (h1:ev F x=some (.map (some b))) (h2:ev F k=some (.int q c)) (hb:(di.obj b (ju q l)).holds w) :
  (execOp a.eval o).run P w = .ok (.value (.tuple #[(il l c).getD z,.bool (il l c).isSome])) w:=by
 have ky:w.heap[b]? = some (.map (jh q 0 l).toArray l.length):=hb
 have yl:∀ b,(Instr.checkKey b 10000 kt (.int q c)).run P w = .ok () w:=fun b=>Go.Ev.iy hk b q c
 have tf:(Instr.findKey kt (.int q c) (jh q 0 l)).run P w = .ok ((ik l c).map fun p=>(p.1,p.2)) w:=by
  have:=wC q c l 0 0
  simp only[ab_]at this
  exact MapKept.run_findKey hk this
 cases hf:ik l c with
 | none =>
  rw[hf]at tf
  simp only[execOp,ho,hF.eval h1,hF.eval h2,Instr.lookup,Sem.run_bind,run_underlying hm,Result.andThen_ok,MapKept.run_getObj_map ky,yl,tf,acu,hz,Sem.run_pure,il,hf,acY,Option.isSome_none,if_true]
 | some p =>
  rw[hf]at tf
  simp only[execOp,ho,hF.eval h1,hF.eval h2,Instr.lookup,Sem.run_bind,run_underlying hm,Result.andThen_ok,MapKept.run_getObj_map ky,yl,tf,aaI,Sem.run_pure,il,hf,aaJ,Option.isSome_some,if_true]
theorem G4{t kt et b:Nat}{q:IntKind}{l:List (Int×Value)}{x k:Operand}{c:Int}{z:Value}(hm:P.underlying t=some (.map kt et))(hk:P.underlying kt=some (.int q))(hz:∀ w,(zeroValue et).run P w = .ok z w)
  (hF:Fr n F a dd) (ho:o.op = .lookup t x k false) (h1:ev F x=some (.map (some b))) (h2:ev F k=some (.int q c)) (hb:(di.obj b (ju q l)).holds w) :
  (execOp a.eval o).run P w = .ok (.value ((il l c).getD z)) w:=by
 have ky:w.heap[b]? = some (.map (jh q 0 l).toArray l.length):=hb
 have yl:∀ b,(Instr.checkKey b 10000 kt (.int q c)).run P w = .ok () w:=fun b=>Go.Ev.iy hk b q c
 have tf:(Instr.findKey kt (.int q c) (jh q 0 l)).run P w = .ok ((ik l c).map fun p=>(p.1,p.2)) w:=by
  have:=wC q c l 0 0
  simp only[ab_]at this
  exact MapKept.run_findKey hk this
 cases hf:ik l c with
 | none =>
  rw[hf]at tf
  simp only[execOp,ho,hF.eval h1,hF.eval h2,Instr.lookup,Sem.run_bind,run_underlying hm,Result.andThen_ok,MapKept.run_getObj_map ky,yl,tf,acu,hz,Sem.run_pure,il,hf,acY]
  rfl
 | some p =>
  rw[hf]at tf
  simp only[execOp,ho,hF.eval h1,hF.eval h2,Instr.lookup,Sem.run_bind,run_underlying hm,Result.andThen_ok,MapKept.run_getObj_map ky,yl,tf,aaI,Sem.run_pure,il,hf,aaJ]
  rfl
theorem vO{t:Nat}(ho:o.op = .makeMap t none)(next:∀ b w',w.heap.size=b→iz (.obj b (oU [])) w w' → J (.map (some b)) w'):Yd P o a.eval w J :=
 yT (q:=.i64) ho next
theorem SQ{t kt et b:Nat}{l:List (Int×Int)}{m k x:Operand}{c y:Int}(hm:P.underlying t=some (.map kt et))(hk:P.underlying kt=some (.int .i64))(hF:Fr n F a dd)(ho:o.op = .mapUpdate t m k x)
  (h1:ev F m=some (.map (some b))) (h2:ev F k=some (.int .i64 c)) (h3:ev F x=some (.int .i64 y)) (hb:(di.obj b (oU l)).holds w)
  (next:∀ w',oa (.obj b (oU l)) (.obj b (oU (jk l c y))) w w' → J undef w'):Yd P o a.eval w J :=
 Tm hm hk hF ho h1 h2 h3 hb fun w' h=>next w' (by
  have e:ju .i64 (jk (l.map fun p=>(p.1,Value.int .i64 p.2)) c (Value.int .i64 y))=oU (jk l c y):=by
   rw[oU,K0 (fun x:Int=>Value.int .i64 x) c y l]
  rw[←e];exact h)
theorem J7{t kt et b:Nat}{l:List (Int×Int)}{x k:Operand}{c:Int}(hm:P.underlying t=some (.map kt et))(hk:P.underlying kt=some (.int .i64))(hz:∀ w,(zeroValue et).run P w = .ok (.int .i64 0) w)
  (hF:Fr n F a dd) (ho:o.op = .lookup t x k true) (h1:ev F x=some (.map (some b))) (h2:ev F k=some (.int .i64 c)) (hb:(di.obj b (oU l)).holds w) :
  (execOp a.eval o).run P w = .ok (.value (.tuple #[.int .i64 ((il l c).getD 0),.bool (il l c).isSome])) w:=by
 rw[tN hm hk hz hF ho h1 h2 hb,rY (fun x:Int=>Value.int .i64 x) c l]
 cases il l c<;>rfl
end
theorem Uw{L L' y:List Value}{n b m:Nat}(h:cut L 0 n=L')(k:cut L' b m=y)(hb:b+m≤n):cut L b m=y:=by
 subst h;subst k
 unfold cut
 rw[ab6,List.drop_take,abQ]
 congr 1
 omega
theorem Vo{L L' OJ R ys:List Value}{n b:Nat}(h:cut L 0 n=L')(k:put L' b ys=OJ)(p:put L 0 OJ=R)(hb:b+ys.length≤n)(hl:n≤L.length):put L b ys=R:=by
 subst h;subst k;subst p
 unfold cut put
 simp only[ab6,List.take_zero,abA,ab_,abQ,abT,abn,abh]
 rw[abR (by omega:b≤n),abR (by omega:b≤L.length),abR hl]
 have e:b+ys.length+(n-(b+ys.length))=n:=ac_
 rw[e]
 have d:List.drop (b+ys.length) L=List.drop (b+ys.length) (List.take n L)++List.drop n L:=by
  conv=>lhs;rw[←abo n L]
  rw[acb (by rw[abn];omega)]
 rw[d]
 simp only[acW]
end Go.Fx
end
section
namespace Go.Fx
open Go Go.Fw
def tX(r s:di):Prop:=∀ k,r.fp k → ¬ s.fp k
theorem tX.symm{r s:di}(h:tX r s):tX s r:=fun k h1 h2=>h k h2 h1
theorem iL{w:World}{L:List di}:au w L↔(∀ r∈L,r.holds w)∧L.Pairwise tX:=by
 constructor
 ·intro h
  refine⟨fun r hr=>?_,?_⟩
  ·obtain⟨i,hi⟩:=acZ.1 hr;exact h.hold i r hi
  ·rw[aaO]
   intro i j hi hj hij
   exact h.apart i j _ _ (aa1 hi) (aa1 hj) ac_
 ·rintro⟨h1,h2⟩
  rw[aaO]at h2
  refine⟨fun i r hi=>h1 r (abj hi),fun i j r s hi hj hij=>?_⟩
  obtain⟨a,rfl⟩:=aap.1 hi
  obtain⟨b,rfl⟩:=aap.1 hj
  rcases Nat.lt_or_gt_of_ne hij with h|h
  ·exact h2 i j a b h
  ·exact tX.symm (h2 j i b a h)
abbrev xQ(p:Prop)(A:List di):di:=.gen (fun k=>∃ r∈A,r.fp k) (fun w=>p∧au w A)
section
variable {w w':World}{A L:List di}{p:Prop}
theorem E3(h:au w A)(BZ:Io w w')(hs:w.heap.size≤w'.heap.size)(hk:∀ k,(∃ r∈A,r.fp k)→w'.heap[k]? = w.heap[k]?):au w' A :=
 ⟨fun i r hi=>di.keep (h.hold i r hi) BZ hs fun k hf=>hk k ⟨r,abj hi,hf⟩,h.apart⟩
theorem OU(hp:p)(h:au w A):(xQ p A).holds w:=by
 rw[iL]at h
 exact⟨fun k ⟨r,hr,hf⟩=>di.fp_lt (h.1 r hr) hf,fun w' a b c=>⟨hp,E3 (iL.2 h) a b c⟩⟩
theorem nR(h:(xQ p A).holds w):p∧au w A:=h.2 w (Io.refl w) (aal _) fun _ _=>rfl
theorem DK(hp:p)(h:au w (A++L)):au w (xQ p A::L):=by
 rw[iL,aa_]at h
 obtain⟨h1,h2,h3,h4⟩:=h
 rw[iL,aaS]
 refine⟨fun r hr=>?_,fun s hs k ⟨r,hr,hf⟩ Dx=>h4 r hr s hs k hf Dx,h3⟩
 rcases aaM.1 hr with rfl|hr
 ·exact OU hp (iL.2 ⟨fun r hr=>h1 r (aa7 _ hr),h2⟩)
 ·exact h1 r (aa8 _ hr)
theorem C9(h:au w (xQ p A::L)):p∧au w (A++L):=by
 obtain⟨hp,hA⟩:=nR (h.hold 0 _ rfl)
 rw[iL]at h hA
 rw[aaS]at h
 rw[iL,aa_]
 refine⟨hp,fun r hr=>?_,hA.2,h.2.2,fun r hr s hs k hf Dx=>h.2.1 s hs k ⟨r,hr,hf⟩ Dx⟩
 rcases aaF.1 hr with hr|hr
 ·exact hA.1 r hr
 ·exact h.1 r (aaN _ hr)
end
def o8(hs:List SV)(ls:List (List UInt8)):List di:=List.zipWith (fun h l=>ak 0 h 5 l) hs ls
def a_(hs:List SV)(ls:List (List UInt8)):di:=xQ (hs.length=ls.length) (o8 hs ls)
def pk(ls:List (List UInt8))(k:Nat):List UInt8:=ls.getD k []
section
variable {w w':World}{L:List di}{hs:List SV}{ls m:List (List UInt8)}{h s:SV}{l:List UInt8}
theorem S7(q:(a_ hs ls).holds' w):hs.length=ls.length:=(nR q).1
theorem PK{k:Nat}(h1:hs[k]? = some h)(h2:ls[k]? = some l):(o8 hs ls)[k]? = some (ak 0 h 5 l):=by
 unfold o8;rw[ac0,h1,h2]
theorem rZ{k:Nat}(q:(a_ hs ls).holds' w)(hk:hs[k]? = some h):ls[k]? = some (pk ls k)∧Own 0 w 5 h (pk ls k):=by
 have hl:=S7 q
 have:k<ls.length:=by rw[←hl];exact(aap.1 hk).1
 have e:ls[k]? = some (pk ls k):=by simp[pk,this]
 exact⟨e,(nR q).2.hold k _ (PK hk e)⟩
theorem FG{k:Nat}(q:(a_ hs ls).holds' w)(hk:hs[k]? = some h):cg 0 w h (pk ls k):=Own.slice (rZ q hk).2
theorem lW(e:hs.length=ls.length):cn (dj (X:=UInt8) (a_ hs ls).holds') hs ls:=by
 refine⟨e,fun i x y hx hy w q=>?_⟩
 have:=FG q hx
 rwa [show pk ls i=y by simp[pk,hy]]at this
theorem mP(h:au w L):au w (a_ [] []::L):=DK (A:=o8 [] []) rfl h
theorem tI(q:au w (a_ hs ls::ak 0 h 5 l::L))(e:m=ls ++ [l]):au w (a_ (hs ++ [h]) m::L):=by
 subst e
 obtain⟨h1,h2⟩:=C9 q
 refine DK (by simp[h1]) ?_
 have e:o8 (hs ++ [h]) (ls ++ [l])=o8 hs ls ++ [ak 0 h 5 l]:=by unfold o8;rw[List.zipWith_append h1];rfl
 rw[e];simpa using h2
theorem SE{k:Nat}{l':List UInt8}(q:(a_ hs ls).holds' w)(hk:hs[k]? = some h)(hU:oa (ak 0 h 5 (pk ls k)) (ak 0 h 5 l') w w'):oa (a_ hs ls) (a_ hs (ls.set k l')) w w':=by
 obtain⟨e,ho⟩:=rZ q hk
 have hr:=PK hk e
 have hin:ak 0 h 5 (pk ls k)∈o8 hs ls:=abj hr
 have hlt:k<ls.length:=(aap.1 e).1
 have es:o8 hs (ls.set k l')=(o8 hs ls).set k (ak 0 h 5 l'):=by
  unfold o8
  apply aa6
  intro j
  rw[ac0,abG,abG,ac0]
  by_cases hj:k=j
  ·subst hj
   rw[aay rfl,aay rfl,aay hlt,aay (by rw[List.length_zipWith];have:=(aap.1 hk).1;omega),hk]
  ·rw[aaz hj,aaz hj]
 obtain⟨h1,h2⟩:=nR q
 refine⟨hU.io,hU.size,fun j hj hf=>hU.block j hj fun Dx=>hf ⟨_,hin,Dx⟩,?_,?_⟩
 ·refine OU (by rw[abv];exact h1) ?_
  rw[es]
  exact h2.chg hU hr
 ·rintro j ⟨r,hr',hf⟩
  rw[es]at hr'
  rcases abz hr' with hr' | rfl
  ·exact .inl ⟨r,hr',hf⟩
  ·rcases hU.fp j hf with h|h
   ·exact .inl ⟨_,hin,h⟩
   ·exact .inr h
def xh(B:World→Prop)(n:Nat)(hs:List SV)(ls:List (List UInt8)):Prop:=hs.length=ls.length ∧ ∀ i x y,n≤i→hs[i]? = some x→ls[i]? = some y→dj B x y
theorem Xc{B:World→Prop}(q:cn (dj (X:=UInt8) B) hs ls):xh B 0 hs ls:=⟨q.len,fun i x y _ hx hy=>q.at_ i x y hx hy⟩
theorem PG{B:World→Prop}{n:Nat}{i:Int}{x:List UInt8}(q:xh B n hs ls)(hx:Fx.get ls i=some x):(0≤i∧i<(hs.length:Int)) ∧ ∃ y,hs[i.toNat]? = some y∧(n≤i.toNat→dj B y x):=by
 obtain⟨h0,h1⟩:=aL hx
 have h2:=(aap.1 h1).1
 have h3:i.toNat<hs.length:=by rw[q.1];exact h2
 exact⟨ac_,hs[i.toNat],aa1 h3,fun hn=>q.2 _ _ _ hn (aa1 h3) h1⟩
theorem Un{B:World→Prop}{n:Nat}{i:Int}{x:List UInt8}(q:xh B n hs ls)(hx:Fx.get ls i=some x)(hi:i.toNat=n):xh B (n+1) (hs.set i.toNat h) ls :=
 ⟨by rw[abv];exact q.1,fun j a b hj ha hb=>by
  rw[abG]at ha
  rw[aaz ac_]at ha
  exact q.2 j a b ac_ ha hb⟩
theorem Vd{B:World→Prop}{n:Nat}{i:Int}{x:List UInt8}(q:xh B n hs ls)(hx:Fx.get ls i=some x)(hi:i.toNat=n)(hM:au w (a_ (hs.take n) (ls.take n)::ak 0 h 5 x::L)) :
  au w (a_ ((hs.set i.toNat h).take (n+1)) (ls.take (n+1))::L):=by
 subst hi
 obtain⟨h0,h1⟩:=aL hx
 have h2:=(aap.1 h1).1
 have h3:i.toNat<hs.length:=by rw[q.1];exact h2
 have e1:(hs.set i.toNat h).take (i.toNat+1)=hs.take i.toNat ++ [h]:=by
  rw[aa9]
  rw[abG,aay rfl,aay h3]
  congr 1
  rw[List.take_set_of_le (aal _)]
 rw[e1]
 refine tI hM ?_
 rw[aa9,h1];rfl
theorem Vb{B:World→Prop}{n:Nat}(q:xh B n hs ls)(hn:ls.length≤n)(hM:au w (a_ (hs.take n) (ls.take n)::L)):au w (a_ hs ls::L):=by
 rwa [abW (by rw[q.1];exact hn),abW hn]at hM
end
def LC{X:Type}(l:List X)(i:Int)(m:List X):Option (List X):=if 0≤i∧i.toNat+m.length≤l.length then some (put l i.toNat m)else none
end Go.Fx
end
section
namespace Go.Fx
open Go Go.Fw
theorem Uy{l y y' l':List Value}{v:Value}{o c d e:Nat}(hc:Fw.cut l o c=y)(hp:y.set (d+e) v=y')(hl:put l o y' = l')(h1:o+c≤l.length)(h2:d+e<c):l.set (o+d+e) v=l':=by
 rw[aaY];exact fT hc hp hl h1 h2
theorem V6{X:Type}[du X]{n sz:Nat}{v:Vec X n}{i:Nat}{y:X}{u:Value}(h:i<n)(h1:du.enc y = [u])(hs:du.sz X=sz)(hz:sz=1):(encs v.l).set (0+i*sz) u=encs (v.set i y).l:=by
 subst hs
 have:=kF (v:=v) (i:=i) (y:=y) h
 rw[h1]at this
 refine D5 this ?_
 have e:=mG (v:=v) h
 omega
def BX{X:Type}(l:List X)(i j:Int)(m:List X):Option (List X):=if 0≤i∧i.toNat+m.length≤j.toNat∧j≤(l.length:Int)then some (put l i.toNat m)else none
theorem FY{X:Type}{l m r:List X}{i j:Int}(h:BX l i j m=some r):(0≤i∧i.toNat+m.length≤j.toNat∧j≤(l.length:Int))∧r=put l i.toNat m:=by
 unfold BX at h
 split at h
 ·cases h;exact⟨by assumption,rfl⟩
 ·cases h
section
variable {P:Program}{n:Nat}{F:List (Nat×Value)}{a:Act}{dd:List Deferred}{w:World}{o:Oper}{J:Value→World→Prop}
theorem O6{X:Type}[du X]{t dT e lo lo' i z:Nat}{s sx:SV}{l xs:List X}{ti:TypeInfo}{x y:Operand}(ht:P.underlying dT=some (.slice e))(hi:P.info? e=some ti)(hs1:ti.size=1)(hX:du.sz X=1)
  (hF:Fr n F a dd) (ho:o.op = .call { callee:=.builtin .copy,args:=#[x,y],argTypes:=#[dT,t] }) (hx:ev F x=some (s.cut i z 1).v) (hy:ev F y=some sx.v)
  (hown:Own lo w e s l) (hsx:cg lo' w sx xs) (hfit:i+xs.length≤z) (hz:z≤l.length)
  (next:∀ w',oa (ak lo s e l) (ak lo s e (put l i xs)) w w' → J (.int .i64 (xs.length:Nat)) w'):Yd P o a.eval w J:=by
 have hsz:(P.info? e).map (·.size)=some 1:=by simp[hi,hs1]
 have fin:∀ w',(Builtin.copy_ #[dT,t] o.type #[(s.cut i z 1).v,sx.v]).run P w = .ok (goInt xs.length) w' → oa (ak lo s e l) (ak lo s e (put l i xs)) w w' → Yd P o a.eval w J:=by
  intro w' hr hU
  have h:=next w' hU
  unfold Yd
  simp only[execOp,ho,resolve,invoke,builtin,Sem.run_bind,Sem.run_pure,Result.andThen_ok,ab0,aa4,aa5,hF.eval hx,hF.eval hy,hr]
  exact h
 have vn:=hsx.len
 by_cases hxs:xs = []
 ·subst hxs
  have qa:put l i ([]:List X)=l:=by simp[put]
  refine fin w ?_ ?_
  ·simp only[abV]at vn
   have:=run_copy_none (P:=P) w dT t o.type e (s.cut i z 1).a sx.a (s.cut i z 1).len (s.cut i z 1).cap sx.len sx.cap ht hsz (by rw[vn];simp)
   simpa[SV.v]using this
  ·rw[qa]
   exact⟨Io.refl w,aal _,fun _ _ _=>rfl,hown,fun k hk=>.inl hk⟩
 ·have hpos:0<xs.length:=abU.2 hxs
  obtain⟨b,off,hb⟩:=hsx.addr hxs
  have Kw:=hsx.cells
  rw[hb]at Kw
  obtain⟨_,_,Kw⟩:=Kw
  rcases hown.2 with⟨h1,h2⟩|⟨g,cap,cur,h1,h3,h4,h5,h6,h7,h8⟩
  ·omega
  ·have hs:s=⟨some ⟨g,0,none⟩,l.length,cap⟩:=by obtain⟨a,b,c⟩:=s;cases h1;rfl
   have hcut:s.cut i z 1=⟨some ⟨g,i,none⟩,z-i,cap-i⟩:=by
    rw[hs];simp only[SV.cut];rw[aaz ac_];simp[eC]
   have hel:(encs xs).length=xs.length:=by rw[dN,hX,acF]
   rw[hX,acF]at h7 h8
   have Ie:i+(encs xs).length≤cur.size:=by rw[hel];omega
   have hr:=run_copy_row (P:=P) w dT t o.type e g i (z-i) (cap-i) ⟨b,off,none⟩ xs.length sx.cap cur e (encs xs) ht hsz h4 (by rw[hel];simp[Nat.min_def];omega) (fun j v hv=>by rw[eC];exact Kw j v hv) Ie (fA xs)
   rw[hel]at hr
   refine fin _ (by rw[hcut,hb];exact hr) ?_
   have hnew:∀ (cs':List Value),cs'.length=cur.size→cs'.take l.length=encs (put l i xs)→Own lo (w.setRow g cs'.toArray) e s (put l i xs):=by
    intro cs' hc1 qg
    have ym:(put l i xs).length=l.length:=by simp[put];omega
    refine⟨by rw[dN],.inr ⟨g,cap,cs'.toArray,by rw[ym];exact h1,h3,setRow_heap w g cur cs'.toArray e _ h4,by rw[ym];exact h5,h6,by simp[hc1,h7,hX],by rw[ym,hX,acF];simpa using qg⟩⟩
   have Ik:(encs l).length=l.length:=by rw[dN,hX,acF]
   refine⟨⟨rfl,rfl,rfl⟩,by simp[World.setRow],fun k _ hf=>setRow_other w g k _ fun e'=>hf (by subst e'; simp[di.fp,h1,Value.ownBlock]),hnew _ (by simp;omega) ?_,fun k hk=>.inl hk⟩
   have e1:encs (put l i xs)=(encs l).take i++encs xs++(encs l).drop (i+xs.length):=by
    unfold put
    rw[dY,dY]
    congr 1
    ·congr 1
     have e3:(encs (l.take i)).length=i:=by rw[dN,hX];simp;omega
     have h':=dY (l.take i) (l.drop i)
     rw[abo]at h'
     rw[h'];exact(acw e3).symm
    ·have e3:(encs (l.take (i+xs.length))).length=i+xs.length:=by rw[dN,hX];simp;omega
     have h':=dY (l.take (i+xs.length)) (l.drop (i+xs.length))
     rw[abo]at h'
     rw[h'];exact(List.drop_left' e3).symm
   rw[e1,←h8]
   apply aa6
   intro j
   simp only[aav,acy,abT,abn,abh,aaw,hel,Array.length_toList]
   repeat' split
   all_goals first|rfl|omega|(congr 1;omega)|skip
theorem WU{t dT e lo':Nat}{s sx:SV}{l xs r:List UInt8}{i j:Int}{ti:TypeInfo}{x y:Operand}(hr:Fx.BX l i j xs=some r)(ht:P.underlying dT=some (.slice e))(hi:P.info? e=some ti)(hs1:ti.size=1)
  (hF:Fr n F a dd) (ho:o.op = .call { callee:=.builtin .copy,args:=#[x,y],argTypes:=#[dT,t] }) (hx:ev F x=some (s.cut i.toNat j.toNat 1).v) (hy:ev F y=some sx.v)
  (hown:Own 0 w e s l) (hsx:cg lo' w sx xs)
  (next:∀ w',oa (ak 0 s e l) (ak 0 s e r) w w' → J (.int .i64 (xs.length:Nat)) w'):Yd P o a.eval w J:=by
 obtain⟨⟨h1,h2,h3⟩,rfl⟩:=FY hr
 exact O6 ht hi hs1 rfl hF ho hx hy hown hsx h2 ac_ next
theorem WV{t dT lo' k:Nat}{s sx:SV}{hs:List SV}{ls:List (List UInt8)}{l xs r:List UInt8}{i j:Int}{ti:TypeInfo}{x y:Operand}(hr:Fx.BX l i j xs=some r)(hl:ls[k]? = some l)(ht:P.underlying dT=some (.slice 5))(hi:P.info? 5=some ti)(hs1:ti.size=1)
  (hF:Fr n F a dd) (ho:o.op = .call { callee:=.builtin .copy,args:=#[x,y],argTypes:=#[dT,t] }) (hx:ev F x=some (s.cut i.toNat j.toNat 1).v) (hy:ev F y=some sx.v)
  (q:(a_ hs ls).holds' w) (hk:hs[k]? = some s) (hsx:cg lo' w sx xs)
  (next:∀ w',oa (a_ hs ls) (a_ hs (ls.set k r)) w w' → J (.int .i64 (xs.length:Nat)) w'):Yd P o a.eval w J:=by
 obtain⟨⟨h1,h2,h3⟩,rfl⟩:=FY hr
 have e:pk ls k=l:=by simp[pk,hl]
 subst e
 exact O6 ht hi hs1 rfl hF ho hx hy (rZ q hk).2 hsx h2 ac_ fun w' hU=>next w' (SE q hk hU)
end
section
variable {w:World}{hs:List SV}{ls:List (List UInt8)}{h:SV}{l:List UInt8}
theorem F5{k:Nat}(q:(a_ hs ls).holds' w)(hk:hs[k]? = some h)(hl:ls[k]? = some l):cg 0 w h l:=by
 have:=FG q hk
 rwa [show pk ls k=l by simp[pk,hl]]at this
theorem Ws{R:World→Prop}{i:Int}(q:cn (dj (X:=UInt8) R) hs ls)(hx:Fx.get ls i=some l):(0≤i∧i<(hs.length:Int)) ∧ ∃ y,hs[i.toNat]? = some y:=by
 obtain⟨h0,h1⟩:=aL hx
 have h2:=(aap.1 h1).1
 have h3:i.toNat<hs.length:=by rw[q.len];exact h2
 exact⟨ac_,hs[i.toNat],aa1 h3⟩
theorem Vk{R:World→Prop}{k:Nat}{r:List UInt8}(q:cn (dj (X:=UInt8) R) hs ls):cn (dj (X:=UInt8) (a_ hs (ls.set k r)).holds') hs (ls.set k r) :=
 lW (by rw[abv];exact q.len)
end
end Go.Fx
end
section
namespace Go.Fw
structure Full(e lo:Nat)(s:SV)(l:List UInt8)(w:World):Prop where
 ex:∃ g fz,s=⟨some ⟨g,0,none⟩,l.length,l.length⟩∧lo≤g∧w.heap[g]? = some (.cells (encs l).toArray e fz)
structure Wr(T e lo wb:Nat)(c:Bool)(l:List UInt8)(fp:Nat→Prop)(w:World):Prop where
 ge:lo≤wb
 ex:∃ s:SV,w.heap[wb]? = some (.cells #[s.v] T (0,0))∧(Own lo w e s l∨(c=false∧Full e lo s l w)) ∧ ∀ k,fp k↔(k=wb∨s.v.ownBlock=some k)
abbrev ZH(T e lo wb:Nat)(c:Bool)(l:List UInt8)(fp:Nat→Prop):di:=.gen fp (Wr T e lo wb c l fp)
section
variable {T e lo wb:Nat}{c c':Bool}{l l':List UInt8}{fp fp':Nat→Prop}{w w' w0 wb0:World}{L:List di}
theorem Wr.lt(h:Wr T e lo wb c l fp w){k:Nat}(hk:fp k):lo≤k∧k<w.heap.size:=by
 obtain⟨s,h1,h2,h3⟩:=h.ex
 rcases(h3 k).1 hk with rfl|h4
 ·exact⟨h.ge,(aao.1 h1).1⟩
 ·rcases h2 with h2|⟨_,⟨g,fz,rfl,hg,hh⟩⟩
  ·exact World.ownsRow.lt h2 k h4
  ·simp only[SV.v,Value.ownBlock,ac9]at h4
   subst h4
   exact⟨hg,(aao.1 hh).1⟩
theorem Wr.keep(h:Wr T e lo wb c l fp w)(BZ:Io w w')(hs:w.heap.size≤w'.heap.size)(hk:∀ k,fp k→w'.heap[k]? = w.heap[k]?):Wr T e lo wb c l fp w':=by
 obtain⟨s,h1,h2,h3⟩:=h.ex
 refine⟨h.ge,s,by rw[hk wb ((h3 wb).2 (.inl rfl))];exact h1,?_,h3⟩
 rcases h2 with h2|⟨hc,⟨g,fz,rfl,hg,hh⟩⟩
 ·exact .inl (di.keep (r:=.row lo s.v e (du.sz UInt8) l.length (encs l)) h2 BZ hs fun k hk'=>hk k ((h3 k).2 (.inr hk')))
 ·exact .inr ⟨hc,⟨g,fz,rfl,hg,by rw[hk g ((h3 g).2 (.inr rfl))];exact hh⟩⟩
theorem Wr.holds(h:Wr T e lo wb c l fp w):(ZH T e lo wb c l fp).holds w:=⟨fun k hk=>(h.lt hk).2,fun w' a b d=>h.keep a b d⟩
end
end Go.Fw
end
section
namespace Go.Fx
open Go Go.Fw
def Ext(e:Nat)(s:SV)(l:List UInt8)(w:World):Prop:=Own 0 w e s l∨Full e 0 s l w
abbrev LH(e:Nat)(s:SV)(l:List UInt8):di:=.gen (fun k=>s.v.ownBlock=some k) (Ext e s l)
section
variable {e:Nat}{s:SV}{l:List UInt8}{w w':World}{L:List di}
theorem Tf(h:Full e 0 s l w):cg 0 w s l:=by
 obtain⟨g,fz,rfl,_,hh⟩:=h.ex
 exact⟨rfl,aal _,.inr rfl,aau _,oV (n:=(encs l).length) hh (cG rfl)⟩
theorem Ue(h:Full e 0 s l w)(hk:∀ k,s.v.ownBlock=some k→w'.heap[k]? = w.heap[k]?):Full e 0 s l w':=by
 obtain⟨g,fz,rfl,h0,hh⟩:=h.ex
 exact⟨g,fz,rfl,h0,by rw[hk g rfl];exact hh⟩
theorem Ext.slice(h:Ext e s l w):cg 0 w s l:=h.elim Own.slice Tf
theorem Ext.holds(h:Ext e s l w):(LH e s l).holds w:=by
 refine⟨fun k hk=>?_,fun w' BZ hs hk=>?_⟩
 ·rcases h with h|h
  ·exact(World.ownsRow.lt h k hk).2
  ·obtain⟨g,fz,rfl,_,hh⟩:=h.ex
   simp only[SV.v,Value.ownBlock,ac9]at hk;subst hk
   exact(aao.1 hh).1
 ·rcases h with h|h
  ·exact .inl (di.keep (r:=.row 0 s.v e (du.sz UInt8) l.length (encs l)) h BZ hs hk)
  ·exact .inr (Ue h hk)
end
section
variable {P:Program}{n:Nat}{F:List (Nat×Value)}{a:Act}{dd:List Deferred}{w:World}{o:Oper}{J:Value→World→Prop}
inductive gj{X:Type}[du X]:Nat→List (Nat×Value)→List X→Prop
 | nil {k:Nat}:gj k [] []
 | cons {k:Nat} {v:Value} {y:X} {vM:List (Nat×Value)} {ys:List X}:v.cells=(du.enc y).toArray→gj (k+1) vM ys→gj k ((k,v)::vM) (y::ys)
theorem W9{place:Nat→Option (Nat×Nat)}{cs cs' vs:List Value}{v:Value}{i off sz:Nat}{rest:List (Nat×Value)}{r:Array Value}(hp:place i=some (off,sz))(hv:v.cells=vs.toArray)(hl:vs.length=sz)(hle:off+vs.length≤cs.length)(qa:put cs off vs=cs')(h:Instr.fill place cs'.toArray rest=some r) :
  Instr.fill place cs.toArray ((i,v)::rest)=some r:=by
 subst qa hl
 have hf:=pA vs 0 off cs ac_
 simp only[abX]at hf
 simp only[Instr.fill,hp,hv,abY,ne_eq,not_true_eq_false,decide_false,acn,aad]
 rw[aaz ac_,←aco,acp]
 simp only[hf]
 exact h
theorem Td{X:Type}[du X]{k:Nat}{vM:List (Nat×Value)}{ys:List X}(h:gj k vM ys):∀ (done:List X) (zs:List Value),done.length=k→zs.length=ys.length*du.sz X →
  Instr.fill (fun i=>some (i*du.sz X,du.sz X)) (encs done++zs).toArray vM=some (encs (done++ys)).toArray:=by
 induction h with
 | nil =>
  intro done zs hd hz
  simp at hz
  subst hz
  simp[Instr.fill]
 | @cons k v y vM ys hv _ ih =>
  intro done zs hd hz
  subst hd
  have hsz:zs.length=du.sz X+ys.length*du.sz X:=by rw[hz,abm,ab4];omega
  have hel:(encs done).length=done.length*du.sz X:=dN done
  refine W9 (off:=done.length*du.sz X) (sz:=du.sz X) (cs':=encs (done ++ [y])++zs.drop (du.sz X)) rfl hv (du.len y) (by rw[du.len];simp;omega) ?_ ?_
  ·unfold put
   rw[du.len,dY,wB,acw hel,←hel,ab8]
  ·have:=ih (done ++ [y]) (zs.drop (du.sz X)) (by simp) (by simp;omega)
   rw[this,acW];rfl
theorem eR{X:Type}[du X]{t e m:Nat}{ys:List X}{parts:List (Nat×Operand)}{vM:List (Nat×Value)}{ie:TypeInfo}{z:Value}(hu:P.underlying t=some (.slice e))(hie:P.info? e=some ie)(hz:ie.zero=some z)(hs:ie.size=du.sz X)(tg:z.cells.size=du.sz X)
  (hn:ys.length=m) (EU:Nat.ble (m*du.sz X) 16777216=true) (hpos:0<m) (hF:Fr n F a dd) (ho:o.op = .buildSlice t m parts.toArray) (hp:wu F parts=some vM) (hv:gj 0 vM ys)
  (next:∀ b w',w.heap.size=b→iz (pt b (encs ys) e) w w' → J (SV.v ⟨some ⟨b,0,none⟩,m,m⟩) w'):Yd P o a.eval w J:=by
 have hX:=du.pos (X:=X)
 refine xD (parts:=parts) (vM:=vM) (cs:=encs ys) hu hie hz hs hF ho hp EU ?_ ?_ next
 ·cases hq:Nat.beq (m*du.sz X) 0 with
  | false=>rfl
  | true =>
   have:=aaf hq
   rcases Nat.mul_eq_zero.1 this with h|h<;>omega
 ·have hz0:((Array.range (m*du.sz X)).map (z.cells[· % z.cells.size]!))=(((Array.range (m*du.sz X)).map (z.cells[· % z.cells.size]!)).toList).toArray:=(acs).symm
  rw[hz0]
  have:=Td hv [] ((Array.range (m*du.sz X)).map (z.cells[· % z.cells.size]!)).toList rfl (by simp[hn])
  simpa[jS]using this
end
end Go.Fx
end
section
namespace Go.Fx
open Go Go.Fw
structure b9 where
 table:Int
 from_:Int
 old:List UInt8
 new:List UInt8
deriving DecidableEq
def eH(L:World→Prop)(x:bk)(p:b9):Prop:=∃ (mr:SV) (mg:SV),x=(bk.mk p.table p.from_ mr mg)∧dj L mr p.old∧dj L mg p.new
theorem eH.mono{L L':World→Prop}{x:bk}{p:b9}(h:eH L x p)(k:∀ w,L' w→L w):eH L' x p:=by
 obtain⟨mr,mg,e,h0,h1⟩:=h
 exact⟨mr,mg,e,h0.mono k,h1.mono k⟩
structure dw where
 at_:Int
 next:Int
 done:Bool
 a8:List dM
 slots:List d_
 dy:List b9
 a7:List Int
deriving DecidableEq
def ki(L:World→Prop)(x:bw)(p:dw):Prop:=∃ (nu:SV) (kA:SV) (jM:SV) (kx:List bk) (gx:SV),x=(bw.mk p.at_ p.next p.done nu kA jM gx)∧dj L nu p.a8∧dj L kA p.slots∧dj L jM kx∧cn (eH L) kx p.dy∧dj L gx p.a7
theorem ki.mono{L L':World→Prop}{x:bw}{p:dw}(h:ki L x p)(k:∀ w,L' w→L w):ki L' x p:=by
 obtain⟨nu,kA,jM,kx,gx,e,h0,h1,h2,h3,h4⟩:=h
 exact⟨nu,kA,jM,kx,gx,e,h0.mono k,h1.mono k,h2.mono k,h3.mono fun _ _ q=>q.mono k,h4.mono k⟩
structure gi where
 cq:List UInt8
 ah:List (List UInt8)
deriving DecidableEq
def uh(L:World→Prop)(x:bu)(p:gi):Prop:=∃ (ig:SV) (eh:SV) (gf:List SV),x=(bu.mk ig eh)∧dj L ig p.cq∧dj L eh gf∧cn (dj (X:=UInt8) L) gf p.ah
theorem uh.mono{L L':World→Prop}{x:bu}{p:gi}(h:uh L x p)(k:∀ w,L' w→L w):uh L' x p:=by
 obtain⟨ig,eh,gf,e,h0,h1,h2⟩:=h
 exact⟨ig,eh,gf,e,h0.mono k,h1.mono k,h2.mono fun _ _ q=>q.mono k⟩
structure gy where
 qb:gi
 dW:List dw
 end_:Int
deriving DecidableEq
def q_(L:World→Prop)(x:bp)(p:gy):Prop:=∃ (pW:SV) (m_:SV) (mA:List SV) (pX:SV) (tL:List bw),x=(bp.mk (bu.mk pW m_) pX p.end_)∧dj L pW p.qb.cq∧dj L m_ mA∧cn (dj (X:=UInt8) L) mA p.qb.ah∧dj L pX tL∧cn (ki L) tL p.dW
theorem q_.mono{L L':World→Prop}{x:bp}{p:gy}(h:q_ L x p)(k:∀ w,L' w→L w):q_ L' x p:=by
 obtain⟨pW,m_,mA,pX,tL,e,h0,h1,h2,h3,h4⟩:=h
 exact⟨pW,m_,mA,pX,tL,e,h0.mono k,h1.mono k,h2.mono fun _ _ q=>q.mono k,h3.mono k,h4.mono fun _ _ q=>q.mono k⟩
structure fg where
 lo:Int
 hi:Int
 data:List UInt8
 ah:List gP
 code:List bg
deriving DecidableEq
def qf(L:World→Prop)(x:bj)(p:fg):Prop:=∃ (lI:SV) (eh:SV) (gu:SV),x=(bj.mk p.lo p.hi lI eh gu)∧dj L lI p.data∧dj L eh p.ah∧dj L gu p.code
theorem qf.mono{L L':World→Prop}{x:bj}{p:fg}(h:qf L x p)(k:∀ w,L' w→L w):qf L' x p:=by
 obtain⟨lI,eh,gu,e,h0,h1,h2⟩:=h
 exact⟨lI,eh,gu,e,h0.mono k,h1.mono k,h2.mono k⟩
structure br where
 a8:Vec aj 11
 bh:Vec bn 32
 cq:List UInt8
 ah:List (List UInt8)
 a7:List Int
 at_:Int
 steps:Int
 done:Bool
deriving DecidableEq
def ui(L:World→Prop)(x:bf)(p:br):Prop:=∃ (ig:SV) (eh:SV) (gf:List SV) (gx:SV),x=(bf.mk p.a8 p.bh ig eh gx p.at_ p.steps p.done)∧dj L ig p.cq∧dj L eh gf∧cn (dj (X:=UInt8) L) gf p.ah∧dj L gx p.a7
theorem ui.mono{L L':World→Prop}{x:bf}{p:br}(h:ui L x p)(k:∀ w,L' w→L w):ui L' x p:=by
 obtain⟨ig,eh,gf,gx,e,h0,h1,h2,h3⟩:=h
 exact⟨ig,eh,gf,gx,e,h0.mono k,h1.mono k,h2.mono fun _ _ q=>q.mono k,h3.mono k⟩
structure ze where
 r0:Int
 cq:List UInt8
 ah:List (List UInt8)
 a7:List Int
deriving DecidableEq
def q7(L:World→Prop)(x:fj)(p:ze):Prop:=∃ (ig:SV) (eh:SV) (gf:List SV) (gx:SV),x=(fj.mk p.r0 ig eh gx)∧dj L ig p.cq∧dj L eh gf∧cn (dj (X:=UInt8) L) gf p.ah∧dj L gx p.a7
theorem q7.mono{L L':World→Prop}{x:fj}{p:ze}(h:q7 L x p)(k:∀ w,L' w→L w):q7 L' x p:=by
 obtain⟨ig,eh,gf,gx,e,h0,h1,h2,h3⟩:=h
 exact⟨ig,eh,gf,gx,e,h0.mono k,h1.mono k,h2.mono fun _ _ q=>q.mono k,h3.mono k⟩
structure zf where
 b:List UInt8
deriving DecidableEq
def rf(L:World→Prop)(x:gp)(p:zf):Prop:=∃ (tW:SV),x=(gp.mk tW)∧dj L tW p.b
theorem rf.mono{L L':World→Prop}{x:gp}{p:zf}(h:rf L x p)(k:∀ w,L' w→L w):rf L' x p:=by
 obtain⟨tW,e,h0⟩:=h
 exact⟨tW,e,h0.mono k⟩
structure fL where
 b:List UInt8
 at_:Int
 place:Int
 e:Int
deriving DecidableEq
def q9(L:World→Prop)(x:h_)(p:fL):Prop:=∃ (tW:SV),x=(h_.mk tW p.at_ p.place p.e)∧dj L tW p.b
theorem q9.mono{L L':World→Prop}{x:h_}{p:fL}(h:q9 L x p)(k:∀ w,L' w→L w):q9 L' x p:=by
 obtain⟨tW,e,h0⟩:=h
 exact⟨tW,e,h0.mono k⟩
structure gY where
 b:List UInt8
 at_:Int
 place:Int
 e:Int
deriving DecidableEq
def qT(L:World→Prop)(x:g_)(p:gY):Prop:=∃ (tW:SV),x=(g_.mk tW p.at_ p.place p.e)∧dj L tW p.b
theorem qT.mono{L L':World→Prop}{x:g_}{p:gY}(h:qT L x p)(k:∀ w,L' w→L w):qT L' x p:=by
 obtain⟨tW,e,h0⟩:=h
 exact⟨tW,e,h0.mono k⟩
structure fq where
 bh:Vec bn 32
 cq:List UInt8
 ah:List (List UInt8)
 data:List UInt8
 sizes:List gP
deriving DecidableEq
def qW(L:World→Prop)(x:bq)(p:fq):Prop:=∃ (ig:SV) (eh:SV) (gf:List SV) (lI:SV) (pY:SV),x=(bq.mk p.bh ig eh lI pY)∧dj L ig p.cq∧dj L eh gf∧cn (dj (X:=UInt8) L) gf p.ah∧dj L lI p.data∧dj L pY p.sizes
theorem qW.mono{L L':World→Prop}{x:bq}{p:fq}(h:qW L x p)(k:∀ w,L' w→L w):qW L' x p:=by
 obtain⟨ig,eh,gf,lI,pY,e,h0,h1,h2,h3,h4⟩:=h
 exact⟨ig,eh,gf,lI,pY,e,h0.mono k,h1.mono k,h2.mono fun _ _ q=>q.mono k,h3.mono k,h4.mono k⟩
structure QM where
 p:fg
 dq:List Int
 a8:Vec aj 11
 cells:Vec yq 256
 ptrs:List aj
 cq:List UInt8
 ah:List (List UInt8)
 a7:List Int
 at_:Int
 steps:Int
 done:Bool
deriving DecidableEq
def DZ(L:World→Prop)(x:RM)(p:QM):Prop:=∃ (qy:SV) (o4:SV) (qx:SV) (nc:SV) (vb:SV) (ig:SV) (eh:SV) (gf:List SV) (gx:SV),x=(RM.mk (bj.mk p.p.lo p.p.hi qy o4 qx) nc p.a8 p.cells vb ig eh gx p.at_ p.steps p.done)∧dj L qy p.p.data∧dj L o4 p.p.ah∧dj L qx p.p.code∧dj L nc p.dq∧dj L vb p.ptrs∧dj L ig p.cq∧dj L eh gf∧cn (dj (X:=UInt8) L) gf p.ah∧dj L gx p.a7
theorem DZ.mono{L L':World→Prop}{x:RM}{p:QM}(h:DZ L x p)(k:∀ w,L' w→L w):DZ L' x p:=by
 obtain⟨qy,o4,qx,nc,vb,ig,eh,gf,gx,e,h0,h1,h2,h3,h4,h5,h6,h7,h8⟩:=h
 exact⟨qy,o4,qx,nc,vb,ig,eh,gf,gx,e,h0.mono k,h1.mono k,h2.mono k,h3.mono k,h4.mono k,h5.mono k,h6.mono k,h7.mono fun _ _ q=>q.mono k,h8.mono k⟩
structure pe where
 args:List Int
 ret:cj
deriving DecidableEq
def yr(L:World→Prop)(x:gd)(p:pe):Prop:=∃ (rR:SV),x=(gd.mk rR p.ret)∧dj L rR p.args
theorem yr.mono{L L':World→Prop}{x:gd}{p:pe}(h:yr L x p)(k:∀ w,L' w→L w):yr L' x p:=by
 obtain⟨rR,e,h0⟩:=h
 exact⟨rR,e,h0.mono k⟩
structure zd where
 room:List UInt8
deriving DecidableEq
def qV(L:World→Prop)(x:iR)(p:zd):Prop:=∃ (vd:SV),x=(iR.mk vd)∧dj L vd p.room
theorem qV.mono{L L':World→Prop}{x:iR}{p:zd}(h:qV L x p)(k:∀ w,L' w→L w):qV L' x p:=by
 obtain⟨vd,e,h0⟩:=h
 exact⟨vd,e,h0.mono k⟩
end Go.Fx
end
section
namespace Go.Fx
open Go Go.Fw
structure ai where
 ae:fq
 code:List bg
 dq:List Int
 da:List (Int×Int)
 a8:Vec aj 11
 a7:List Int
 at_:Int
 steps:Int
 done:Bool
deriving DecidableEq
end Go.Fx
namespace Go.Fw
open Go.Fx
theorem af.ci_memory_stack(x:af)(i:Nat)(y:bn)(h:x.ae.bh.l[i]? = some y):cut x.enc (0+i*13) 13=y.enc :=
 Uw (af.c_memory x) (bq.ci_stack x.ae i y h) (by
  have:=(aap.1 h).1
  rw[x.ae.bh.len]at this
  omega)
theorem af.pi_memory_stack(x:af)(i:Nat)(y:bn)(h:i<32):put x.enc (0+i*13) (y.enc) = { x with ae:={ x.ae with bh:=x.ae.bh.set i y } }.enc :=
 Vo (af.c_memory x) (bq.pi_stack x.ae i y h) (af.p_memory x _) (by rw[bn.len];omega) (by rw[af.len];omega)
abbrev gB(x:ai)(a b c d e f:SV)(g:Nat)(h:SV):af:=af.mk (bq.mk x.ae.bh a b c d) e f (some g) x.a8 h x.at_ x.steps x.done
end Go.Fw
end
noncomputable section
namespace Go.Proofs
open Go Go.Fw Go.Fx
set_option maxRecDepth 10000
def Sh.bV:Option Bool:=some true
def Sh.cY(x0:List UInt8):Option (List UInt8):=Fx.app 1 [] x0
def Sh.bG(x0:List Int):Option (List Int):=Fx.app 8 [] x0
def Sh.gC(x0:List bg):Option (List bg):=Fx.app 56 [] x0
def Sh.aN(x0:List UInt8):Option (List UInt8):=Fx.app 1 [] x0
def Sh.eM(x0:List gP):Option (List gP):=Fx.app 16 [] x0
def Sh.fS(x0:List (List UInt8)):Option (List (List UInt8)):=Fx.app 24 [] x0
end Go.Proofs
end
noncomputable section
namespace Go.Proofs
open Go Go.Fw Go.Fx
set_option maxRecDepth 10000
def Sh.aB(x0:fL)(x1:Int)(x2:Int):Option fL :=
 (bif (decide (x0.e=0))then(some (fL.mk x0.b x0.at_ x1 x2))else(some x0))
def Sh.cN(x1:Int)(v40:fL):Option ((List UInt8×fL)) :=
 (bif (!decide (v40.e=0))then(some ([],v40))else((Fx.ny v40.b (IntKind.i64.wrap ((IntKind.i64.wrap (v40.at_+x1))-x1)) (IntKind.i64.wrap (v40.at_+x1))).bind fun ZK=>(some (ZK,(fL.mk v40.b (IntKind.i64.wrap (v40.at_+x1)) v40.place v40.e)))))
def Sh.aW(x0:fL)(x1:Int):Option ((List UInt8×fL)) :=
 (Fx.seq (bif (decide ((IntKind.i64.wrap ((x0.b.length:Int)-x0.at_))<x1))then((Sh.aB x0 (x0.b.length:Int) 236).bind fun C_=>(some (inl C_)))else(some (inl x0))) fun v40=>Sh.cN x1 v40)
def Sh.fD(c1:(List UInt8×fL))(c0:Int)(c2:Int):Option (((Int×Int)⊕((fL×Int)⊕(Int×fL)))) :=
 (bif (decide (c0<(c1.1.length:Int)))then((Fx.get c1.1 c0).bind fun c3=>(Fx.must (decide (0≤(IntKind.i64.wrap (8*c0)))) (some (inl ((IntKind.i64.wrap (c0+1)),(uu .i64 c2 (shl .i64 (c3.toNat:Int) ((IntKind.i64.wrap (8*c0))).toNat)))))))else(some (inr (inl (c1.2,c2)))))
def Sh.qR(c0:fL)(c1:Int):Option ((Int×fL)) :=
 (some (c1,c0))
def Sh.aA(x0:fL)(x1:Int):Option ((Int×fL)) :=
 (Fx.seq ((Sh.aW x0 x1).bind fun c4=>(Fx.loop (fun(c2,c3)=>Sh.fD c4 c2 c3) (0,0))) fun(c0,c1)=>Sh.qR c0 c1)
end Go.Proofs
end
noncomputable section
namespace Go.Proofs
open Go Go.Fw Go.Fx
set_option maxRecDepth 10000
def Sh.vY(v7:Bool):Option Bool :=
 (some v7)
def Sh.bJ(x0:Int)(x1:Int)(x2:Int):Option Bool :=
 (Fx.seq (bif (decide (x1≤x0))then(some (inl (decide (x0≤x2))))else(some (inl false))) fun v7=>Sh.vY v7)
def Sh.cX(c0:Int)(c1:List Int):Option (((List Int×Int)⊕(List Int⊕List Int))) :=
 (some (inl (c1,(IntKind.i64.wrap (c0+1)))))
def Sh.aV(x0:List UInt8)(x1:List UInt8)(c1:List Int)(c0:Int):Option (((List Int×Int)⊕(List Int⊕List Int))) :=
 (bif (decide (c0<(x0.length:Int)))then(Fx.seq ((Fx.get x0 c0).bind fun c3=>((Fx.get x1 c0).bind fun c4=>(bif (!decide ((c3.toNat:Int)=(c4.toNat:Int)))then((Fx.app 8 c1 [c0]).bind fun c5=>(some (inl c5)))else(some (inl c1))))) fun c2=>Sh.cX c0 c2)else(some (inr (inl c1))))
def Sh.aAe(c0:List Int):Option (List Int) :=
 (some c0)
def Sh.cQ(x0:List UInt8)(x1:List UInt8):Option (List Int) :=
 (Fx.seq (Fx.loop (fun(c1,c2)=>Sh.aV x0 x1 c1 c2) ([],0)) fun c0=>Sh.aAe c0)
def Sh.hZ(c0:Int)(c1:List Int):Option (((List Int×Int)⊕(List Int⊕List Int))) :=
 (some (inl (c1,(IntKind.i64.wrap (c0+1)))))
def Sh.dD(x0:List aj)(x1:List aj)(c1:List Int)(c0:Int):Option (((List Int×Int)⊕(List Int⊕List Int))) :=
 (bif (decide (c0<(x0.length:Int)))then(Fx.seq ((Fx.get x0 c0).bind fun c3=>((Fx.get x1 c0).bind fun c4=>(bif (!(decide (c3=c4)))then((Fx.app 8 c1 [c0]).bind fun c5=>(some (inl c5)))else(some (inl c1))))) fun c2=>Sh.hZ c0 c2)else(some (inr (inl c1))))
def Sh.uG(c0:List Int):Option (List Int) :=
 (some c0)
def Sh.hB(x0:List aj)(x1:List aj):Option (List Int) :=
 (Fx.seq (Fx.loop (fun(c1,c2)=>Sh.dD x0 x1 c1 c2) ([],0)) fun c0=>Sh.uG c0)
def Sh.iX(c0:Int)(c1:List Int):Option (((List Int×Int)⊕(List Int⊕List Int))) :=
 (some (inl (c1,(IntKind.i64.wrap (c0+1)))))
def Sh.dV(x0:List bn)(x1:List bn)(c1:List Int)(c0:Int):Option (((List Int×Int)⊕(List Int⊕List Int))) :=
 (bif (decide (c0<(x0.length:Int)))then(Fx.seq ((Fx.get x0 c0).bind fun c3=>((Fx.get x1 c0).bind fun c4=>(bif (!(decide (c3=c4)))then((Fx.app 8 c1 [c0]).bind fun c5=>(some (inl c5)))else(some (inl c1))))) fun c2=>Sh.iX c0 c2)else(some (inr (inl c1))))
def Sh.vU(c0:List Int):Option (List Int) :=
 (some c0)
def Sh.hU(x0:List bn)(x1:List bn):Option (List Int) :=
 (Fx.seq (Fx.loop (fun(c1,c2)=>Sh.dV x0 x1 c1 c2) ([],0)) fun c0=>Sh.vU c0)
def Sh.aY(c1:Int)(c0:b9)(c2:Int)(c3:Bool):Option (((Int×Int×Int)⊕(Unit⊕Bool))) :=
 (bif c3 then(some (inr (inr false)))else(some (inl ((IntKind.i64.wrap (c1+1)),c2,(IntKind.i64.wrap ((IntKind.i64.wrap (c0.from_+(c0.old.length:Int)))+1))))))
def Sh.cL(c1:Int)(c0:b9)(c2:Int)(c3:Int):Option (((Int×Int×Int)⊕(Unit⊕Bool))) :=
 (Fx.seq (bif (decide ((c0.old.length:Int)=0))then(some (inl true))else(bif (!decide ((c0.new.length:Int)=(c0.old.length:Int)))then(some (inl true))else(bif (decide (65535<(c0.old.length:Int)))then(some (inl true))else((Sh.bJ c0.from_ c3 (IntKind.i64.wrap (65535-(c0.old.length:Int)))).bind fun c5=>(bif (!c5)then(some (inl true))else((Sh.cQ c0.old c0.new).bind fun c6=>(some (inl (decide ((c6.length:Int)<(c0.old.length:Int))))))))))) fun c4=>Sh.aY c1 c0 c2 c4)
def Sh.aL(x0:List b9)(c1:Int)(c2:Int)(c3:Int):Option (((Int×Int×Int)⊕(Unit⊕Bool))) :=
 (bif (decide (c1<(x0.length:Int)))then((Fx.get x0 c1).bind fun c0=>(Fx.seq ((Sh.bJ c0.table c2 7).bind fun c6=>(bif (!c6)then(some (inr (inr (inr false))))else(bif (decide (c2<c0.table))then(some (inl (c0.table,0)))else(some (inl (c2,c3)))))) fun(c4,c5)=>Sh.cL c1 c0 c4 c5))else(some (inr (inl ()))))
def Sh.nM:Option Bool :=
 (some true)
def Sh.eI(x0:List b9):Option Bool :=
 (Fx.seq (Fx.loop (fun(c0,c1,c2)=>Sh.aL x0 c0 c1 c2) (0,(-1),0)) fun _=>Sh.nM)
def Sh.sG(c0:Int)(c2:dM)(c1:Bool):Option (((Int×Int)⊕(Unit⊕Bool))) :=
 (bif c1 then(some (inr (inr false)))else(some (inl ((IntKind.i64.wrap (c0+1)),c2.reg))))
def Sh.bL(x0:dw)(c1:Int)(c2:Int):Option (((Int×Int)⊕(Unit⊕Bool))) :=
 (bif (decide (c1<(x0.a8.length:Int)))then((Fx.get x0.a8 c1).bind fun c0=>(Fx.seq ((Sh.bJ c0.reg (IntKind.i64.wrap (c2+1)) 10).bind fun c4=>(bif (!c4)then(some (inl true))else(some (inl (decide (c0.old=c0.new)))))) fun c3=>Sh.sG c1 c0 c3))else(some (inr (inl ()))))
def Sh.sH(c0:Int)(c2:d_)(c1:Bool):Option (((Int×Int)⊕(Unit⊕Bool))) :=
 (bif c1 then(some (inr (inr false)))else(some (inl (c2.slot,(IntKind.i64.wrap (c0+1))))))
def Sh.bM(x0:dw)(c2:Int)(c1:Int):Option (((Int×Int)⊕(Unit⊕Bool))) :=
 (bif (decide (c1<(x0.slots.length:Int)))then((Fx.get x0.slots c1).bind fun c0=>(Fx.seq ((Sh.bJ c0.slot (IntKind.i64.wrap (c2+1)) 31).bind fun c4=>(bif (!c4)then(some (inl true))else(some (inl (decide (c0.old=c0.new)))))) fun c3=>Sh.sH c1 c0 c3))else(some (inr (inl ()))))
def Sh.dG(x0:dw):Option Bool :=
 ((Sh.eI x0.dy).bind fun c0=>(some c0))
def Sh.dF(x0:dw):Option Bool :=
 (Fx.seq (Fx.loop (fun(c0,c1)=>Sh.bM x0 c0 c1) ((-1),0)) fun _=>Sh.dG x0)
def Sh.dE(x0:dw)(c0:Bool):Option Bool :=
 (bif c0 then(some false)else(Fx.seq (Fx.loop (fun(c1,c2)=>Sh.bL x0 c1 c2) (0,(-1))) fun _=>Sh.dF x0))
def Sh.cS(x0:dw):Option Bool :=
 (Fx.seq ((Sh.bJ x0.at_ 0 4095).bind fun c1=>(bif (!c1)then(some (inl true))else((Sh.bJ x0.next 0 4095).bind fun c2=>(bif (!c2)then(some (inl true))else(some (inl (decide (1<(x0.a7.length:Int))))))))) fun c0=>Sh.dE x0 c0)
def Sh.pA(c0:Int)(c1:Bool):Option ((Int⊕(Unit⊕(Int⊕(Bool⊕(Bool⊕(Bool⊕(Bool⊕Bool)))))))) :=
 (bif c1 then(some (inr (inr (inl c0))))else(some (inl (IntKind.i64.wrap (c0+1)))))
def Sh.hQ(x0:br)(c0:Int):Option ((Int⊕(Unit⊕(Int⊕(Bool⊕(Bool⊕(Bool⊕(Bool⊕Bool)))))))) :=
 (bif (decide (c0<(x0.ah.length:Int)))then((Fx.get x0.ah c0).bind fun c2=>(Fx.seq (some (inl (decide (65535<(c2.length:Int))))) fun c1=>Sh.pA c0 c1))else(some (inr (inl ()))))
def Sh.vC:Option ((Int⊕(Bool⊕(Bool⊕(Bool⊕(Bool⊕Bool)))))) :=
 (some (inl (-1)))
def Sh.oZ(c0:Int):Option ((Bool⊕(Bool⊕(Bool⊕(Bool⊕Bool))))) :=
 (some (inl (decide (0≤c0))))
def Sh.oY(c0:Bool):Option ((Bool⊕(Bool⊕(Bool⊕Bool)))) :=
 (some (inl (!c0)))
def Sh.hN(x0:br)(c0:Bool):Option ((Bool⊕(Bool⊕(Bool⊕Bool)))) :=
 (bif (!c0)then(bif (decide ((x0.ah.length:Int)≤8))then(Fx.seq (Fx.seq (Fx.seq (Fx.loop (fun c3=>Sh.hQ x0 c3) 0) fun _=>Sh.vC) fun c2=>Sh.oZ c2) fun c1=>Sh.oY c1)else(some (inl false)))else(some (inl false)))
def Sh.hP(c0:Bool):Option ((Bool⊕(Bool⊕Bool))) :=
 (some (inl c0))
def Sh.hM(c0:Bool):Option ((Bool⊕Bool)) :=
 (some (inl c0))
def Sh.hO(c0:Bool):Option Bool :=
 (some c0)
def Sh.iD(x0:br):Option Bool :=
 (Fx.seq ((Sh.bJ x0.at_ 0 4095).bind fun c4=>(bif c4 then((Sh.bJ x0.steps 0 4294967296).bind fun c5=>(bif c5 then(Fx.seq (Fx.seq (Fx.seq (some (inl (decide (65535<(x0.cq.length:Int))))) fun c2=>Sh.hN x0 c2) fun c1=>Sh.hP c1) fun c0=>Sh.hM c0)else(some (inl false))))else(some (inl false)))) fun c3=>Sh.hO c3)
def Sh.mE(x0:br)(x1:br)(c0:Int):Option ((Int⊕(Unit⊕Bool))) :=
 (bif (decide (c0<(x0.ah.length:Int)))then((Fx.get x0.ah c0).bind fun c1=>((Fx.get x1.ah c0).bind fun c2=>(bif (!decide ((c1.length:Int)=(c2.length:Int)))then(some (inr (inr false)))else(some (inl (IntKind.i64.wrap (c0+1)))))))else(some (inr (inl ()))))
def Sh.mF(x0:br)(c1:List Int)(c0:Int):Option ((Int⊕(Unit⊕(Bool⊕(Bool⊕Bool))))) :=
 (bif (decide (c0<(x0.a7.length:Int)))then((Fx.get x0.a7 c0).bind fun c2=>((Fx.get c1 c0).bind fun c3=>(bif (!decide (c2=c3))then(some (inr (inr (inl false))))else(some (inl (IntKind.i64.wrap (c0+1)))))))else(some (inr (inl ()))))
def Sh.aBv:Option ((Bool⊕(Bool⊕Bool))) :=
 (some (inl true))
def Sh.aBt(c0:Bool):Option ((Bool⊕Bool)) :=
 (some (inl c0))
def Sh.D9(c0:Bool):Option Bool :=
 (some c0)
def Sh.vQ(x0:br)(x1:br):Option Bool :=
 (Fx.seq ((Sh.bJ (IntKind.i64.wrap ((x1.a7.length:Int)-(x0.a7.length:Int))) 0 1).bind fun c4=>(bif c4 then((Fx.ny x1.a7 0 (x0.a7.length:Int)).bind fun c0=>(Fx.seq (bif (!decide ((x0.a7.length:Int)=(c0.length:Int)))then(some (inl false))else(Fx.seq (Fx.loop (fun c3=>Sh.mF x0 c0 c3) 0) fun _=>Sh.aBv)) fun c2=>Sh.aBt c2))else(some (inl false)))) fun c1=>Sh.D9 c1)
def Sh.vP(x0:br)(x1:br)(c0:Bool):Option Bool :=
 (bif c0 then(some false)else(Fx.seq (Fx.loop (fun c1=>Sh.mE x0 x1 c1) 0) fun _=>Sh.vQ x0 x1))
def Sh.wI(x0:br)(x1:br):Option Bool :=
 (Fx.seq (bif x0.done then(some (inl true))else(bif (!decide (x1.steps=(IntKind.i64.wrap (x0.steps+1))))then(some (inl true))else(bif (!decide ((x0.cq.length:Int)=(x1.cq.length:Int)))then(some (inl true))else(some (inl (!decide ((x0.ah.length:Int)=(x1.ah.length:Int)))))))) fun c0=>Sh.vP x0 x1 c0)
def Sh.aFf(c0:Int)(c1:Bool):Option ((Int⊕(Unit⊕(Int⊕(Bool⊕Bool))))) :=
 (bif c1 then(some (inr (inr (inl c0))))else(some (inl (IntKind.i64.wrap (c0+1)))))
def Sh.aIz(x0:dw)(x2:Int)(c0:Int):Option ((Int⊕(Unit⊕(Int⊕(Bool⊕Bool))))) :=
 (bif (decide (c0<(x0.a8.length:Int)))then((Fx.get x0.a8 c0).bind fun c2=>(Fx.seq (some (inl (decide (c2.reg=x2)))) fun c1=>Sh.aFf c0 c1))else(some (inr (inl ()))))
def Sh.FV:Option ((Int⊕(Bool⊕Bool))) :=
 (some (inl (-1)))
def Sh.G9(c0:Int):Option ((Bool⊕Bool)) :=
 (some (inl (decide (0≤c0))))
def Sh.aFd(c0:Bool):Option Bool :=
 (some c0)
def Sh.G3(c0:Int)(c1:Bool):Option ((Int⊕(Unit⊕(Int⊕(Bool⊕Bool))))) :=
 (bif c1 then(some (inr (inr (inl c0))))else(some (inl (IntKind.i64.wrap (c0+1)))))
def Sh.J6(x0:dw)(x2:Int)(c0:Int):Option ((Int⊕(Unit⊕(Int⊕(Bool⊕Bool))))) :=
 (bif (decide (c0<(x0.slots.length:Int)))then((Fx.get x0.slots c0).bind fun c2=>(Fx.seq (some (inl (decide (c2.slot=x2)))) fun c1=>Sh.G3 c0 c1))else(some (inr (inl ()))))
def Sh.FW:Option ((Int⊕(Bool⊕Bool))) :=
 (some (inl (-1)))
def Sh.aFh(c0:Int):Option ((Bool⊕Bool)) :=
 (some (inl (decide (0≤c0))))
def Sh.FU(c0:Bool):Option Bool :=
 (some c0)
def Sh.aDn(c0:Bool):Option ((Bool⊕(Int⊕(Unit⊕(Int⊕(Bool⊕Bool)))))) :=
 (some (inl c0))
def Sh.Cd(c0:Int)(c1:Bool):Option ((Int⊕(Unit⊕(Int⊕(Bool⊕Bool))))) :=
 (bif c1 then(some (inr (inr (inl c0))))else(some (inl (IntKind.i64.wrap (c0+1)))))
def Sh.aH0(x0:dw)(x2:Int)(x3:Int)(c1:Int):Option ((Int⊕(Unit⊕(Int⊕(Bool⊕Bool))))) :=
 (bif (decide (c1<(x0.dy.length:Int)))then((Fx.get x0.dy c1).bind fun c0=>(Fx.seq (Fx.seq (bif (decide (c0.table=x3))then(bif (decide (c0.from_≤x2))then(bif (decide (0≤(IntKind.i64.wrap (x2-c0.from_))))then(some (inl (decide ((IntKind.i64.wrap (x2-c0.from_))<(if(c0.old.length:Int)<(c0.new.length:Int)then(c0.new.length:Int)else(c0.old.length:Int))))))else(some (inl false)))else(some (inl false)))else(some (inl false))) fun c3=>Sh.aDn c3) fun c2=>Sh.Cd c1 c2))else(some (inr (inl ()))))
def Sh.aDm:Option ((Int⊕(Bool⊕Bool))) :=
 (some (inl (-1)))
def Sh.aDk(c0:Int):Option ((Bool⊕Bool)) :=
 (some (inl (decide (0≤c0))))
def Sh.G4(c0:Bool):Option Bool :=
 (some c0)
def Sh.aGf(x0:dw)(x1:Int)(x2:Int)(x3:Int):Option Bool :=
 (bif (decide (x1=0))then(Fx.seq (Fx.seq (Fx.seq (Fx.loop (fun c4=>Sh.aIz x0 x2 c4) 0) fun _=>Sh.FV) fun c3=>Sh.G9 c3) fun c2=>Sh.aFd c2)else(bif (decide (x1=1))then(Fx.seq (Fx.seq (Fx.seq (Fx.loop (fun c7=>Sh.J6 x0 x2 c7) 0) fun _=>Sh.FW) fun c6=>Sh.aFh c6) fun c5=>Sh.FU c5)else(bif (decide (x1=2))then(Fx.seq (Fx.seq (Fx.seq (Fx.loop (fun c1=>Sh.aH0 x0 x2 x3 c1) 0) fun _=>Sh.aDm) fun c0=>Sh.aDk c0) fun c8=>Sh.G4 c8)else(bif (decide (x1=3))then(some (decide (x0.at_=x2)))else(bif (decide (x1=4))then(some (decide (0<(x0.a7.length:Int))))else(some false))))))
def Sh.sE(x0:br)(x1:Int):Option ((List UInt8×Bool)) :=
 (bif (decide (x1<0))then(some (x0.cq,true))else(bif (decide (x1<(x0.ah.length:Int)))then((Fx.get x0.ah x1).bind fun ZI=>(some (ZI,true)))else(some ([],false))))
def Sh.uI(x0:br)(x1:dw)(c0:Int):Option ((Int⊕(Unit⊕Bool))) :=
 (bif (decide (c0<(x1.a8.length:Int)))then((Fx.get x1.a8 c0).bind fun c1=>((Fx.get x0.a8.l c1.reg).bind fun c2=>(bif (!(decide (c2=c1.old)))then(some (inr (inr false)))else(some (inl (IntKind.i64.wrap (c0+1)))))))else(some (inr (inl ()))))
def Sh.uJ(x0:br)(x1:dw)(c0:Int):Option ((Int⊕(Unit⊕Bool))) :=
 (bif (decide (c0<(x1.slots.length:Int)))then((Fx.get x1.slots c0).bind fun c1=>((Fx.get x0.bh.l c1.slot).bind fun c2=>(bif (!(decide (c2=c1.old)))then(some (inr (inr false)))else(some (inl (IntKind.i64.wrap (c0+1)))))))else(some (inr (inl ()))))
def Sh.zF(c0:Bool):Option ((Bool⊕(Int⊕(Unit⊕Bool)))) :=
 (some (inl (!c0)))
def Sh.uH(c0:Int)(c1:Bool):Option ((Int⊕(Unit⊕Bool))) :=
 (bif c1 then(some (inr (inr false)))else(some (inl (IntKind.i64.wrap (c0+1)))))
def Sh.uK(x0:br)(x1:dw)(c1:Int):Option ((Int⊕(Unit⊕Bool))) :=
 (bif (decide (c1<(x1.dy.length:Int)))then((Fx.get x1.dy c1).bind fun c0=>((Sh.sE x0 c0.table).bind fun c2=>(Fx.seq (bif (!c2.2)then(some (inl true))else(bif (decide ((c2.1.length:Int)<(IntKind.i64.wrap (c0.from_+(c0.old.length:Int)))))then(some (inl true))else((Fx.ny c2.1 c0.from_ (IntKind.i64.wrap (c0.from_+(c0.old.length:Int)))).bind fun c5=>(Fx.seq (some (inl (decide (c5=c0.old)))) fun c4=>Sh.zF c4)))) fun c3=>Sh.uH c1 c3)))else(some (inr (inl ()))))
def Sh.zI(x0:br)(x1:dw):Option Bool :=
 (some (decide (x0.at_=x1.at_)))
def Sh.zH(x0:br)(x1:dw):Option Bool :=
 (Fx.seq (Fx.loop (fun c0=>Sh.uK x0 x1 c0) 0) fun _=>Sh.zI x0 x1)
def Sh.zG(x0:br)(x1:dw):Option Bool :=
 (Fx.seq (Fx.loop (fun c0=>Sh.uJ x0 x1 c0) 0) fun _=>Sh.zH x0 x1)
def Sh.xI(x0:br)(x1:dw):Option Bool :=
 (Fx.seq (Fx.loop (fun c0=>Sh.uI x0 x1 c0) 0) fun _=>Sh.zG x0 x1)
end Go.Proofs
end
noncomputable section
namespace Go.Proofs
open Go Go.Fw Go.Fx
set_option maxRecDepth 10000
def Sh.aM(x0:gY)(x1:Int)(x2:Int):Option gY :=
 (bif (decide (x0.e=0))then(some (gY.mk x0.b x0.at_ x1 x2))else(some x0))
def Sh.dS(x0:gY)(c0:Bool):Option ((gY⊕(Int×gY))) :=
 (bif c0 then((Sh.aM x0 (x0.b.length:Int) 236).bind fun c1=>(some (inl c1)))else(some (inl x0)))
def Sh.fC(c1:gY)(c2:Int)(c0:Int):Option (((Int×Int)⊕(Int⊕(Int×gY)))) :=
 (bif (decide (0≤c0))then((Fx.get c1.b (IntKind.i64.wrap (c1.at_+c0))).bind fun c3=>(some (inl ((IntKind.u64.wrap ((IntKind.u64.wrap (c2*256))+(c3.toNat:Int))),(IntKind.i64.wrap (c0-1))))))else(some (inr (inl c2))))
def Sh.lA(x1:Int)(c0:gY)(c1:Int):Option ((Int×gY)) :=
 (some ((IntKind.i64.wrap c1),(gY.mk c0.b (IntKind.i64.wrap (c0.at_+x1)) c0.place c0.e)))
def Sh.dR(x1:Int)(c0:gY):Option ((Int×gY)) :=
 (bif (!decide (c0.e=0))then(some (0,c0))else(Fx.seq (Fx.loop (fun(c2,c3)=>Sh.fC c0 c2 c3) (0,(IntKind.i64.wrap (x1-1)))) fun c1=>Sh.lA x1 c0 c1))
def Sh.aC(x0:gY)(x1:Int):Option ((Int×gY)) :=
 (Fx.seq (Fx.seq (bif (decide (x0.e=0))then(some (inl (decide ((x0.b.length:Int)<(IntKind.i64.wrap (x0.at_+x1))))))else(some (inl false))) fun c1=>Sh.dS x0 c1) fun c0=>Sh.dR x1 c0)
end Go.Proofs
end
section
namespace Go.Fx
open Go Go.Fw
theorem Ua(n:Nat):encs (List.replicate n (0:Int))=List.replicate n (.int .i64 0):=by
 induction n with
 | zero=>rfl
 | succ n ih=>rw[acA,kE,ih];rfl
theorem Uj(n:Nat):(madeCells #[.int .i64 0] n).toList=List.replicate n (.int .i64 0):=by
 apply aa6
 intro i
 simp only[madeCells,acB,acC,abE,acD,acE]
 by_cases h:i<n
 ·simp[h,Nat.mod_one]
 ·simp[h]
section
variable {P:Program}{n:Nat}{F:List (Nat×Value)}{a:Act}{dd:List Deferred}{w:World}{o:Oper}{J:Value→World→Prop}
theorem oN{x y:Operand}{t e bytes:Nat}{c:Int}{k k':IntKind}{l:List Int}{i:TypeInfo}(hr:Fx.mk bytes (0:Int) c=some l)(ht:P.underlying t=some (.slice e))(hi:P.info? e=some i)(hz:i.zero=some (.int .i64 0))
  (hsize:i.size=1) (yk:i.bytes=bytes) (hF:Fr n F a dd) (ho:o.op = .makeSlice t x y) (hx:ev F x=some (.int k c)) (hy:ev F y=some (.int k' c))
  (next:∀ (s:SV) w',iz (ak 0 s e l) w w' → J s.v w'):Yd P o a.eval w J:=by
 subst yk
 obtain⟨hb,rfl⟩:=PV hr
 have hrun:=run_make (P:=P) w t e i (.int .i64 0) ht hi hz k k' c c hb.1 (abO _) hb.2.1 ac_
 have hA:iz (ak 0 ⟨some ⟨w.heap.size,0,none⟩,c.toNat,c.toNat⟩ e (List.replicate c.toNat (0:Int))) w (w.alloc (.cells (madeCells (Value.int .i64 0).cells (c.toNat*i.size)) e)):=by
  have hm:(madeCells (Value.int .i64 0).cells (c.toNat*i.size)).toList=List.replicate c.toNat (.int .i64 0):=by rw[hsize,acF];exact Uj _
  refine⟨gw.alloc w _,⟨by rw[dN],.inr ⟨w.heap.size,c.toNat,_,by simp[SV.v],aau _,heap_alloc_new w _,by simp,by simp only[maxLen];omega,?_,?_⟩⟩,fun k hk=>by simp[di.fp,SV.v,Value.ownBlock]at hk;omega⟩
  ·rw[size_madeCells,hsize];rfl
  ·rw[hm,Ua,abu]
   exact abW (by rw[abu];exact acG (acF _).symm)
 have h:=next _ _ hA
 unfold Yd
 simp only[execOp,ho,hF.eval hx,hF.eval hy,Sem.run_bind,hrun,Result.andThen_ok,Sem.run_pure]
 exact h
end
end Go.Fx
end
noncomputable section
namespace Go.Proofs
open Go Go.Fw Go.Fx
set_option maxRecDepth 10000
def Sh.eZ(x0:Int):Option Int :=
 (some (iP .u64 x0 4294967295))
def Sh.F3(x0:Int)(x1:Int):Option Int :=
 (some (IntKind.u64.wrap (x0+x1)))
def Sh.aF4(x0:Int)(x1:Int):Option Int :=
 (some (IntKind.u64.wrap (x0-x1)))
def Sh.aF1(x0:Int)(x1:Int):Option Int :=
 (some (IntKind.u64.wrap (x0*x1)))
def Sh.aFx(x0:Int)(x1:Int):Option Int :=
 (Fx.must (decide (x1≠0)) (some (IntKind.u64.wrap (Int.tdiv x0 x1))))
def Sh.aFz(x0:Int)(x1:Int):Option Int :=
 (Fx.must (decide (x1≠0)) (some (Int.tmod x0 x1)))
def Sh.aDs(x0:Int)(x1:Int):Option Int :=
 (Fx.must (decide ((IntKind.i64.wrap x1)≠0)) (some (IntKind.u64.wrap (IntKind.i64.wrap (Int.tdiv (IntKind.i64.wrap x0) (IntKind.i64.wrap x1))))))
def Sh.aDt(x0:Int)(x1:Int):Option Int :=
 (Fx.must (decide ((IntKind.i64.wrap x1)≠0)) (some (IntKind.u64.wrap (Int.tmod (IntKind.i64.wrap x0) (IntKind.i64.wrap x1)))))
def Sh.He(x0:Int)(x1:Int):Option Int :=
 (some (uu .u64 x0 x1))
def Sh.aFw(x0:Int)(x1:Int):Option Int :=
 (some (iP .u64 x0 x1))
def Sh.FT(x0:Int)(x1:Int):Option Int :=
 (some (rm .u64 x0 x1))
def Sh.F4(x0:Int)(x1:Int):Option Int :=
 (Fx.must (decide (0≤(iP .u64 x1 63))) (some (shl .u64 x0 ((iP .u64 x1 63)).toNat)))
def Sh.aF3(x0:Int)(x1:Int):Option Int :=
 (Fx.must (decide (0≤(iP .u64 x1 63))) (some (shr .u64 x0 ((iP .u64 x1 63)).toNat)))
def Sh.aDr(x0:Int)(x1:Int):Option Int :=
 (Fx.must (decide (0≤(iP .u64 x1 63))) (some (IntKind.u64.wrap (shr .i64 (IntKind.i64.wrap x0) ((iP .u64 x1 63)).toNat))))
def Sh.aF2(x0:Int)(x1:Int):Option Int :=
 (some (IntKind.u64.wrap (0-x0)))
def Sh.G7(x0:Int)(x1:Int):Option Int :=
 (some x1)
def Sh.GY(x0:Int)(x1:Int):Option Int :=
 ((Sh.eZ x0).bind fun y7=>((Sh.eZ x1).bind fun y9=>(Fx.must (decide (y9≠0)) (some (IntKind.u64.wrap (Int.tdiv y7 y9))))))
def Sh.aB3(x0:Int)(x1:Int):Option Int :=
 ((Sh.eZ x0).bind fun y7=>((Sh.eZ x1).bind fun y9=>(Fx.must (decide (y9≠0)) (some (Int.tmod y7 y9)))))
def Sh.zV(x0:Int)(x1:Int):Option Int :=
 (Fx.must (decide ((IntKind.i32.wrap x1)≠0)) (some (IntKind.u64.wrap (IntKind.u32.wrap (IntKind.i32.wrap (Int.tdiv (IntKind.i32.wrap x0) (IntKind.i32.wrap x1)))))))
def Sh.zW(x0:Int)(x1:Int):Option Int :=
 (Fx.must (decide ((IntKind.i32.wrap x1)≠0)) (some (IntKind.u64.wrap (IntKind.u32.wrap (Int.tmod (IntKind.i32.wrap x0) (IntKind.i32.wrap x1))))))
def Sh.aB2(x0:Int)(x1:Int):Option Int :=
 (Fx.must (decide (0≤(iP .u64 x1 31))) (some (shl .u64 x0 ((iP .u64 x1 31)).toNat)))
def Sh.aB4(x0:Int)(x1:Int):Option Int :=
 ((Sh.eZ x0).bind fun y5=>(Fx.must (decide (0≤(iP .u64 x1 31))) (some (shr .u64 y5 ((iP .u64 x1 31)).toNat))))
def Sh.zU(x0:Int)(x1:Int):Option Int :=
 (Fx.must (decide (0≤(iP .u64 x1 31))) (some (IntKind.u64.wrap (IntKind.u32.wrap (shr .i32 (IntKind.i32.wrap x0) ((iP .u64 x1 31)).toNat)))))
def Sh.oD(x0:Int):Option Int :=
 (some (uu .u16 (shr .u16 x0 (8:Int).toNat) (shl .u16 x0 (8:Int).toNat)))
def Sh.oE(x0:Int):Option Int :=
 (some (uu .u32 (shr .u32 (uu .u32 (iP .u32 (shr .u32 x0 (8:Int).toNat) 16711935) (shl .u32 (iP .u32 x0 16711935) (8:Int).toNat)) (16:Int).toNat) (shl .u32 (uu .u32 (iP .u32 (shr .u32 x0 (8:Int).toNat) 16711935) (shl .u32 (iP .u32 x0 16711935) (8:Int).toNat)) (16:Int).toNat)))
def Sh.oF(x0:Int):Option Int :=
 (some (uu .u64 (shr .u64 (uu .u64 (iP .u64 (shr .u64 (uu .u64 (iP .u64 (shr .u64 x0 (8:Int).toNat) 71777214294589695) (shl .u64 (iP .u64 x0 71777214294589695) (8:Int).toNat)) (16:Int).toNat) 281470681808895) (shl .u64 (iP .u64 (uu .u64 (iP .u64 (shr .u64 x0 (8:Int).toNat) 71777214294589695) (shl .u64 (iP .u64 x0 71777214294589695) (8:Int).toNat)) 281470681808895) (16:Int).toNat)) (32:Int).toNat) (shl .u64 (uu .u64 (iP .u64 (shr .u64 (uu .u64 (iP .u64 (shr .u64 x0 (8:Int).toNat) 71777214294589695) (shl .u64 (iP .u64 x0 71777214294589695) (8:Int).toNat)) (16:Int).toNat) 281470681808895) (shl .u64 (iP .u64 (uu .u64 (iP .u64 (shr .u64 x0 (8:Int).toNat) 71777214294589695) (shl .u64 (iP .u64 x0 71777214294589695) (8:Int).toNat)) 281470681808895) (16:Int).toNat)) (32:Int).toNat)))
def Sh.vZ(v7:Bool):Option Bool :=
 (some v7)
def Sh.wK(x0:Int):Option Bool :=
 (Fx.seq (bif (decide (4≤x0))then(some (inl (decide (x0≤7))))else(some (inl false))) fun v7=>Sh.vZ v7)
def Sh.aDp(x2:Int)(v44:Bool):Option ((Int⊕Int)) :=
 (bif v44 then(some (inl (IntKind.i64.wrap (IntKind.i32.wrap x2))))else(some (inl 0)))
def Sh.FQ(x1:Bool)(v39:Int):Option Int :=
 (bif x1 then(some (IntKind.i64.wrap (IntKind.u32.wrap v39)))else(some v39))
def Sh.aD1(x0:Int)(x1:Bool)(x2:Int):Option Int :=
 (Fx.seq (bif (decide (x0=8))then(some (inl (IntKind.i64.wrap (IntKind.i8.wrap x2))))else(bif (decide (x0=16))then(some (inl (IntKind.i64.wrap (IntKind.i16.wrap x2))))else(Fx.seq (bif (decide (x0=32))then(some (inl (!x1)))else(some (inl false))) fun v44=>Sh.aDp x2 v44))) fun v39=>Sh.FQ x1 v39)
def Sh.aHd(x0:Int)(x2:Int)(v91:Bool):Option Int :=
 (bif v91 then((Sh.oF (IntKind.u64.wrap x2)).bind fun Sr=>(some (IntKind.i64.wrap Sr)))else(bif (decide (x0=64))then(some x2)else(some 0)))
def Sh.aHc(x0:Int)(x1:Bool)(x2:Int)(v83:Bool):Option Int :=
 (bif v83 then((Sh.oE (IntKind.u32.wrap (IntKind.u64.wrap x2))).bind fun JR=>(some (IntKind.i64.wrap JR)))else(bif (decide (x0=32))then(some (IntKind.i64.wrap (IntKind.u32.wrap (IntKind.u64.wrap x2))))else(Fx.seq (bif (decide (x0=64))then(some (inl x1))else(some (inl false))) fun v91=>Sh.aHd x0 x2 v91)))
def Sh.F7(x0:Int)(x1:Bool)(x2:Int)(v75:Bool):Option Int :=
 (bif v75 then((Sh.oD (IntKind.u16.wrap (IntKind.u64.wrap x2))).bind fun Si=>(some (IntKind.i64.wrap Si)))else(bif (decide (x0=16))then(some (IntKind.i64.wrap (IntKind.u16.wrap (IntKind.u64.wrap x2))))else(Fx.seq (bif (decide (x0=32))then(some (inl x1))else(some (inl false))) fun v83=>Sh.aHc x0 x1 x2 v83)))
def Sh.Eo(x0:Int)(x1:Bool)(x2:Int):Option Int :=
 (Fx.seq (bif (decide (x0=16))then(some (inl x1))else(some (inl false))) fun v75=>Sh.F7 x0 x1 x2 v75)
def Sh.nB(x0:f_)(x1:Bool)(v21:Bool):Option Bool :=
 (bif v21 then(some true)else(bif x1 then(some (decide (x0.a<x0.b)))else(some (decide (x0.b<x0.a)))))
def Sh.kN(x0:f_)(x1:Bool)(x2:Bool):Option Bool :=
 (Fx.seq (bif x2 then(some (inl (decide (x0.a=x0.b))))else(some (inl false))) fun v21=>Sh.nB x0 x1 v21)
def Sh.nO(x0:fR)(x1:Bool)(v21:Bool):Option Bool :=
 (bif v21 then(some true)else(bif x1 then(some (decide (x0.a<x0.b)))else(some (decide (x0.b<x0.a)))))
def Sh.lC(x0:fR)(x1:Bool)(x2:Bool):Option Bool :=
 (Fx.seq (bif x2 then(some (inl (decide (x0.a=x0.b))))else(some (inl false))) fun v21=>Sh.nO x0 x1 v21)
def Sh.yE(x0:List UInt8)(c0:Int)(c1:Int):Option (((Int×Int)⊕(Int⊕Int))) :=
 (bif (decide (c0<(x0.length:Int)))then((Fx.get x0 c0).bind fun c2=>(Fx.must (decide (0≤(IntKind.i64.wrap (8*c0)))) (some (inl ((IntKind.i64.wrap (c0+1)),(uu .u64 c1 (shl .u64 (c2.toNat:Int) ((IntKind.i64.wrap (8*c0))).toNat)))))))else(some (inr (inl c1))))
def Sh.D_(x0:List UInt8)(x1:Bool)(c0:Int):Option Int :=
 (bif x1 then(Fx.must (decide (0≤(IntKind.i64.wrap (64-(IntKind.i64.wrap (8*(x0.length:Int))))))) (Fx.must (decide (0≤(IntKind.i64.wrap (64-(IntKind.i64.wrap (8*(x0.length:Int))))))) (some (shr .i64 (IntKind.i64.wrap (shl .u64 c0 ((IntKind.i64.wrap (64-(IntKind.i64.wrap (8*(x0.length:Int)))))).toNat)) ((IntKind.i64.wrap (64-(IntKind.i64.wrap (8*(x0.length:Int)))))).toNat))))else(some (IntKind.i64.wrap c0)))
def Sh.FP(x0:List UInt8)(x1:Bool)(v93:Bool):Option Int :=
 (bif v93 then(some 0)else(Fx.seq (Fx.loop (fun(c1,c2)=>Sh.yE x0 c1 c2) (0,0)) fun c0=>Sh.D_ x0 x1 c0))
def Sh.Dl(x0:List UInt8)(x1:Bool):Option Int :=
 (Fx.seq (bif (decide ((x0.length:Int)<1))then(some (inl true))else(some (inl (decide (8<(x0.length:Int)))))) fun v93=>Sh.FP x0 x1 v93)
def Sh.yG(x1:Int)(c2:List UInt8)(c0:Int)(c1:List UInt8):Option (((Int×List UInt8)⊕(List UInt8⊕List UInt8))) :=
 (bif (decide (c0<(c2.length:Int)))then(Fx.must (decide (0≤(IntKind.i64.wrap (8*c0)))) ((Fx.get c1 c0).bind fun c3=>(some (inl ((IntKind.i64.wrap (c0+1)),(c1.set (c0:Int).toNat (Fw.byteOf (shr .i64 x1 ((IntKind.i64.wrap (8*c0))).toNat))))))))else(some (inr (inl c1))))
def Sh.aJu(c0:List UInt8):Option (List UInt8) :=
 (some c0)
def Sh.yF(x0:Int)(x1:Int)(c1:Bool):Option (List UInt8) :=
 (bif c1 then(some [])else((Fx.mk 1 (0:UInt8) x0).bind fun c0=>(Fx.seq (Fx.loop (fun(c3,c4)=>Sh.yG x1 c0 c3 c4) (0,c0)) fun c2=>Sh.aJu c2)))
def Sh.Di(x0:Int)(x1:Int):Option (List UInt8) :=
 (Fx.seq (bif (decide (x0<1))then(some (inl true))else(some (inl (decide (8<x0))))) fun c0=>Sh.yF x0 x1 c0)
end Go.Proofs
end
noncomputable section
namespace Go.Proofs
open Go Go.Fw Go.Fx
set_option maxRecDepth 10000
def Sh.cZ(x0:Int):Option aj :=
 (some (aj.mk 1 0 0 x0))
def Sh.cI(x0:aj):Option Bool :=
 (some (decide (x0.kind=1)))
def Sh.hS(x0:aj):Option Bool :=
 (some (decide (2≤x0.kind)))
def Sh.G5(v12:Bool):Option Bool :=
 (some v12)
def Sh.wS(x0:aj)(x1:aj):Option Bool :=
 (Fx.seq (bif (decide (x0.kind=x1.kind))then(bif (decide (2≤x0.kind))then(some (inl (decide (x0.kind≤4))))else(some (inl false)))else(some (inl false))) fun v12=>Sh.G5 v12)
def Sh.yJ(x0:aj)(x1:Int)(v45:Bool):Option ((aj×Int)) :=
 (bif v45 then(some (x0,85))else(some ((aj.mk x0.kind x0.table x0.row (IntKind.i64.wrap (x0.x+x1))),0)))
def Sh.tI(x0:aj)(x1:Int):Option ((aj×Int)) :=
 (Fx.seq (bif (decide (x1<(-2097152)))then(some (inl true))else(bif (decide (2097152<x1))then(some (inl true))else(bif (decide ((IntKind.i64.wrap (x0.x+x1))<(-1048576)))then(some (inl true))else(some (inl (decide (1048576<(IntKind.i64.wrap (x0.x+x1))))))))) fun v45=>Sh.yJ x0 x1 v45)
def Sh.aHr(x1:aj)(x2:aj)(c0:Bool):Option ((aj×Int)) :=
 (bif c0 then((Sh.cZ (IntKind.i64.wrap (x1.x-x2.x))).bind fun c1=>(some (c1,0)))else(some (x1,80)))
def Sh.aHq(x0:Int)(x1:aj)(x2:aj)(c1:Bool):Option ((aj×Int)) :=
 (bif c1 then(bif (decide (x2.x<(-2097152)))then(some (x1,85))else((Sh.tI x1 (IntKind.i64.wrap (0-x2.x))).bind fun c0=>(some (c0.1,c0.2))))else(Fx.seq (bif (decide (x0=2))then((Sh.wS x1 x2).bind fun c3=>(some (inl c3)))else(some (inl false))) fun c2=>Sh.aHr x1 x2 c2))
def Sh.Es(x0:Int)(x1:aj)(x2:aj)(c1:Bool):Option ((aj×Int)) :=
 (bif c1 then((Sh.tI x2 x1.x).bind fun c0=>(some (c0.1,c0.2)))else(Fx.seq (bif (decide (x0=2))then((Sh.hS x1).bind fun c3=>(bif c3 then((Sh.cI x2).bind fun c4=>(some (inl c4)))else(some (inl false))))else(some (inl false))) fun c2=>Sh.aHq x0 x1 x2 c2))
def Sh.Ep(x0:Int)(x1:aj)(x2:aj)(c1:Bool):Option ((aj×Int)) :=
 (bif c1 then((Sh.tI x1 x2.x).bind fun c0=>(some (c0.1,c0.2)))else(Fx.seq (bif (decide (x0=1))then((Sh.cI x1).bind fun c3=>(bif c3 then((Sh.hS x2).bind fun c4=>(some (inl c4)))else(some (inl false))))else(some (inl false))) fun c2=>Sh.Es x0 x1 x2 c2))
def Sh.Ek(x0:Int)(x1:aj)(x2:aj):Option ((aj×Int)) :=
 (Fx.seq (bif (decide (x0=1))then((Sh.hS x1).bind fun c1=>(bif c1 then((Sh.cI x2).bind fun c2=>(some (inl c2)))else(some (inl false))))else(some (inl false))) fun c0=>Sh.Ep x0 x1 x2 c0)
def Sh.fO(x0:ai)(x1:bg):Option aj :=
 (bif x1.reg then((Fx.get x0.a8.l x1.src).bind fun RV=>(some RV))else((Sh.cZ x1.jN).bind fun JQ=>(some JQ)))
def Sh.wD(x0:ai)(v55:Vec aj 11):Option ((Int×Int×ai)) :=
 (some (0,0,(ai.mk x0.ae x0.code x0.dq x0.da v55 x0.a7 x0.at_ x0.steps x0.done)))
def Sh.eJ(x0:ai)(x1:bg):Option ((Int×Int×ai)) :=
 ((Sh.cZ x1.jN).bind fun C_=>((Fx.get x0.a8.l x1.dst).bind fun ZJ=>(Fx.seq (bif (decide (x1.op=21))then((Fx.get (x0.a8.set (x1.dst:Int).toNat C_).l x1.dst).bind fun KN=>(some (inl ((x0.a8.set (x1.dst:Int).toNat C_).set (x1.dst:Int).toNat (aj.mk 4 KN.table KN.row KN.x)))))else(some (inl (x0.a8.set (x1.dst:Int).toNat C_)))) fun v55=>Sh.wD x0 v55)))
def Sh.jU(x0:ai)(x1:bg):Option ((Int×Int)) :=
 (bif x1.narrow then(some (x1.jN,0))else(some (x1.off,0)))
def Sh.eP(x0:ai)(x1:bg):Option ((Int×Int×ai)) :=
 ((Fx.get x0.a8.l 0).bind fun RU=>((Sh.cI RU).bind fun Gx=>(bif (!Gx)then(some (0,86,x0))else(some (0,0,(ai.mk x0.ae x0.code x0.dq x0.da x0.a8 x0.a7 x0.at_ x0.steps true))))))
def Sh.GX(x0:ai)(c0:Vec aj 11):Option ((Int×Int×ai)) :=
 (some (0,0,(ai.mk x0.ae x0.code x0.dq x0.da c0 x0.a7 x0.at_ x0.steps x0.done)))
def Sh.aAr(x0:ai)(x1:bg)(c0:aj):Option ((Int×Int×ai)) :=
 (Fx.seq ((Sh.cI c0).bind fun c2=>(bif (!c2)then(some (inr (0,80,x0)))else(bif (decide (x1.op=16))then((Sh.aD1 x1.size x1.narrow c0.x).bind fun c3=>((Sh.cZ c3).bind fun c4=>((Fx.get x0.a8.l x1.dst).bind fun c7=>(some (inl (x0.a8.set (x1.dst:Int).toNat c4))))))else((Sh.Eo x1.size (!decide (x1.op=17)) c0.x).bind fun c5=>((Sh.cZ c5).bind fun c6=>((Fx.get x0.a8.l x1.dst).bind fun c8=>(some (inl (x0.a8.set (x1.dst:Int).toNat c6))))))))) fun c1=>Sh.GX x0 c1)
def Sh.jW(x0:ai)(x1:bg):Option ((Int×Int×ai)) :=
 ((Fx.get x0.a8.l x1.dst).bind fun R1=>(Fx.seq (bif (decide (x1.op=16))then((Fx.get x0.a8.l x1.src).bind fun c1=>(some (inl c1)))else(some (inl R1))) fun c0=>Sh.aAr x0 x1 c0))
def Sh.pO(x0:ai)(x1:aj):Option Int :=
 (bif (decide (x1.kind=2))then(some 256)else(bif (decide (x1.kind=3))then(some (x0.ae.cq.length:Int))else(bif (decide (x1.kind=4))then(some (x0.ae.data.length:Int))else((Fx.get x0.ae.sizes x1.table).bind fun RS=>(some RS.wide)))))
def Sh.rL(v40:Bool):Option Bool :=
 (some v40)
def Sh.eQ(x0:ai)(x1:aj)(x2:Int)(x3:Int):Option Bool :=
 (Fx.seq (bif (decide (0≤x2))then((Sh.pO x0 x1).bind fun R9=>(some (inl (decide ((IntKind.i64.wrap (x2+x3))≤R9)))))else(some (inl false))) fun v40=>Sh.rL v40)
def Sh.pC(c0:Int)(c1:Int):Option (((Int×Int)⊕(Int⊕Int))) :=
 (some (inl ((IntKind.i64.wrap (c0+1)),c1)))
def Sh.hA(x0:ai)(x2:Int)(x3:Int)(c0:Int)(c1:Int):Option (((Int×Int)⊕(Int⊕Int))) :=
 (bif (decide (c0<(IntKind.i64.wrap (x2+x3))))then(Fx.seq ((Fx.get x0.ae.bh.l (IntKind.i64.wrap (Int.tdiv c0 8))).bind fun c2=>(bif (!decide (c2.ptr.kind=0))then(some (inr (inr (inr 80))))else(Fx.must (decide (0≤(Int.tmod c0 8))) (bif (decide ((iP .i64 (shr .i64 c2.mask ((Int.tmod c0 8)).toNat) 1)=0))then(some (inl 82))else(some (inl c1)))))) fun c3=>Sh.pC c0 c3)else(some (inr (inl c1))))
def Sh.pB(c0:Int):Option Int :=
 (some c0)
def Sh.kM(x0:ai)(x2:Int)(x3:Int)(c0:Bool):Option Int :=
 (bif c0 then(some 0)else(Fx.seq (Fx.loop (fun(c2,c3)=>Sh.hA x0 x2 x3 c2 c3) (x2,0)) fun c1=>Sh.pB c1))
def Sh.eT(x0:ai)(x1:aj)(x2:Int)(x3:Int):Option Int :=
 (Fx.seq (bif (!decide (x1.kind=2))then(some (inl true))else(some (inl (decide (x3=0))))) fun c0=>Sh.kM x0 x2 x3 c0)
def Sh.rG(x2:Int)(Aj:aj)(v66:Bool):Option Int :=
 (bif v66 then(some x2)else(some Aj.x))
def Sh.rF(x1:bg)(x2:Int)(Aj:aj)(v57:Int):Option Int :=
 (Fx.seq (bif (decide (x1.jN=241))then(some (inl (!decide (x2=v57))))else(some (inl false))) fun v66=>Sh.rG x2 Aj v66)
def Sh.lD(x0:ai)(x1:bg)(x2:Int):Option Int :=
 ((Fx.get x0.a8.l x1.src).bind fun Aj=>(bif (decide ((rV .i64 x1.jN 1)=0))then(some (IntKind.i64.wrap (x2+Aj.x)))else(bif (decide ((rV .i64 x1.jN 1)=64))then(some (uu .i64 x2 Aj.x))else(bif (decide ((rV .i64 x1.jN 1)=80))then(some (iP .i64 x2 Aj.x))else(bif (decide ((rV .i64 x1.jN 1)=160))then(some (rm .i64 x2 Aj.x))else((Fx.get x0.a8.l 0).bind fun OA=>(Fx.seq (bif (decide (x1.size=4))then(some (inl (IntKind.i64.wrap (IntKind.u32.wrap OA.x))))else(some (inl OA.x))) fun v57=>Sh.rF x1 x2 Aj v57)))))))
end Go.Proofs
end
noncomputable section
namespace Go.Proofs
open Go Go.Fw Go.Fx
set_option maxRecDepth 10000
def Sh.pP(x0:ai)(x1:aj)(x2:Int)(x3:Int):Option (List UInt8) :=
 ((Fx.ny x0.ae.cq x2 (IntKind.i64.wrap (x2+x3))).bind fun x20=>(some x20))
def Sh.qP(x0:ai)(x1:aj)(x2:Int)(x3:Int):Option (List UInt8) :=
 ((Fx.ny x0.ae.data x2 (IntKind.i64.wrap (x2+x3))).bind fun x20=>(some x20))
def Sh.pQ(x0:ai)(x1:aj)(x2:Int)(x3:Int):Option ((List UInt8×Int×List UInt8)) :=
 ((Fx.get x0.ae.sizes x1.table).bind fun x20=>((Fx.get x0.ae.ah x1.table).bind fun Oz=>((Fx.ny Oz (IntKind.i64.wrap ((IntKind.i64.wrap (x1.row*x20.wide))+x2)) (IntKind.i64.wrap ((IntKind.i64.wrap ((IntKind.i64.wrap (x1.row*x20.wide))+x2))+x3))).bind fun RR=>(some (Oz,(IntKind.i64.wrap ((IntKind.i64.wrap (x1.row*x20.wide))+x2)),RR)))))
def Sh.kR(x0:ai)(x2:Int)(c2:List UInt8)(c0:Int)(c1:List UInt8):Option (((Int×List UInt8)⊕(List UInt8⊕List UInt8))) :=
 (bif (decide (c0<(c2.length:Int)))then((Fx.get x0.ae.bh.l (IntKind.i64.wrap (Int.tdiv (IntKind.i64.wrap (x2+c0)) 8))).bind fun c3=>((Fx.get c3.bytes.l (Int.tmod (IntKind.i64.wrap (x2+c0)) 8)).bind fun c4=>((Fx.get c1 c0).bind fun c5=>(some (inl ((IntKind.i64.wrap (c0+1)),(c1.set (c0:Int).toNat c4)))))))else(some (inr (inl c1))))
def Sh.aB9(c0:List UInt8):Option (List UInt8) :=
 (some c0)
def Sh.kT(x0:ai)(x1:aj)(x2:Int)(x3:Int):Option (List UInt8) :=
 (bif (!decide (x1.kind=2))then(bif (decide (x1.kind=3))then((Sh.pP x0 x1 x2 x3).bind fun c4=>((Sh.aN c4).bind fun c6=>(some c6)))else(bif (decide (x1.kind=4))then((Sh.qP x0 x1 x2 x3).bind fun c5=>((Sh.aN c5).bind fun c7=>(some c7)))else((Sh.pQ x0 x1 x2 x3).bind fun c8=>((Sh.aN c8.2.2).bind fun c9=>(some c9)))))else((Fx.mk 1 (0:UInt8) x3).bind fun c0=>(Fx.seq (Fx.loop (fun(c2,c3)=>Sh.kR x0 x2 c0 c2 c3) (0,c0)) fun c1=>Sh.aB9 c1)))
def Sh.tH(x2:Int)(c0:Int)(c3:UInt8)(c2:Vec bn 32):Option (((Vec bn 32×Int)⊕ai)) :=
 ((Fx.get c2.l (IntKind.i64.wrap (Int.tdiv (IntKind.i64.wrap (x2+c0)) 8))).bind fun c1=>((Fx.get c1.bytes.l (Int.tmod (IntKind.i64.wrap (x2+c0)) 8)).bind fun c6=>((Fx.get (c2.set ((IntKind.i64.wrap (Int.tdiv (IntKind.i64.wrap (x2+c0)) 8)):Int).toNat (bn.mk c1.ptr (c1.bytes.set ((Int.tmod (IntKind.i64.wrap (x2+c0)) 8):Int).toNat c3) c1.mask)).l (IntKind.i64.wrap (Int.tdiv (IntKind.i64.wrap (x2+c0)) 8))).bind fun c5=>(Fx.must (decide (0≤(Int.tmod (IntKind.i64.wrap (x2+c0)) 8))) ((Fx.get (c2.set ((IntKind.i64.wrap (Int.tdiv (IntKind.i64.wrap (x2+c0)) 8)):Int).toNat (bn.mk c1.ptr (c1.bytes.set ((Int.tmod (IntKind.i64.wrap (x2+c0)) 8):Int).toNat c3) c1.mask)).l (IntKind.i64.wrap (Int.tdiv (IntKind.i64.wrap (x2+c0)) 8))).bind fun c4=>(some (inl (((c2.set ((IntKind.i64.wrap (Int.tdiv (IntKind.i64.wrap (x2+c0)) 8)):Int).toNat (bn.mk c1.ptr (c1.bytes.set ((Int.tmod (IntKind.i64.wrap (x2+c0)) 8):Int).toNat c3) c1.mask)).set ((IntKind.i64.wrap (Int.tdiv (IntKind.i64.wrap (x2+c0)) 8)):Int).toNat (bn.mk c4.ptr c4.bytes (uu .i64 c5.mask (shl .i64 1 ((Int.tmod (IntKind.i64.wrap (x2+c0)) 8)).toNat)))),(IntKind.i64.wrap (c0+1))))))))))
def Sh.jD(x0:ai)(x2:Int)(x3:List UInt8)(c1:Vec bn 32)(c0:Int):Option (((Vec bn 32×Int)⊕ai)) :=
 (bif (decide (c0<(x3.length:Int)))then((Fx.get x3 c0).bind fun c3=>((Fx.get c1.l (IntKind.i64.wrap (Int.tdiv (IntKind.i64.wrap (x2+c0)) 8))).bind fun c4=>(Fx.seq (bif (!decide (c4.ptr.kind=0))then(some (inl (c1.set ((IntKind.i64.wrap (Int.tdiv (IntKind.i64.wrap (x2+c0)) 8)):Int).toNat bn.zero)))else(some (inl c1))) fun c2=>Sh.tH x2 c0 c3 c2)))else(some (inr (ai.mk (fq.mk c1 x0.ae.cq x0.ae.ah x0.ae.data x0.ae.sizes) x0.code x0.dq x0.da x0.a8 x0.a7 x0.at_ x0.steps x0.done))))
def Sh.fK(x0:ai)(x1:aj)(x2:Int)(x3:List UInt8):Option ai :=
 (bif (!decide (x1.kind=2))then(bif (decide (x1.kind=3))then((Sh.pP x0 x1 x2 (x3.length:Int)).bind fun c5=>((Fx.BX x0.ae.cq x2 (IntKind.i64.wrap (x2+(x3.length:Int))) x3).bind fun c3=>(some (ai.mk (fq.mk x0.ae.bh c3 x0.ae.ah x0.ae.data x0.ae.sizes) x0.code x0.dq x0.da x0.a8 x0.a7 x0.at_ x0.steps x0.done))))else(bif (decide (x1.kind=4))then((Sh.qP x0 x1 x2 (x3.length:Int)).bind fun c6=>(Fx.must (false) none))else((Sh.pQ x0 x1 x2 (x3.length:Int)).bind fun c0=>((Fx.BX c0.1 c0.2.1 (IntKind.i64.wrap (c0.2.1+(x3.length:Int))) x3).bind fun c4=>(some (ai.mk (fq.mk x0.ae.bh x0.ae.cq (x0.ae.ah.set (x1.table:Int).toNat c4) x0.ae.data x0.ae.sizes) x0.code x0.dq x0.da x0.a8 x0.a7 x0.at_ x0.steps x0.done))))))else(Fx.loop (fun(c1,c2)=>Sh.jD x0 x2 x3 c1 c2) (x0.ae.bh,0)))
def Sh.pN(x0:ai)(x1:aj)(x2:Int)(x3:Int)(x4:Bool):Option Int :=
 ((Sh.kT x0 x1 x2 x3).bind fun R2=>((Sh.Dl R2 x4).bind fun R7=>(some R7)))
def Sh.GV(x0:ai)(c1:Int)(c0:Vec aj 11):Option ((Int×Int×ai)) :=
 (some (0,c1,(ai.mk x0.ae x0.code x0.dq x0.da c0 x0.a7 x0.at_ x0.steps x0.done)))
def Sh.nI(x0:ai)(x1:bg)(c0:aj)(c2:Bool):Option ((Int×Int×ai)) :=
 (bif c2 then((Fx.get x0.ae.bh.l (IntKind.i64.wrap (Int.tdiv (IntKind.i64.wrap (c0.x+x1.off)) 8))).bind fun c4=>((Fx.get x0.a8.l x1.dst).bind fun c7=>(some (0,0,(ai.mk x0.ae x0.code x0.dq x0.da (x0.a8.set (x1.dst:Int).toNat c4.ptr) x0.a7 x0.at_ x0.steps x0.done)))))else((Sh.eT x0 c0 (IntKind.i64.wrap (c0.x+x1.off)) x1.size).bind fun c1=>(Fx.seq (bif (decide (c1=0))then((Sh.pN x0 c0 (IntKind.i64.wrap (c0.x+x1.off)) x1.size (decide (x1.op=23))).bind fun c5=>((Sh.cZ c5).bind fun c6=>((Fx.get x0.a8.l x1.dst).bind fun c8=>(some (inl (x0.a8.set (x1.dst:Int).toNat c6))))))else(some (inl x0.a8))) fun c3=>Sh.GV x0 c1 c3)))
def Sh.jV(x0:ai)(x1:bg):Option ((Int×Int×ai)) :=
 ((Fx.get x0.a8.l x1.src).bind fun c0=>((Sh.hS c0).bind fun c3=>(bif (!c3)then(some (0,80,x0))else((Sh.eQ x0 c0 (IntKind.i64.wrap (c0.x+x1.off)) x1.size).bind fun c4=>(bif (!c4)then(some (0,81,x0))else(Fx.seq (bif (decide (c0.kind=2))then(bif (decide (x1.op=22))then(bif (decide (x1.size=8))then(bif (decide ((Int.tmod (IntKind.i64.wrap (c0.x+x1.off)) 8)=0))then((Fx.get x0.ae.bh.l (IntKind.i64.wrap (Int.tdiv (IntKind.i64.wrap (c0.x+x1.off)) 8))).bind fun c2=>((Sh.hS c2.ptr).bind fun c5=>(some (inl c5))))else(some (inl false)))else(some (inl false)))else(some (inl false)))else(some (inl false))) fun c1=>Sh.nI x0 x1 c0 c1))))))
def Sh.lT(x0:ai)(x1:bg)(c0:aj)(c1:aj)(c2:Bool):Option ((Int×Int×ai)) :=
 (bif c2 then(some (0,86,x0))else((Fx.get x0.ae.bh.l (IntKind.i64.wrap (Int.tdiv (IntKind.i64.wrap (c0.x+x1.off)) 8))).bind fun c3=>(some (0,0,(ai.mk (fq.mk (x0.ae.bh.set ((IntKind.i64.wrap (Int.tdiv (IntKind.i64.wrap (c0.x+x1.off)) 8)):Int).toNat (bn.mk c1 (⟨List.replicate 8 0,rfl⟩ : Vec UInt8 8) 0)) x0.ae.cq x0.ae.ah x0.ae.data x0.ae.sizes) x0.code x0.dq x0.da x0.a8 x0.a7 x0.at_ x0.steps x0.done)))))
def Sh.lS(x0:ai)(x1:bg)(c0:aj)(c1:aj)(c3:Bool):Option ((Int×Int×ai)) :=
 (bif c3 then(some (0,80,x0))else(bif (decide (c0.kind=4))then(some (0,83,x0))else((Sh.eQ x0 c0 (IntKind.i64.wrap (c0.x+x1.off)) x1.size).bind fun c5=>(bif (!c5)then(some (0,81,x0))else((Sh.cI c1).bind fun c6=>(bif c6 then((Sh.Di x1.size c1.x).bind fun c7=>((Sh.fK x0 c0 (IntKind.i64.wrap (c0.x+x1.off)) c7).bind fun c2=>(some (0,0,(ai.mk (fq.mk c2.ae.bh c2.ae.cq c2.ae.ah x0.ae.data x0.ae.sizes) x0.code x0.dq x0.da x0.a8 x0.a7 x0.at_ x0.steps x0.done)))))else(Fx.seq (bif (!decide (c0.kind=2))then(some (inl true))else(bif (!decide (x1.size=8))then(some (inl true))else(some (inl (!decide ((Int.tmod (IntKind.i64.wrap (c0.x+x1.off)) 8)=0)))))) fun c4=>Sh.lT x0 x1 c0 c1 c4)))))))
def Sh.rH(x0:ai)(x1:bg)(c0:aj)(c1:aj):Option ((Int×Int×ai)) :=
 (Fx.seq ((Sh.hS c0).bind fun c3=>(bif (!c3)then(some (inl true))else(some (inl (decide (c1.kind=0)))))) fun c2=>Sh.lS x0 x1 c0 c1 c2)
def Sh.iK(x0:ai)(x1:bg):Option ((Int×Int×ai)) :=
 (Fx.seq ((Fx.get x0.a8.l x1.dst).bind fun c2=>((Sh.fO x0 x1).bind fun c3=>(some (inl (c2,c3))))) fun(c0,c1)=>Sh.rH x0 x1 c0 c1)
def Sh.aAo(x0:ai)(c0:ai)(c1:Vec aj 11):Option ((Int×Int×ai)) :=
 (some (0,0,(ai.mk (fq.mk c0.ae.bh c0.ae.cq c0.ae.ah x0.ae.data x0.ae.sizes) x0.code x0.dq x0.da c1 x0.a7 x0.at_ x0.steps x0.done)))
def Sh.nF(x0:ai)(x1:bg)(c0:aj)(c3:Bool):Option ((Int×Int×ai)) :=
 (bif c3 then(some (0,80,x0))else(bif (decide (c0.kind=4))then(some (0,83,x0))else((Sh.eQ x0 c0 (IntKind.i64.wrap (c0.x+x1.off)) x1.size).bind fun c5=>(bif (!c5)then(some (0,81,x0))else((Sh.eT x0 c0 (IntKind.i64.wrap (c0.x+x1.off)) x1.size).bind fun c2=>(bif (!decide (c2=0))then(some (0,c2,x0))else((Sh.pN x0 c0 (IntKind.i64.wrap (c0.x+x1.off)) x1.size false).bind fun c1=>((Sh.lD x0 x1 c1).bind fun c6=>((Sh.Di x1.size c6).bind fun c7=>((Sh.fK x0 c0 (IntKind.i64.wrap (c0.x+x1.off)) c7).bind fun c8=>(Fx.seq (bif (decide (x1.jN=241))then((Sh.cZ c1).bind fun c9=>((Fx.get x0.a8.l 0).bind fun d1=>(some (inl (x0.a8.set (0:Int).toNat c9)))))else(bif (!decide ((iP .i64 x1.jN 1)=0))then((Sh.cZ c1).bind fun d0=>((Fx.get x0.a8.l x1.src).bind fun d2=>(some (inl (x0.a8.set (x1.src:Int).toNat d0)))))else(some (inl x0.a8)))) fun c4=>Sh.aAo x0 c8 c4)))))))))))
def Sh.jT(x0:ai)(x1:bg):Option ((Int×Int×ai)) :=
 ((Fx.get x0.a8.l x1.dst).bind fun c0=>(Fx.seq ((Sh.hS c0).bind fun c4=>(bif (!c4)then(some (inl true))else((Fx.get x0.a8.l x1.src).bind fun c2=>((Sh.cI c2).bind fun c5=>(bif (!c5)then(some (inl true))else(bif (decide (x1.jN=241))then((Fx.get x0.a8.l 0).bind fun c3=>((Sh.cI c3).bind fun c6=>(some (inl (!c6)))))else(some (inl false)))))))) fun c1=>Sh.nF x0 x1 c0 c1))
end Go.Proofs
end
section
namespace Go.Fx
open Go Go.Fw
abbrev fv(f:Nat):Value:=.func (.func f) #[] #[]
def pq(l:List (Int×Nat)):Obj:=ju .i64 (l.map fun p=>(p.1,fv p.2))
theorem bZ{X:Type}(b:Int)(y:X)(l:List (Int×X))(a:Int):il ((b,y)::l) a=if a=b then some y else il l a:=by
 unfold il
 simp only[ik]
 split
 ·rfl
 ·cases ik l a<;>rfl
section
variable {P:Program}{n:Nat}{F:List (Nat×Value)}{a:Act}{dd:List Deferred}{w:World}{o:Oper}{J:Value→World→Prop}
theorem Hf{t kt et b:Nat}{q:IntKind}{l:List (Int×Value)}{m k x:Operand}{c:Int}{v:Value}(hm:P.underlying t=some (.map kt et))(hk:P.underlying kt=some (.int q))(hF:Fr n F a dd)(ho:o.op = .insert t m k x)
  (h1:ev F m=some (.map (some b))) (h2:ev F k=some (.int q c)) (h3:ev F x=some v) (hb:(di.obj b (ju q l)).holds w)
  (next:∀ w',oa (.obj b (ju q l)) (.obj b (ju q (jk l c v))) w w' → J undef w'):Yd P o a.eval w J:=by
 have ky:w.heap[b]? = some (.map (jh q 0 l).toArray l.length):=hb
 have oe:∀ ob,(setObj b ob).run P w = .ok () (w.putObj b ob):=fun ob=>by simp[setObj,Sem.run,ky,World.putObj]
 have yl:∀ b,(Instr.checkKey b 10000 kt (.int q c)).run P w = .ok () w:=fun b=>Go.Ev.iy hk b q c
 have hU:=Go.Ev.oa.putObj (o':=ju q (jk l c v)) ky
 have tf:(Instr.findKey kt (.int q c) (jh q 0 l)).run P w = .ok ((ik l c).map fun p=>(p.1,p.2)) w:=by
  have:=wC q c l 0 0
  simp only[ab_]at this
  exact MapKept.run_findKey hk this
 have h:=next _ hU
 unfold Yd
 cases hf:ik l c with
 | none =>
  obtain⟨e1,e2⟩:=sC q c v l 0 hf
  rw[hf]at tf
  have e3:ju q (jk l c v) = .map ((jh q 0 l).toArray.push ⟨.int q c,v,l.length⟩) (l.length+1):=by
   simp only[ju,e1,e2,ab_,List.push_toArray]
  rw[e3]at h
  simp only[execOp,ho,hF.eval h1,hF.eval h2,hF.eval h3,Instr.mapUpdate,Sem.run_bind,run_underlying hm,Result.andThen_ok,MapKept.run_getObj_map ky,yl,tf,acu,oe,Sem.run_pure]
  exact h
 | some p =>
  obtain⟨k',y⟩:=p
  obtain⟨e1,e2,m',e4⟩:=K1 q c v y l 0 k' hf
  rw[hf]at tf
  have hst:(Instr.keyThatStays (.int q c) (.int q c)).run P w = .ok (.int q c) w:=MapKept.run_keyThatStays (d:=.int q) rfl
  have AU:((jh q 0 l).toArray[k']?).map (·.key)=some (.int q c):=by simp[e4]
  have e3:ju q (jk l c v) = .map ((jh q 0 l).toArray.modify k' fun e=>{ e with key:=.int q c,val:=v }) l.length:=by
   simp only[ju,e1,e2,acX]
  rw[e3]at h
  simp only[execOp,ho,hF.eval h1,hF.eval h2,hF.eval h3,Instr.mapUpdate,Sem.run_bind,run_underlying hm,Result.andThen_ok,MapKept.run_getObj_map ky,yl,tf,aaI,AU,aaJ,hst,oe,Sem.run_pure]
  exact h
theorem eG{t kt et b:Nat}{l m:List (Int×Nat)}{y k x:Operand}{c:Int}{f:Nat}(he:jk l c f=m)(hm:P.underlying t=some (.map kt et))(hk:P.underlying kt=some (.int .i64))(hF:Fr n F a dd)(ho:o.op = .insert t y k x)
  (h1:ev F y=some (.map (some b))) (h2:ev F k=some (.int .i64 c)) (h3:ev F x=some (fv f)) (hb:(di.obj b (pq l)).holds w)
  (next:∀ w',oa (.obj b (pq l)) (.obj b (pq m)) w w' → J undef w'):Yd P o a.eval w J :=
 Hf hm hk hF ho h1 h2 h3 hb fun w' h=>next w' (by
  have e:ju .i64 (jk (l.map fun p=>(p.1,fv p.2)) c (fv f))=pq m:=by
   rw[pq,←he,K0 fv c f l]
  rw[←e];exact h)
theorem O7{t:Nat}(ho:o.op = .makeMap t none)(next:∀ b w',w.heap.size=b→iz (.obj b (pq [])) w w' → J (.map (some b)) w'):Yd P o a.eval w J :=
 yT (q:=.i64) ho next
theorem TJ{t kt et b f:Nat}{l:List (Int×Nat)}{x k:Operand}{c:Int}{z:Value}(hf:il l c=some f)(hm:P.underlying t=some (.map kt et))(hk:P.underlying kt=some (.int .i64))(hz:∀ w,(zeroValue et).run P w = .ok z w)
  (hF:Fr n F a dd) (ho:o.op = .lookup t x k false) (h1:ev F x=some (.map (some b))) (h2:ev F k=some (.int .i64 c)) (hb:(di.obj b (pq l)).holds w) :
  (execOp a.eval o).run P w = .ok (.value (fv f)) w:=by
 rw[G4 hm hk hz hF ho h1 h2 hb,rY fv c l,hf];rfl
theorem TK{t kt et b f:Nat}{l:List (Int×Nat)}{x k:Operand}{c:Int}{z:Value}(hf:il l c=some f)(hm:P.underlying t=some (.map kt et))(hk:P.underlying kt=some (.int .i64))(hz:∀ w,(zeroValue et).run P w = .ok z w)
  (hF:Fr n F a dd) (ho:o.op = .lookup t x k true) (h1:ev F x=some (.map (some b))) (h2:ev F k=some (.int .i64 c)) (hb:(di.obj b (pq l)).holds w) :
  (execOp a.eval o).run P w = .ok (.value (.tuple #[fv f,.bool true])) w:=by
 rw[tN hm hk hz hF ho h1 h2 hb,rY fv c l,hf];rfl
theorem TI{t kt et b:Nat}{l:List (Int×Nat)}{x k:Operand}{c:Int}(hf:(il l c).isSome=false)(hm:P.underlying t=some (.map kt et))(hk:P.underlying kt=some (.int .i64))(hz:∀ w,(zeroValue et).run P w = .ok .nilFunc w)
  (hF:Fr n F a dd) (ho:o.op = .lookup t x k true) (h1:ev F x=some (.map (some b))) (h2:ev F k=some (.int .i64 c)) (hb:(di.obj b (pq l)).holds w) :
  (execOp a.eval o).run P w = .ok (.value (.tuple #[.nilFunc,.bool false])) w:=by
 rw[tN hm hk hz hF ho h1 h2 hb,rY fv c l]
 cases h:il l c with
 | none=>rfl
 | some f=>rw[h]at hf;cases hf
end
end Go.Fx
end
noncomputable section
namespace Go.Proofs
open Go Go.Fw Go.Fx
set_option maxRecDepth 10000
def Sh.Ce(c a b:Int):Option Int :=
 (bif (decide (c=1))then Sh.F3 a b else(bif (decide (c=2))then Sh.aF4 a b else(bif (decide (c=3))then Sh.aF1 a b else(bif (decide (c=4))then Sh.aFx a b else(bif (decide (c=5))then Sh.aFz a b else(bif (decide (c=6))then Sh.aDs a b else(bif (decide (c=7))then Sh.aDt a b else(bif (decide (c=8))then Sh.He a b else(bif (decide (c=9))then Sh.aFw a b else(bif (decide (c=10))then Sh.FT a b else(bif (decide (c=11))then Sh.F4 a b else(bif (decide (c=12))then Sh.aF3 a b else(bif (decide (c=13))then Sh.aDr a b else(bif (decide (c=14))then Sh.aF2 a b else(bif (decide (c=15))then Sh.G7 a b else none)))))))))))))))
def vg:List (Int×Nat):=[(1,316),(2,317),(3,318),(4,319),(5,320),(6,321),(7,322),(8,323),(9,324),(10,325),(11,326),(12,327),(13,328),(14,329),(15,330)]
def Sh.aGr(c a b:Int):Option Int :=
 (bif (decide (c=4))then Sh.GY a b else(bif (decide (c=5))then Sh.aB3 a b else(bif (decide (c=6))then Sh.zV a b else(bif (decide (c=7))then Sh.zW a b else(bif (decide (c=11))then Sh.aB2 a b else(bif (decide (c=12))then Sh.aB4 a b else(bif (decide (c=13))then Sh.zU a b else none)))))))
def mN:List (Int×Nat):=[(4,331),(5,332),(6,333),(7,334),(11,335),(12,336),(13,337)]
def Sh.FO(x0:Int)(x1:Bool)(c0:Int)(c1:Int)(c2:Bool):Option ((Int×Int)) :=
 (bif c2 then(some (0,84))else((Fx.il vg x0).bind fun c8=>(bif (!x1)then((Sh.Ce x0 c0 c1).bind fun c3=>(some ((IntKind.i64.wrap c3),0)))else(bif (Fx.il mN x0).isSome then((Fx.il mN x0).bind fun c9=>((Sh.aGr x0 c0 c1).bind fun c4=>((Sh.eZ c4).bind fun c5=>(some ((IntKind.i64.wrap c5),0)))))else((Sh.Ce x0 c0 c1).bind fun c6=>((Sh.eZ c6).bind fun c7=>(some ((IntKind.i64.wrap c7),0))))))))
def Sh.Ee(x0:Int)(x1:Bool)(c1:Int)(c0:Int):Option ((Int×Int)) :=
 (Fx.seq (bif (decide (c0=0))then((Sh.wK x0).bind fun c3=>(some (inl c3)))else(some (inl false))) fun c2=>Sh.FO x0 x1 c1 c0 c2)
def Sh.Ed(x0:Int)(x1:Bool)(x2:Int)(x3:Int)(v84:Bool):Option ((Int×Int)) :=
 (bif v84 then(some (0,1))else(Fx.seq (bif x1 then((Sh.eZ (IntKind.u64.wrap x2)).bind fun c2=>((Sh.eZ (IntKind.u64.wrap x3)).bind fun c3=>(some (inl (c2,c3)))))else(some (inl ((IntKind.u64.wrap x2),(IntKind.u64.wrap x3))))) fun(c0,c1)=>Sh.Ee x0 x1 c0 c1))
def Sh.aG9(x0:Int)(x1:Bool)(x2:Int)(x3:Int):Option ((Int×Int)) :=
 (Fx.seq (bif (decide (x0<1))then(some (inl true))else(some (inl (decide (15<x0))))) fun v84=>Sh.Ed x0 x1 x2 x3 v84)
def Sh.FZ(c2:f_)(c0:Bool):Option ((Bool⊕(Bool⊕(Bool⊕Bool)))) :=
 ((Sh.kN c2 false c0).bind fun c1=>(some (inr (inr (inr c1)))))
def Sh.aFt(c2:f_)(c0:Bool):Option ((Bool⊕(Bool⊕Bool))) :=
 ((Sh.kN c2 true c0).bind fun c1=>(some (inr (inr c1))))
def Sh.FY(c2:fR)(c0:Bool):Option ((Bool⊕Bool)) :=
 ((Sh.lC c2 false c0).bind fun c1=>(some (inr c1)))
def Sh.FX(c2:fR)(c0:Bool):Option Bool :=
 ((Sh.lC c2 true c0).bind fun c1=>(some c1))
def Sh.zK(x0:Int)(c1:fR)(c0:f_):Option Bool :=
 (Fx.seq (Fx.seq (Fx.seq (Fx.seq (bif (decide (x0=27))then(some (inr (inr (inr (inr (decide (c0.a=c0.b)))))))else(bif (decide (x0=28))then(some (inr (inr (inr (inr (!decide (c0.a=c0.b)))))))else(bif (decide (x0=37))then(some (inr (inr (inr (inr (!decide ((iP .u64 c0.a c0.b)=0)))))))else(bif (decide (x0=30))then(some (inl true))else(bif (decide (x0=29))then(some (inl false))else(bif (decide (x0=32))then(some (inr (inl true)))else(bif (decide (x0=31))then(some (inr (inl false)))else(bif (decide (x0=34))then(some (inr (inr (inl true))))else(bif (decide (x0=33))then(some (inr (inr (inl false))))else(bif (decide (x0=36))then(some (inr (inr (inr (inl true)))))else(bif (decide (x0=35))then(some (inr (inr (inr (inl false)))))else(some (inr (inr (inr (inr false)))))))))))))))) fun c5=>Sh.FZ c0 c5) fun c4=>Sh.aFt c0 c4) fun c3=>Sh.FY c1 c3) fun c2=>Sh.FX c1 c2)
def Sh.xJ(x0:Int)(x1:Bool)(x2:Int)(x3:Int):Option Bool :=
 (Fx.seq (bif x1 then(some (inl ((fR.mk (IntKind.i64.wrap (IntKind.i32.wrap x2)) (IntKind.i64.wrap (IntKind.i32.wrap x3))),(f_.mk (IntKind.u64.wrap (IntKind.u32.wrap x2)) (IntKind.u64.wrap (IntKind.u32.wrap x3))))))else(some (inl ((fR.mk x2 x3),(f_.mk (IntKind.u64.wrap x2) (IntKind.u64.wrap x3)))))) fun(c0,c1)=>Sh.zK x0 c0 c1)
end Go.Proofs
end
noncomputable section
namespace Go.Proofs
open Go Go.Fw Go.Fx
set_option maxRecDepth 10000
def Sh.hY(x0:ai)(x1:bg)(c0:aj)(c1:Bool):Option ((aj⊕(Int×Int×ai))) :=
 (bif c1 then((Fx.get x0.a8.l x1.dst).bind fun c3=>(some (inr (0,0,(ai.mk x0.ae x0.code x0.dq x0.da (x0.a8.set (x1.dst:Int).toNat c0) x0.a7 x0.at_ x0.steps x0.done)))))else((Sh.cZ 0).bind fun c2=>(some (inl c2))))
def Sh.tS(x0:ai)(c1:(Int×Int))(c0:Vec aj 11):Option ((Int×Int×ai)) :=
 (some (0,c1.2,(ai.mk x0.ae x0.code x0.dq x0.da c0 x0.a7 x0.at_ x0.steps x0.done)))
def Sh.tT(x0:ai)(c1:(aj×Int))(c0:Vec aj 11):Option ((Int×Int×ai)) :=
 (some (0,c1.2,(ai.mk x0.ae x0.code x0.dq x0.da c0 x0.a7 x0.at_ x0.steps x0.done)))
def Sh.mT(x0:ai)(x1:bg)(c1:aj)(c2:aj)(c3:Bool):Option ((Int×Int×ai)) :=
 (bif c3 then(some (0,80,x0))else((Sh.Ek x1.op c2 c1).bind fun c0=>(Fx.seq (bif (decide (c0.2=0))then((Fx.get x0.a8.l x1.dst).bind fun c5=>(some (inl (x0.a8.set (x1.dst:Int).toNat c0.1))))else(some (inl x0.a8))) fun c4=>Sh.tT x0 c0 c4)))
def Sh.mS(x0:ai)(x1:bg)(c0:aj)(c1:aj)(c3:Bool):Option ((Int×Int×ai)) :=
 (bif c3 then((Sh.aG9 x1.op x1.narrow c1.x c0.x).bind fun c2=>(Fx.seq (bif (decide (c2.2=0))then((Sh.cZ c2.1).bind fun c6=>((Fx.get x0.a8.l x1.dst).bind fun c7=>(some (inl (x0.a8.set (x1.dst:Int).toNat c6)))))else(some (inl x0.a8))) fun c4=>Sh.tS x0 c2 c4))else(Fx.seq (bif x1.narrow then(some (inl true))else(bif (decide (c1.kind=0))then(some (inl true))else(some (inl (decide (c0.kind=0)))))) fun c5=>Sh.mT x0 x1 c0 c1 c5))
def Sh.tR(x0:ai)(x1:bg)(c0:aj)(c1:aj):Option ((Int×Int×ai)) :=
 (Fx.seq ((Sh.cI c1).bind fun c3=>(bif c3 then((Sh.cI c0).bind fun c4=>(some (inl c4)))else(some (inl false)))) fun c2=>Sh.mS x0 x1 c0 c1 c2)
def Sh.hX(x0:ai)(x1:bg)(c1:aj)(c0:aj):Option ((Int×Int×ai)) :=
 (Fx.seq (bif (decide (x1.op=15))then(Fx.seq (bif (!x1.narrow)then(some (inl (!decide (c0.kind=0))))else(some (inl false))) fun c3=>Sh.hY x0 x1 c0 c3)else(some (inl c1))) fun c2=>Sh.tR x0 x1 c0 c2)
def Sh.hW(x0:ai)(x1:bg)(c0:aj)(c1:aj):Option ((Int×Int×ai)) :=
 (Fx.seq (bif (decide (x1.op=14))then((Sh.cZ 0).bind fun c3=>(some (inl c3)))else(some (inl c1))) fun c2=>Sh.hX x0 x1 c0 c2)
def Sh.cH(x0:ai)(x1:bg):Option ((Int×Int×ai)) :=
 (Fx.seq ((Fx.get x0.a8.l x1.dst).bind fun c2=>((Sh.fO x0 x1).bind fun c3=>(some (inl (c2,c3))))) fun(c0,c1)=>Sh.hW x0 x1 c0 c1)
def Sh.qM(x1:bg)(c0:Bool):Option ((Int⊕(Bool⊕(Int×Int)))) :=
 (bif c0 then(some (inl (IntKind.i64.wrap (x1.op+4))))else(some (inl x1.op)))
def Sh.qL(c0:aj)(c1:aj)(c2:Int):Option ((Bool⊕(Int×Int))) :=
 ((Sh.xJ c2 false c0.x c1.x).bind fun c3=>(some (inl c3)))
def Sh.qN(x1:bg)(c0:Bool):Option ((Bool⊕(Int×Int))) :=
 (bif c0 then(some (inl (decide (x1.op=28))))else(some (inr (0,80))))
def Sh.qK(x1:bg)(c0:aj)(c1:aj)(c2:Bool):Option ((Bool⊕(Int×Int))) :=
 (bif c2 then(Fx.seq (Fx.seq (bif (decide (29≤x1.op))then(some (inl (decide (x1.op≤32))))else(some (inl false))) fun c4=>Sh.qM x1 c4) fun c3=>Sh.qL c0 c1 c3)else(Fx.seq (bif (decide (c0.kind=5))then(bif (!x1.reg)then(bif (decide (x1.jN=0))then(bif (decide (x1.op=27))then(some (inl true))else(some (inl (decide (x1.op=28)))))else(some (inl false)))else(some (inl false)))else(some (inl false))) fun c5=>Sh.qN x1 c5))
def Sh.qJ(x1:bg)(c0:aj)(c1:aj)(c2:Bool):Option ((Bool⊕(Int×Int))) :=
 (bif c2 then(some (inr (0,80)))else(Fx.seq ((Sh.wS c0 c1).bind fun c4=>(bif c4 then(some (inl (!decide (x1.op=37))))else(some (inl false)))) fun c3=>Sh.qK x1 c0 c1 c3))
def Sh.qI(x1:bg)(c0:aj)(c1:aj)(c2:Bool):Option ((Bool⊕(Int×Int))) :=
 (bif c2 then((Sh.xJ x1.op x1.narrow c0.x c1.x).bind fun c4=>(some (inl c4)))else(Fx.seq (bif x1.narrow then(some (inl true))else(bif (decide (c0.kind=0))then(some (inl true))else(some (inl (decide (c1.kind=0)))))) fun c3=>Sh.qJ x1 c0 c1 c3))
def Sh.qH(x1:bg)(c0:Bool):Option ((Int×Int)) :=
 (bif c0 then(some (x1.off,0))else(some (0,0)))
def Sh.qG(x1:bg)(c0:aj)(c1:aj):Option ((Int×Int)) :=
 (Fx.seq (Fx.seq ((Sh.cI c0).bind fun c4=>(bif c4 then((Sh.cI c1).bind fun c5=>(some (inl c5)))else(some (inl false)))) fun c3=>Sh.qI x1 c0 c1 c3) fun c2=>Sh.qH x1 c2)
def Sh.hK(x0:ai)(x1:bg):Option ((Int×Int)) :=
 (Fx.seq ((Fx.get x0.a8.l x1.dst).bind fun c2=>((Sh.fO x0 x1).bind fun c3=>(some (inl (c2,c3))))) fun(c0,c1)=>Sh.qG x1 c0 c1)
def Sh.nZ(x0:List (List UInt8))(c1:List (List UInt8))(c0:Int):Option (((List (List UInt8)×Int)⊕(List (List UInt8)⊕List (List UInt8)))) :=
 (bif (decide (c0<(x0.length:Int)))then((Fx.get x0 c0).bind fun c2=>((Sh.aN c2).bind fun c4=>((Fx.app 24 c1 [c4]).bind fun c3=>(some (inl (c3,(IntKind.i64.wrap (c0+1))))))))else(some (inr (inl c1))))
def Sh.Hh(c0:List (List UInt8)):Option (List (List UInt8)) :=
 (some c0)
def Sh.iY(x0:List (List UInt8)):Option (List (List UInt8)) :=
 (Fx.seq (Fx.loop (fun(c1,c2)=>Sh.nZ x0 c1 c2) ([],0)) fun c0=>Sh.Hh c0)
def Sh.cA(x0:ai):Option br :=
 ((Sh.aN x0.ae.cq).bind fun Sj=>((Sh.iY x0.ae.ah).bind fun JR=>((Sh.bG x0.a7).bind fun Sm=>(some (br.mk x0.a8 x0.ae.bh Sj JR Sm x0.at_ x0.steps x0.done)))))
end Go.Proofs
end
section
namespace Go.Proofs
open Go Go.Fw Go.Fx
set_option maxRecDepth 10000
noncomputable def Sh.J5(x0:eo):Option (List Int) :=
 (some [2,4,1,0,0])
noncomputable def Sh.aHt(x0:eo):Option cj :=
 (some (cj.mk x0.least x0.most false false))
noncomputable def Sh.J4(x0:ez):Option (List Int) :=
 (some [3,x0.from_,4,0,0])
noncomputable def Sh.Hf(x0:ez):Option cj :=
 (some cj.zero)
noncomputable def Sh.sP(x0:bX)(v157:List Int)(v160:Int):Option (((List Int×Int)⊕(List Int⊕List Int))) :=
 (bif (decide (v160<x0.many))then((Fx.get v157 v160).bind fun Oy=>(some (inl ((v157.set (v160:Int).toNat 1),(IntKind.i64.wrap (v160+1))))))else(some (inr (inl v157))))
noncomputable def Sh.D6(v138:List Int):Option (List Int) :=
 (some v138)
noncomputable def Sh.jP(x0:bX):Option (List Int) :=
 ((Fx.mk 8 (0:Int) 5).bind fun RZ=>(Fx.seq (Fx.loop (fun(v157,v160)=>Sh.sP x0 v157 v160) (RZ,0)) fun v138=>Sh.D6 v138))
noncomputable def Sh.aGn(x0:bX):Option cj :=
 (some x0.span)
noncomputable def Sh.Eb(qA:Int)(wX:Int):Option ((Int⊕((Int×Int)⊕(Int⊕Int)))) :=
 (bif (decide (65535<(IntKind.i64.wrap (qA+wX))))then(some (inl (IntKind.i64.wrap ((IntKind.i64.wrap (qA+wX))-65535))))else(some (inl (IntKind.i64.wrap (qA+wX)))))
noncomputable def Sh.aHn(qB:Int)(za:Int):Option (((Int×Int)⊕(Int⊕Int))) :=
 (some (inl (za,(IntKind.i64.wrap (qB+2)))))
noncomputable def Sh.xX(x0:List UInt8)(qA:Int)(qB:Int):Option (((Int×Int)⊕(Int⊕Int))) :=
 (bif (decide (qB<(x0.length:Int)))then(Fx.seq ((Fx.get x0 qB).bind fun Fq=>(Fx.seq (bif (decide ((IntKind.i64.wrap (qB+1))<(x0.length:Int)))then((Fx.get x0 (IntKind.i64.wrap (qB+1))).bind fun JM=>(some (inl (uu .i64 (shl .i64 (Fq.toNat:Int) (8:Int).toNat) (JM.toNat:Int)))))else(some (inl (shl .i64 (Fq.toNat:Int) (8:Int).toNat)))) fun wX=>Sh.Eb qA wX)) fun za=>Sh.aHn qB za)else(some (inr (inl qA))))
noncomputable def Sh.Hg(y_:Int):Option Int :=
 (some y_)
noncomputable def Sh.aGm(x0:List UInt8)(x1:Int):Option Int :=
 (Fx.seq (Fx.loop (fun(qA,qB)=>Sh.xX x0 qA qB) ((iP .i64 x1 65535),0)) fun y_=>Sh.Hg y_)
noncomputable def Sh.F8(x0:Int)(x1:Int):Option Int :=
 (some (IntKind.i64.wrap (rm .u64 (IntKind.u64.wrap ((rm .u64 (rm .u64 (IntKind.u64.wrap x0) (IntKind.u64.wrap ((IntKind.u64.wrap x1)*14437167314951722571))) (shr .u64 (rm .u64 (IntKind.u64.wrap x0) (IntKind.u64.wrap ((IntKind.u64.wrap x1)*14437167314951722571))) (29:Int).toNat))*10320681969465668653)) (shr .u64 (IntKind.u64.wrap ((rm .u64 (rm .u64 (IntKind.u64.wrap x0) (IntKind.u64.wrap ((IntKind.u64.wrap x1)*14437167314951722571))) (shr .u64 (rm .u64 (IntKind.u64.wrap x0) (IntKind.u64.wrap ((IntKind.u64.wrap x1)*14437167314951722571))) (29:Int).toNat))*10320681969465668653)) (32:Int).toNat))))
end Go.Proofs
end
