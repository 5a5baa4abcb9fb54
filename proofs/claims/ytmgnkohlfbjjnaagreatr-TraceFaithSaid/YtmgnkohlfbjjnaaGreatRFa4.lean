/- Ground for the claim TraceFaith. -/
import Derived.Laws.MakeOwn
import Derived.Test.YtmgnkohlfbjjnaaGreatRFa3
set_option linter.unusedVariables false
set_option linter.unusedSimpArgs false
section
namespace Go.Fx
open Go Go.Fw
def mk{X:Type}(bytes:Nat)(z:X)(n:Int):Option (List X):=if 0≤n∧(bytes:Int)*n≤281474976710656∧n≤4611686018427387904 then some (List.replicate n.toNat z)else none
theorem S1{X:Type}{bytes:Nat}{z:X}{n:Int}{l:List X}(h:mk bytes z n=some l):(0≤n∧(bytes:Int)*n≤281474976710656∧n≤4611686018427387904)∧l=List.replicate n.toNat z:=by
 unfold mk at h
 split at h
 ·cases h;exact⟨by assumption,rfl⟩
 ·cases h
theorem Xx(n:Nat):encs (List.replicate n (0:UInt8))=List.replicate n (.int .u8 0):=by
 induction n with
 | zero=>rfl
 | succ n ih=>rw[acV,kG,ih];rfl
theorem V0(n:Nat):(madeCells #[.int .u8 0] n).toList=List.replicate n (.int .u8 0):=by
 apply abr
 intro i
 simp only[madeCells,acW,acX,aby,acY,acZ]
 by_cases h:i<n
 ·simp[h,Nat.mod_one]
 ·simp[h]
section
variable {P:Program}{n:Nat}{F:List (Nat×Value)}{a:Act}{dd:List Deferred}{w:World}{o:Oper}{J:Value→World→Prop}
theorem N6{x y:Operand}{t e bytes:Nat}{c:Int}{k k':IntKind}{l:List UInt8}{i:TypeInfo}(hr:Fx.mk bytes (0:UInt8) c=some l)(ht:P.underlying t=some (.slice e))(hi:P.info? e=some i)(hz:i.zero=some (.int .u8 0))
  (hsize:i.size=1) (An:i.bytes=bytes) (hF:Fr n F a dd) (ho:o.op = .makeSlice t x y) (hx:ev F x=some (.int k c)) (hy:ev F y=some (.int k' c))
  (next:∀ (s:SV) w',iy (ai 0 s e l) w w' → J s.v w'):Yd P o a.eval w J:=by
 subst An
 obtain⟨hb,rfl⟩:=S1 hr
 have hrun:=run_make (P:=P) w t e i (.int .u8 0) ht hi hz k k' c c hb.1 (Int.le_refl _) hb.2.1 adr
 have hA:iy (ai 0 ⟨some ⟨w.heap.size,0,none⟩,c.toNat,c.toNat⟩ e (List.replicate c.toNat (0:UInt8))) w (w.alloc (.cells (madeCells (Value.int .u8 0).cells (c.toNat*i.size)) e)):=by
  have hm:(madeCells (Value.int .u8 0).cells (c.toNat*i.size)).toList=List.replicate c.toNat (.int .u8 0):=by rw[hsize,acO];exact V0 _
  refine⟨gw.alloc w _,⟨by rw[dM],.inr ⟨w.heap.size,c.toNat,_,by simp[SV.v],aaF _,heap_alloc_new w _,by simp,by simp only[maxLen];omega,?_,?_⟩⟩,fun k hk=>by simp[dw.fp,SV.v,Value.ownBlock]at hk;omega⟩
  ·rw[size_madeCells,hsize];rfl
  ·rw[hm,Xx,abS]
   exact acn (by rw[abS];exact ac0 (acO _).symm)
 have h:=next _ _ hA
 unfold Yd
 simp only[execOp,ho,hF.eval hx,hF.eval hy,Sem.run_bind,hrun,Result.andThen_ok,Sem.run_pure]
 exact h
end
end Go.Fx
end
section
namespace Go.Ev
open Go.Fw
inductive AV where
 | b (x:Bool)
 | i (k:IntKind) (n:Int)
 | s (l:List UInt8)
 | np|nsl|nf|nm|nY
 | p (n off:Nat)
 | sl (n off len cap:Nat)
 | row (n:Nat) (cuts:List (Nat×Nat×Nat))
 | mp (n:Nat)
 | f (g:Nat) (fs cs:List AV)
 | y (n:Nat)
 | agg (n:Nat) (l:List AV)
 | A6 (l:List AV)
deriving Inhabited
inductive Tr(α:Type) where
 | e
 | n (v:Option α) (l r:Tr α)
deriving Inhabited
def Tr.path{α:Type}:Nat→Nat→α→Tr α
 | 0,_,_=>.e
 | d+1,k,x=>bif Nat.beq k 0 then .n (some x) .e .e else bif Nat.beq (k%2) 1 then .n none (Tr.path d (k/2) x) .e else .n none .e (Tr.path d (k/2-1) x)
noncomputable def Tr.get{α:Type}(t:Tr α):Nat→Option α :=
 Tr.rec (motive:=fun _=>Nat→Option α) (fun _=>none) (fun v _ _ gl gr k=>bif Nat.beq k 0 then v else bif Nat.beq (k%2) 1 then gl (k/2)else gr (k/2-1)) t
noncomputable def Tr.set{α:Type}(t:Tr α)(k:Nat)(x:α):Tr α :=
 Tr.rec (motive:=fun _=>Nat→Tr α) (fun k=>Tr.path 20 k x) (fun v l r sl sr k=>bif Nat.beq k 0 then .n (some x) l r else bif Nat.beq (k%2) 1 then .n v (sl (k/2)) r else .n v l (sr (k/2-1))) t k
mutual
def ren(f:Nat→Nat):AV→AV
 | .p n off=>.p (f n) off
 | .sl n off len cap=>.sl (f n) off len cap
 | .row n cuts=>.row (f n) cuts
 | .mp n=>.mp (f n)
 | .y n=>.y (f n)
 | .f g a c=>.f g (r7 f a) (r7 f c)
 | .agg n l=>.agg n (r7 f l)
 | .A6 l=>.A6 (r7 f l)
 | v=>v
def r7(f:Nat→Nat):List AV→List AV
 | []=>[]
 | v::r=>ren f v::r7 f r
end
mutual
def yc:AV→AV→Bool
 | .b x,.b y=>x==y
 | .i k x,.i k' y=>decide (k=k')&&decide (x=y)
 | .s x,.s y=>decide (x=y)
 | .np,.np=>true
 | .nsl,.nsl=>true
 | .nf,.nf=>true
 | .nm,.nm=>true
 | .nY,.nY=>true
 | .p n o,.p n' o'=>Nat.beq n n' && Nat.beq o o'
 | .sl n o l c,.sl n' o' l' c'=>Nat.beq n n' && Nat.beq o o' && Nat.beq l l' && Nat.beq c c'
 | .row n c,.row n' c'=>Nat.beq n n' && decide (c=c')
 | .mp n,.mp n'=>Nat.beq n n'
 | .y n,.y n'=>Nat.beq n n'
 | .f g a c,.f g' a' c'=>Nat.beq g g' && uf a a' && uf c c'
 | .agg n l,.agg n' l'=>Nat.beq n n' && uf l l'
 | .A6 l,.A6 l'=>uf l l'
 | _,_=>false
def uf:List AV→List AV→Bool
 | [],[]=>true
 | x::l,y::m=>yc x y&&uf l m
 | _,_=>false
end
noncomputable def xe{α:Type}(l:List α):Nat→Option α :=
 List.rec (motive:=fun _=>Nat→Option α) (fun _=>none) (fun x _ ih k=>bif Nat.beq k 0 then some x else ih (k-1)) l
noncomputable def lR{α:Type}(l:List α):Nat→List α :=
 List.rec (motive:=fun _=>Nat→List α) (fun _=>[]) (fun x xs ih k=>bif Nat.beq k 0 then x::xs else ih (k-1)) l
noncomputable def mK{α:Type}(l:List α):Nat→List α :=
 List.rec (motive:=fun _=>Nat→List α) (fun _=>[]) (fun x _ ih k=>bif Nat.beq k 0 then []else x::ih (k-1)) l
noncomputable def Az{α:Type}(l m:List α):List α :=
 List.rec (motive:=fun _=>List α) m (fun x _ ih=>x::ih) l
noncomputable def E7{α:Type}(l:List α):Nat :=
 List.rec (motive:=fun _=>Nat) 0 (fun _ _ ih=>ih+1) l
noncomputable def zx{α:Type}(vs:List α):List α→List α :=
 List.rec (motive:=fun _=>List α→List α) (fun l=>l) (fun v _ ih l=>v::ih l.tail) vs
noncomputable def Fb{α:Type}(l:List α)(k:Nat)(vs:List α):List α :=
 List.rec (motive:=fun _=>Nat→List α) (fun _=>vs) (fun x xs ih k=>bif Nat.beq k 0 then zx vs (x::xs)else x::ih (k-1)) l k
inductive lu where
 | pt (n:Nat) (l:List AV) (T:Nat)
 | fz (n:Nat) (l:List AV) (T:Nat)
 | row (e sz m:Nat) (l:List AV)
 | map (es:List (AV×AV×Nat)) (clock:Nat)
 | loop (st:LoopState) (pend:Option (Option Nat))
 | defd (taken:Bool)
 | dead
deriving Inhabited
abbrev Fm:=Tr AV
structure vu where
 fn:Nat
 n:Nat
 tm:Fm
 ps:List Nat
 IL:Code
 body:Code
 d:Nat
abbrev Env:=List (Nat×vu)
def iq:Env→Nat→Option vu
 | [],_=>none
 | (m,i)::r,n=>bif Nat.beq m n then some i else iq r n
abbrev Heap:=Tr lu
structure St where
 h:Heap
 nx:Nat
 cj:List Nat:=[]
 wr:List Nat:=[]
deriving Inhabited
noncomputable def find(h:Heap)(n:Nat):Option lu:=h.get n
noncomputable def upd(h:Heap)(n:Nat)(o:lu):Heap:=h.set n o
def wt{β:Type}(n:Nat)(k:Nat→β):β:=match n with
 | 0=>k 0
 | m+1=>k (m+1)
def CZ{β:Type}(n:Int)(k:Int→β):β:=match n with
 | .ofNat m=>wt m fun m=>k (.ofNat m)
 | .negSucc m=>wt m fun m=>k (.negSucc m)
def force{β:Type}(v:AV)(k:AV→β):β:=match v with
 | .i q n=>CZ n fun n=>k (.i q n)
 | .b true=>k (.b true)
 | .b false=>k (.b false)
 | .p n off=>wt n fun n=>wt off fun off=>k (.p n off)
 | v=>k v
structure Tab where
 small:Nat→Bool
 nY:Nat→Option TypeDesc
 sz:Nat→Option Nat
 zero:Nat→Option AV
 plain:Nat→Bool
 fn:Nat→Option (Nat×List ResultVar×Code)
def yf:TypeDesc→Bool
 | .struct _ | .array _ _=>true
 | _=>false
def Jd:Value→Option AV
 | .bool b=>some (.b b)
 | .int k n=>some (.i k n)
 | .string s=>some (.s s.data.toList)
 | .pointer none=>some .np
 | .slice none 0 0=>some .nsl
 | .map none=>some .nm
 | .nilFunc=>some .nf
 | _=>none
noncomputable def Je:Value→Option AV
 | .agg cs=>(cs.toList.mapM Jd).map fun l=>.agg (E7 l) l
 | v=>Jd v
noncomputable def jh(F:Fm):Operand→Option AV
 | .tmp t=>F.get t
 | .const v=>Je v
 | .func g=>some (.f g [] [])
 | .global _=>none
def cellsOf:AV→List AV
 | .agg _ l=>l
 | v=>[v]
def lenOf:AV→Nat
 | .agg n _=>n
 | _=>1
def qn:AV→Bool
 | .agg _ _=>false
 | .A6 _=>false
 | .nY=>false
 | _=>true
def oY:AV→Bool
 | .agg _ _=>true
 | v=>qn v
noncomputable def Fa(n:Nat)(l:List AV)(off m:Nat)(vs:List AV):Option (List AV) :=
 bif Nat.beq off 0&&Nat.beq n m then some vs else bif Nat.ble (off+m) n then some (Fb l off vs)else none
noncomputable def part(T:Tab)(t n:Nat)(cs:List AV)(off:Nat):Option AV:=do
 let d←T.nY t
 if yf d then
  let m←T.sz t
  bif Nat.beq off 0&&Nat.beq m n then some (.agg n cs)else
  bif Nat.ble (off+m) n then some (.agg m (mK (lR cs off) m))else none
 else xe cs off
def AQ:BinOp→IntKind→Int→Int→Option AV
 | .add,k,x,y=>some (.i k (k.wrap (x+y)))
 | .sub,k,x,y=>some (.i k (k.wrap (x-y)))
 | .mul,k,x,y=>some (.i k (k.wrap (x*y)))
 | .quo,k,x,y=>if y=0 then none else some (.i k (k.wrap (x.tdiv y)))
 | .rem,k,x,y=>if y=0 then none else some (.i k (x.tmod y))
 | .and,k,x,y=>some (.i k (i_ k x y))
 | .or,k,x,y=>some (.i k (v8 k x y))
 | .xor,k,x,y=>some (.i k (ua k x y))
 | .andNot,k,x,y=>some (.i k (uo k x y))
 | .eql,_,x,y=>some (.b (decide (x=y)))
 | .neq,_,x,y=>some (.b (!decide (x=y)))
 | .lss,_,x,y=>some (.b (decide (x<y)))
 | .leq,_,x,y=>some (.b (decide (x≤y)))
 | .gtr,_,x,y=>some (.b (decide (y<x)))
 | .geq,_,x,y=>some (.b (decide (y≤x)))
 | _,_,_,_=>none
noncomputable def Ax{β:Type}(f:β→Option Bool):List β→Option Bool
 | []=>some true
 | i::is=>do if←f i then Ax f is else some false
noncomputable def CN(f:List AV→List AV→Option Bool)(z:Nat):Nat→List AV→List AV→Option Bool
 | 0,_,_=>some true
 | n+1,xs,ys=>do if←f (mK xs z) (mK ys z)then CN f z n (lR xs z) (lR ys z)else some false
noncomputable def EM(T:Tab):Nat→Nat→AV→AV→Option Bool
 | 0,_,_,_=>none
 | d+1,t,x,y=>do
  match←T.nY t,x,y with
  | .bool,.b x,.b y=>some (decide (x=y))
  | .int _,.i k x,.i k' y=>if k=k' then some (decide (x=y))else none
  | .struct fs,.agg n xs,.agg m ys=>if !T.plain t then none else Ax (fun f=>do
    if f.name == "_" then none else
    EM T d f.type (←part T f.type n xs f.offset) (←part T f.type m ys f.offset)) fs.toList
  | .array k e,.agg n xs,.agg m ys=>do
    let z←T.sz e
    bif Nat.beq n (k*z)&&Nat.beq m (k*z)then
     if yf (←T.nY e)then CN (fun a b=>EM T d e (.agg z a) (.agg z b)) z k xs ys
     else Ax (fun i=>do EM T d e (←xe xs (i*z)) (←xe ys (i*z))) (List.range k)
    else none
  | _,_,_=>none
noncomputable def JR(T:Tab)(g:Nat→Option lu)(op:BinOp)(t:Nat):AV→AV→Option AV
 | .i k x,.i k' y =>
  match op with
  | .shl=>if y<0 then none else some (.i k (shl k x y.toNat))
  | .shr=>if y<0 then none else some (.i k (shr k x y.toNat))
  | _=>if k=k' then AQ op k x y else none
 | .s x,.s y=>match op with
  | .eql=>some (.b (decide (x=y)))
  | .neq=>some (.b (!decide (x=y)))
  | _=>none
 | .b x,.b y=>do match op,←T.nY t with
  | .eql,.bool=>some (.b (decide (x=y)))
  | .neq,.bool=>some (.b (!decide (x=y)))
  | _,_=>none
 | .agg n x,.agg m y=>match op with
  | .eql=>if !T.plain t then none else do some (.b (←EM T 20 t (.agg n x) (.agg m y)))
  | .neq=>if !T.plain t then none else do some (.b (!(←EM T 20 t (.agg n x) (.agg m y))))
  | _=>none
 | .nsl,.nsl=>do match op,←T.nY t with
  | .eql,.slice _=>some (.b true)
  | _,_=>none
 | .sl ..,.nsl=>do match op,←T.nY t with
  | .eql,.slice _=>some (.b false)
  | _,_=>none
 | .row n _,.nsl=>do match op,←T.nY t,g n with
  | .eql,.slice _,some (.row _ _ m _)=>if m=0 then none else some (.b false)
  | _,_,_=>none
 | _,_=>none
def asNat:AV→Option Nat
 | .i _ n=>if 0≤n then some n.toNat else none
 | _=>none
abbrev vw:=Nat→Option lu
def ox:List (Nat×Nat×Nat)→Nat
 | []=>0
 | (i,_,_)::r=>i+ox r
def ly(z:Nat):Nat→List (Nat×Nat×Nat)→Option Nat
 | len,[]=>some len
 | len,(i,j,z')::r=>if i≤j∧j≤len∧z' = z then ly z (j-i) r else none
noncomputable def rJ:List (Nat×Nat×Nat)→List AV→List AV
 | [],l=>l
 | (i,j,z)::r,l=>rJ r (mK (lR l (i*z)) ((j-i)*z))
noncomputable def sliceOf(g:vw)(z:Nat):AV→Option (Nat×List AV)
 | .nsl=>some (0,[])
 | .sl n off len cap=>match g n with
  | some (.pt N l _)=>if off+len*z≤N∧len≤cap then some (len,bif Nat.beq off 0&&Nat.beq N (len*z)then l else mK (lR l off) (len*z))else none
  | some (.fz N l _)=>if off+len*z≤N∧len≤cap then some (len,bif Nat.beq off 0&&Nat.beq N (len*z)then l else mK (lR l off) (len*z))else none
  | _=>none
 | .row n cuts=>match g n with
  | some (.row _ z' m l)=>if z' = z then do
    let len←ly z m cuts
    some (len,rJ cuts l)
   else none
  | _=>none
 | _=>none
noncomputable def wq(place:Nat→Option (Nat×Nat))(N:Nat)(cells:List AV):List (Nat×AV)→Option (List AV)
 | []=>some cells
 | (i,v)::rest=>do
  let(off,size)←place i
  if lenOf v≠size∨oY v=false then none else wq place N (←Fa N cells off size (cellsOf v)) rest
noncomputable def tK(F:Fm):List (Nat×Operand)→Option (List (Nat×AV))
 | []=>some []
 | (i,x)::r=>do
  let v←jh F x
  some ((i,v)::(←tK F r))
noncomputable def rD(F:Fm):List Operand→Option (List AV)
 | []=>some []
 | x::r=>do
  let v←jh F x
  some (v::(←rD F r))
noncomputable def zf(F:Fm):Option Operand→Option (Option AV)
 | none=>some none
 | some x=>(jh F x).map some
def nt(k:AV):List (AV×AV×Nat)→Option (Option AV)
 | []=>some none
 | (k',v,_)::r=>match k,k' with
  | .i a x,.i b y=>if a=b then(if x=y then some (some v)else nt k r)else none
  | _,_=>none
def t_(d:Nat):Option AV→Option Nat
 | none=>some d
 | some v=>asNat v
def mapOf(g:vw):AV→Option (List (AV×AV×Nat))
 | .nm=>some []
 | .mp n=>match g n with
  | some (.map es _)=>some es
  | _=>none
 | _=>none
def zr(ok:Bool)(r:Option AV)(z:AV):AV:=match r,ok with
 | some v,true=>.A6 [v,.b true]
 | some v,false=>v
 | none,true=>.A6 [z,.b false]
 | none,false=>z
noncomputable def jo(T:Tab)(g:vw)(F:Fm)(o:Op):Option AV :=
 match o with
 | .move x | .assign x=>jh F x
 | .pick c x y=>do match←jh F c with
  | .b t=>if t then jh F x else jh F y
  | _=>none
 | .binOp op t x y _=>do JR T g op t (←jh F x) (←jh F y)
 | .unOp op _ x=>do match op,←jh F x with
  | .not,.b x=>some (.b (!x))
  | .neg,.i k n=>some (.i k (k.wrap (0-n)))
  | _,_=>none
 | .convert s d x=>do match←T.nY s,←T.nY d,←jh F x with
  | _,.int k,.i _ n=>some (.i k (k.wrap n))
  | .slice e,.string,v=>match←T.nY e with
   | .int .u8=>do
    let l←sliceOf g 1 v
    some (.s (←l.2.mapM fun c=>match c with | .i .u8 n=>if 0≤n∧n<256 then some (UInt8.ofNat n.toNat)else none|_=>none))
   | _=>none
  | _,_,_=>none
 | .fieldAddr t x f=>do match←T.nY t,←jh F x with
  | .struct fs,.p n off=>do
   let f←fs[f]?
   if(←T.sz f.type)=0 then none else some (.p n (off+f.offset))
  | _,_=>none
 | .field t x f=>do match←T.nY t,←jh F x with
  | .struct fs,.agg n cs=>do
   let f←fs[f]?
   part T f.type n cs f.offset
  | _,_=>none
 | .indexAddr t x j=>do
  let i←asNat (←jh F j)
  match←T.nY t,←jh F x with
  | .slice e,.sl n off len _=>do
   let z←T.sz e
   if i<len then some (.p n (off+i*z))else none
  | .slice e,.row n cuts=>do
   let z←T.sz e
   let l←sliceOf g z (.row n cuts)
   if i<l.1 then some (.p n ((ox cuts+i)*z))else none
  | .array len e,.p n off=>do
   let z←T.sz e
   if i<len then some (.p n (off+i*z))else none
  | _,_=>none
 | .index t x j=>do
  let i←asNat (←jh F j)
  match←T.nY t,←jh F x with
  | .array len e,.agg n cs=>do
   let z←T.sz e
   if i<len then part T e n cs (i*z)else none
  | .string,.s l=>do some (.i .u8 ((←l[i]?).toNat))
  | _,_=>none
 | .load t x=>do match←jh F x with
  | .p n off=>match g n with
   | some (.pt n l _)=>part T t n l off
   | some (.row _ z m l)=>part T t (m*z) l off
   | _=>none
  | _=>none
 | .extract x i=>do match←jh F x with
  | .A6 l=>xe l i
  | _=>none
 | .nilCheck x=>do match←jh F x with
  | .p n off=>some (.p n off)
  | .f q a b=>some (.f q a b)
  | _=>none
 | .makeFunc (.func q) fs cs=>do some (.f q (←rD F fs.toList) (←rD F cs.toList))
 | .build t ps=>do
  let vs←tK F ps.toList
  match←T.nY t,←T.zero t with
  | .struct fs,.agg n z=>if !fs.toList.all (fun f=>(T.sz f.type).isSome)then none else do some (.agg n (←wq (fun i=>do
    let f←fs[i]?
    some (f.offset,←T.sz f.type)) n z vs))
  | .array _ e,.agg n z=>do
    let sz←T.sz e
    some (.agg n (←wq (fun i=>some (i*sz,sz)) n z vs))
  | _,_=>none
 | .slice t x lo hi none=>do
  let l←zf F lo
  let r←zf F hi
  let i←t_ 0 l
  match←T.nY t,←jh F x with
  | .slice e,v=>do
   let z←T.sz e
   let l←sliceOf g z v
   let j←t_ l.1 r
   if i≤j∧j≤l.1 then
    match v with
    | .nsl=>some .nsl
    | .sl n off _ cap=>some (.sl n (if cap=i then off else off+i*z) (j-i) (cap-i))
    | .row n cuts=>some (.row n (cuts ++ [(i,j,z)]))
    | _=>none
   else none
  | .array len e,.p n off=>do
   let z←T.sz e
   let j←t_ len r
   if i≤j∧j≤len∧i=0∧0<len then some (.sl n off j len)else none
  | _,_=>none
 | .call { callee:=.builtin b,args:=xs,argTypes:=ts }=>do
  match b,←rD F xs.toList,ts.toList with
  | .len,[v],t::_=>match←T.nY t,v with
   | .string,.s l=>some (.i .i64 l.length)
   | .slice e,v=>do some (.i .i64 (←sliceOf g (←T.sz e) v).1)
   | _,_=>none
  | .min,[.i k x,.i _ y],_=>some (.i k (if y<x then y else x))
  | .max,[.i k x,.i _ y],_=>some (.i k (if y>x then y else x))
  | _,_,_=>none
 | .lookup t x j ok=>do
  let key←jh F j
  match←T.nY t,←jh F x with
  | .map k e,m=>match←T.nY k,mapOf g m,key with
   | .int _,some es,.i _ _=>do
    let r←nt key es
    let z←T.zero e
    some (zr ok r z)
   | _,_,_=>none
  | _,_=>none
 | _=>none
noncomputable def fresh(s:St)(o:lu):Option (Nat×St) :=
 match find s.h s.nx with
 | some _=>none
 | none=>some (s.nx,{ s with h:=upd s.h s.nx o,nx:=s.nx+1 })
noncomputable def wrote(s:St)(n:Nat)(o:lu):St:={ s with h:=upd s.h n o,wr:=bif jw n s.wr then s.wr else n::s.wr }
abbrev ki:=AV→List AV→St→Option (AV×St)
noncomputable def A5(s:St)(n off m:Nat)(cs:List AV):Option St :=
 match find s.h n with
 | some (.pt N l t)=>do some (wrote s n (.pt N (←Fa N l off m cs) t))
 | _=>none
noncomputable def Dx(k v:AV)(clock:Nat)(es:List (AV×AV×Nat)):Option (List (AV×AV×Nat)×Nat):=match k,nt k es with
 | .i _ _,some none=>some (Az es [(k,v,clock)],clock+1)
 | _,_=>none
noncomputable def mU(T:Tab)(call:ki)(s:St)(F:Fm)(o:Op):Option (AV×St) :=
 match o with
 | .alloc e=>do
  let z←T.zero e
  let(n,s)←fresh s (.pt (lenOf z) (cellsOf z) e)
  some (.p n 0,s)
 | .box e x=>do
  let v←jh F x
  if !oY v then none else
  let(n,s)←fresh s (.pt (lenOf v) (cellsOf v) e)
  some (.p n 0,s)
 | .store t x v=>do
  let v←jh F v
  match←jh F x with
  | .p n off=>do
   if lenOf v≠(←T.sz t)∨oY v=false then none else
   some (.nY,←A5 s n off (lenOf v) (cellsOf v))
  | _=>none
 | .buildSlice t len ps=>do match←T.nY t with
  | .slice e=>do
   let sz←T.sz e
   let z←T.zero e
   if len*sz=0∨16777216<len*sz∨lenOf z≠sz then
    (if len=0∧ps.toList.isEmpty=true then do
     let(n,s)←fresh s (.pt 0 [] e)
     some (.sl n 0 0 0,s)
    else none)
   else do
   let cs←wq (fun i=>some (i*sz,sz)) (len*sz) ((List.range len).flatMap fun _=>cellsOf z) (←tK F ps.toList)
   let(n,s)←fresh s (.pt (len*sz) cs e)
   some (.sl n 0 len len,s)
  | _=>none
 | .convert t t' x=>do
  if t≠t' then none else
  match←T.nY t,←jh F x with
  | .slice e,.sl n off len cap=>match←T.nY e,find s.h n with
   | .int .u8,some (.pt N l q)=>some (.sl n off len cap,wrote s n (.fz N l q))
   | _,_=>none
  | _,_=>none
 | .makeMap _ none=>do
  let(n,s)←fresh s (.map [] 0)
  some (.mp n,s)
 | .mapUpdate t m k v=>do match←T.nY t,←jh F m with
  | .map kt _,.mp n=>match←T.nY kt,find s.h n with
   | .int _,some (.map es c)=>do
    let(es,c)←Dx (←jh F k) (←jh F v) c es
    some (.nY,wrote s n (.map es c))
   | _,_=>none
  | _,_=>none
 | .call { callee:=.builtin .append,args:=xs,argTypes:=ts }=>do
  match←rD F xs.toList,ts.toList with
  | [x,y],[t,t']=>if t≠t' then none else match←T.nY t with
   | .slice e=>do
    let z←T.sz e
    let q←sliceOf (find s.h) z y
    if z=0∨1000000<q.1∨T.small e=false then none else
    match x with
    | .nsl=>if q.1=0 then some (.nsl,s)else do
     let(n,s)←fresh s (.row e z q.1 q.2)
     some (.row n [],s)
    | .sl n off len cap =>
     if len+q.1≤cap∨1000000<len then none
     else do
      let p←sliceOf (find s.h) z (.sl n off len cap)
      let(n,s)←fresh s (.row e z (len+q.1) (Az p.2 q.2))
      some (.row n [],s)
    | .row n []=>match find s.h n with
     | some (.row e' z' m l) =>
      if e' = e∧z' = z∧m≤1000000 then do
       let(n',s')←fresh (wrote s n .dead) (.row e z (m+q.1) (Az l q.2))
       some (.row n' [],s')
      else none
     | _=>none
    | _=>none
   | _=>none
  | _,_=>none
 | .call { callee:=.value g,args:=xs,argTypes:=_ }=>do
  call (←jh F g) (←rD F xs.toList) s
 | _=>none
def isVal:Op→Bool
 | .move _ | .assign _ | .pick .. | .binOp .. | .unOp .. | .fieldAddr .. | .field .. | .indexAddr .. | .index .. | .load .. | .extract .. | .nilCheck _ | .makeFunc .. | .build .. | .slice .. | .lookup .. | .convert ..=>true
 | .call { callee:=.builtin .len,.. } | .call { callee:=.builtin .min,.. } | .call { callee:=.builtin .max,.. }=>true
 | _=>false
noncomputable def JU(T:Tab)(call:ki)(s:St)(F:Fm)(o:Op):Option (AV×St):=do
 if isVal o then match jo T (find s.h) F o with
  | some v=>some (v,s)
  | none=>mU T call s F o
 else mU T call s F o
noncomputable def pq(n:Nat)(F:Fm)(d:Option Nat)(v:AV):Option Fm:=match d with
 | some d=>if Nat.blt d n then some (F.set d v)else none
 | none=>some F
noncomputable def su(ops:Array Oper)(F:Fm)(o:Oper):Option Bool:=match o.guard with
 | none=>some true
 | some (j,want)=>match(ops[j]?).bind (·.dst)with
  | some d=>match F.get d with
   | some (.b c)=>some (c==want)
   | some _=>some false
   | none=>none
  | none=>some false
noncomputable def BN(T:Tab)(call:ki)(n:Nat)(ops:Array Oper):List Oper→Fm→St→Option (Fm×St)
 | [],F,s=>some (F,s)
 | o::r,F,s=>do
  if←su ops F o then
   let q←JU T call s F o.op
   force q.1 fun v=>do BN T call n ops r (←pq n F o.dst v) q.2
  else BN T call n ops r (←pq n F o.dst .nY) s
def HM(f:Nat→Nat):lu→lu
 | .pt n l T=>.pt n (r7 f l) T
 | .fz n l T=>.fz n (r7 f l) T
 | .row e z m l=>.row e z m (r7 f l)
 | .map es c=>.map (es.map fun e=>(ren f e.1,ren f e.2.1,e.2.2)) c
 | o=>o
def Om:lu→lu→Bool
 | .pt n l T,.pt n' l' T'=>Nat.beq n n' && Nat.beq T T' && uf l l'
 | .fz n l T,.fz n' l' T'=>Nat.beq n n' && Nat.beq T T' && uf l l'
 | .row e z m l,.row e' z' m' l'=>Nat.beq e e' && Nat.beq z z' && Nat.beq m m' && uf l l'
 | .map es c,.map es' c'=>Nat.beq c c' && uf (es.map (·.1)) (es'.map (·.1))&&uf (es.map (·.2.1)) (es'.map (·.2.1))&&decide (es.map (·.2.2)=es'.map (·.2.2))
 | .dead,.dead=>true
 | .defd a,.defd b=>a==b
 | .loop a c,.loop a' c'=>decide (a=a')&&decide (c=c')
 | _,_=>false
def HE:AV→List Nat
 | .p n _=>[n]
 | .sl n _ _ _=>[n]
 | .row n _=>[n]
 | .mp n=>[n]
 | _=>[]
def zy(p:Nat→Bool):List Nat→Option Nat
 | []=>none
 | i::r=>bif p i then some i else zy p r
abbrev Log:=List (Nat×Nat×Nat)
def Bl(l l':Log)(n:Nat):Nat:=match l with
 | []=>n
 | (e,a,b)::r=>bif Nat.ble a n&&Nat.blt n b then(match l'.find? (fun q=>Nat.beq q.1 e)with
   | some (_,a',_)=>a' + (n-a)
   | none=>n)else Bl r l' n
def AU(zu:Nat)(l l':Log)(n:Nat):Nat:=bif Nat.blt n zu then n else Bl l l' n
noncomputable def yg(n zu:Nat)(f:Nat→Nat)(F:Fm)(s:St)(F':Fm)(s':St):Bool :=
 Nat.beq s.nx s'.nx&&decide (s.cj=s'.cj) &&
 ((List.range (s.nx-zu)).all fun m=>Nat.ble zu (f (zu+m))&&Nat.blt (f (zu+m)) s.nx) &&
 od ((List.range (s.nx-zu)).map fun m=>f (zu+m)) &&
 ((List.range n).all fun t=>match F.get t,F'.get t with
  | some v,some v'=>yc (ren f v) v'
  | none,none=>true
  | _,_=>false) &&
 (s.wr.all fun m=>jw m s'.wr||Nat.ble zu m)&&(s'.wr.all fun m=>jw m s.wr||Nat.ble zu m) &&
 ((s.wr.filter (Nat.blt · zu)++(List.range (s.nx-zu)).map (zu + ·)).all fun m=>match find s.h m,find s'.h (f m)with
  | some o,some o'=>Om (HM f o) o'
  | none,_=>true
  | _,_=>false)
def isReady(ops:Array Oper)(T:List Nat)(i:Nat):Bool:=!jw i T&&(iu ops i).all (jw · T)
def F3(ops:Array Oper):List Nat:=(List.range ops.size).foldl (fun acc i=>acc ++ [(iu ops i).foldl (fun m p=>m ||| 2^p ||| acc.getD p 0) 0]) []
def Gf(ops:Array Oper)(T:List Nat)(e:Nat):Bool:=T.all fun j=>((F3 ops).getD e 0).testBit j
noncomputable def lF(F:Fm)(x:Operand)(acc:List Nat):List Nat:=match jh F x with
 | some v=>(HE v).foldl (fun acc n=>bif jw n acc then acc else n::acc) acc
 | none=>acc
noncomputable def ny(F:Fm)(o:Op)(acc:List Nat):List Nat:=match o with
 | .load _ x=>lF F x acc
 | .binOp _ _ x _ _=>(match jh F x with
  | some (.row _ _)=>lF F x acc
  | _=>acc)
 | .lookup _ x _ _=>lF F x acc
 | .convert _ _ x=>lF F x acc
 | .slice _ x _ _ _=>(match jh F x with
  | some (.p _ _)=>acc
  | _=>lF F x acc)
 | .indexAddr _ x _=>(match jh F x with
  | some (.p _ _)=>acc
  | _=>lF F x acc)
 | .call c=>c.args.toList.foldl (fun acc x=>lF F x acc) acc
 | _=>acc
noncomputable def wz(rd:List Nat)(h:Heap):vw:=fun n=>bif jw n rd then find h n else none
def wj(i:Nat):List Nat→List Nat
 | []=>[]
 | j::r=>bif Nat.beq i j then r else j::wj i r
def AL(ops:Array Oper)(D:List Nat)(e nx:Nat)(rd wr:List Nat):Option (List Nat) :=
 if Gf ops D e then some []else if wr.all (fun m=>Nat.ble nx m || !jw m rd)then some rd else none
abbrev vr:=List Nat→List Nat→Fm→List Nat→St→Log→Option (Fm×St×Log)
noncomputable def xp(T:Tab)(call:ki)(n:Nat)(ops:Array Oper)(next:vr)(R D:List Nat)(F:Fm)(rd:List Nat)(s:St)(lg:Log)(e:Nat):Option (Fm×St×Log):=do
 let o←ops[e]?
 if mf o&&su ops F o==some true then
  let q←JU T call { s with wr:=[] } F o.op
  let EC←AL ops D e s.nx rd q.2.wr
  force q.1 fun v=>do next (wj e R) (e::D) (←pq n F o.dst v) EC { q.2 with wr:=q.2.wr++s.wr } ((e,s.nx,q.2.nx)::lg)
 else none
noncomputable def CY(T:Tab)(n:Nat)(ops:Array Oper)(next:vr)(R D:List Nat)(F:Fm)(rd:List Nat)(s:St)(lg:Log)(i:Nat):Option (Fm×St×Log):=do
 let o←ops[i]?
 if←su ops F o then
  let v←jo T (wz (ny F o.op rd) s.h) F o.op
  force v fun v=>do next (wj i R) (i::D) (←pq n F o.dst v) (ny F o.op rd) s lg
 else next (wj i R) (i::D) (←pq n F o.dst .nY) rd s lg
noncomputable def Mc(ops:Array Oper)(F:Fm)(D R:List Nat):Option Nat :=
 zy (fun i=>(match ops[i]? with|some o=>(bif isVal o.op then true else su ops F o==some false)|none=>false)&&Dy ops D i) R
noncomputable def pR(T:Tab)(call:ki)(n:Nat)(ops:Array Oper):Nat→vr
 | 0,_,_,_,_,_,_=>none
 | k+1,R,D,F,rd,s,lg =>
  match R with
  | []=>if vl ops D then some (F,s,lg)else none
  | _::_ =>
  match Mc ops F D R with
  | some i=>CY T n ops (pR T call n ops k) R D F rd s lg i
  | none =>
   match R.filter (isReady ops D)with
   | []=>none
   | e::es=>do
    let r←xp T call n ops (pR T call n ops k) R D F rd s lg e
    if blk ops D (e::es)&&es.all (fun e'=>match xp T call n ops (pR T call n ops k) R D F rd s lg e' with
     | some r'=>yg n s.nx (AU s.nx r.2.2 r'.2.2) r.1 r.2.1 r'.1 r'.2.1
     | none=>false)then some r else none
noncomputable def Aw(T:Tab)(call:ki)(n:Nat)(ops:Array Oper)(F:Fm)(s:St):Option (Fm×St):=do
 if chk ops then
  let r←pR T call n ops (ops.size+1) (List.range ops.size) [] F [] s []
  some (r.1,r.2.1)
 else none
inductive AX where
 | n
 | x (id:Nat)
 | r
deriving DecidableEq
def isFn:AV→Bool
 | .f _ _ _=>true
 | _=>false
def zg(body:Fm→St→Option (AX×Fm×St)):Nat→Fm→St→Option (AX×Fm×St)
 | 0,_,_=>none
 | k+1,F,s=>do
  let q←body F s
  match q.1 with
  | .n=>zg body k q.2.1 q.2.2
  | _=>some q
def J0:Option (Option Nat)→AX
 | none=>.n
 | some none=>.r
 | some (some id)=>.x id
def qc:AX→Option (Option Nat)
 | .n=>none
 | .r=>some none
 | .x id=>some (some id)
noncomputable def wm(s:St)(l:Nat):Option (AX×St):=match find s.h l with
 | some (.loop st pd)=>match st with
  | .busy=>none
  | _=>some (J0 pd,wrote s l .dead)
 | _=>none
noncomputable def ky(T:Tab)(call:Env→ki)(env:Env)(fn n:Nat)(inRound:Bool)(fuel:Nat):Code→Fm→St→Option (AX×Fm×St)
 | .skip,F,s=>some (.n,F,s)
 | .region _ ops draw,F,s=>if draw then(Aw T (call env) n ops F s).map fun q=>(.n,q.1,q.2)else(BN T (call env) n ops ops.toList F s).map fun q=>(.n,q.1,q.2)
 | .seq a b,F,s=>do
  let q←ky T call env fn n inRound fuel a F s
  match q.1 with
  | .n=>ky T call env fn n inRound fuel b q.2.1 q.2.2
  | _=>some q
 | .cond c x y,F,s=>do match←jh F c with
  | .b true=>ky T call env fn n inRound fuel x F s
  | .b false=>ky T call env fn n inRound fuel y F s
  | _=>none
 | .block id c,F,s=>do
  let q←ky T call env fn n inRound fuel c F s
  some (if q.1 = .x id then .n else q.1,q.2.1,q.2.2)
 | .loop c,F,s=>zg (ky T call env fn n inRound fuel c) fuel F s
 | .exit id,F,s=>some (.x id,F,s)
 | .ret,F,s=>some (.r,F,s)
 | .rangeFunc g ps a b,F,s=>if inRound then none else do
  let gv←jh F g
  if isFn gv=false then none else
  let(d,s)←fresh s (.defd false)
  let(l,s)←fresh s (.loop .ready none)
  let q←call ((l,⟨fn,n,F,ps.toList,a,b,d⟩)::env) gv [.y l] { s with cj:=d::s.cj }
  let(e,s)←wm q.2 l
  some (e,F,s)
 | _,_,_=>none
noncomputable def nX:List Nat→St→Option St
 | [],s=>some s
 | d::r,s=>match find s.h d with
  | some (.defd false)=>nX r (wrote s d (.defd true))
  | _=>none
noncomputable def zh(T:Tab)(s:St)(F:Fm):List ResultVar→Option (List AV)
 | []=>some []
 | .tmp t::r=>do some ((←F.get t)::(←zh T s F r))
 | .cell t ty::r=>do match←F.get t with
  | .p n off=>match find s.h n with
   | some (.pt n l _)=>do some ((←part T ty n l off)::(←zh T s F r))
   | _=>none
  | _=>none
noncomputable def wU(n:Nat):List Nat→List AV→Fm→Option Fm
 | [],[],F=>some F
 | p::ps,v::vs,F=>if Nat.blt p n then wU n ps vs (F.set p v)else none
 | _,_,_=>none
noncomputable def qh:Nat→Nat→List AV→Fm
 | 0,_,_=>.e
 | n+1,i,[]=>(qh n (i+1) []).set i .nY
 | n+1,i,v::vs=>(qh n (i+1) vs).set i v
def resV:List AV→AV
 | [v]=>v
 | vs=>.A6 vs
noncomputable def qg(T:Tab)(fuel:Nat):Nat→Env→ki
 | 0,_,_,_,_=>none
 | k+1,env,g,args,s=>match g with
  | .f g fs cs=>do
   let(n,rs,body)←T.fn g
   let vs:=fs++args++cs
   if n<vs.length then none else
   let q←ky T (qg T fuel k) env g n false fuel body (qh n 0 vs) { s with cj:=[] }
   match q.1 with
   | .x _=>none
   | _=>do
    let s' ←nX q.2.2.cj q.2.2
    let r←zh T s' q.2.1 rs
    some (resV r,{ s' with cj:=s.cj,wr:=s'.wr.filter (Nat.blt · s.nx) })
  | .y l=>do
   let I←iq env l
   match find s.h l with
   | some (.loop .ready _)=>do
    let F←wU I.n I.ps args I.tm
    let q←ky T (qg T fuel k) env I.fn I.n true fuel I.IL F { s with cj:=[] }
    match q.1,find q.2.2.h l with
    | .n,some (.loop .ready pd)=>do
     let q' ←ky T (qg T fuel k) env I.fn I.n true fuel I.body q.2.1 (wrote q.2.2 l (.loop .busy pd))
     match find q'.2.2.h l with
     | some (.loop _ _) =>
      some (.b (qc q'.1).isNone,{ wrote q'.2.2 l (.loop (if(qc q'.1).isNone then .ready else .done) (qc q'.1))with cj:=s.cj })
     | _=>none
    | _,_=>none
   | _=>none
  | _=>none
def D9:Option TypeInfo→Bool
 | some i=>Nat.ble i.bytes 1000000&&(match i.zero with
  | some v=>Nat.beq v.cells.size i.size
  | none=>false)
 | none=>false
noncomputable def gd(p:Program):Tab where
 small:=fun t=>D9 (p.info? t)
 nY:=fun t=>p.underlying t
 sz:=fun t=>(p.info? t).map (·.size)
 zero:=fun t=>((p.info? t).bind (·.zero)).bind Je
 plain:=fun t=>!p.eqGuardType p.depth t && !p.stoodInHeld t
 fn:=fun f=>(p.funcs[f]?).bind fun fn=>if fn.name == "runtime.NumGoroutine" then none else fn.body.map fun b=>(fn.ntmps,fn.results.toList,b)
end Go.Ev
end
section
namespace Go.Ev
open Go.Fw
theorem wI{α:Type}(l:List α):∀ k,xe l k=l[k]?:=by
 induction l with
 | nil=>intro k;simp[xe]
 | cons x l ih =>
  intro k
  have e:xe (x::l) k=(bif Nat.beq k 0 then some x else xe l (k-1)):=rfl
  rw[e]
  cases k with
  | zero=>rfl
  | succ k=>show xe l k=l[k]?; exact ih k
theorem rY{α:Type}(l:List α):∀ k,lR l k=l.drop k:=by
 induction l with
 | nil=>intro k;simp[lR]
 | cons x l ih =>
  intro k
  have e:lR (x::l) k=(bif Nat.beq k 0 then x::l else lR l (k-1)):=rfl
  rw[e]
  cases k with
  | zero=>rfl
  | succ k=>show lR l k=l.drop k;exact ih k
theorem sW{α:Type}(l:List α):∀ k,mK l k=l.take k:=by
 induction l with
 | nil=>intro k;simp[mK]
 | cons x l ih =>
  intro k
  have e:mK (x::l) k=(bif Nat.beq k 0 then []else x::mK l (k-1)):=rfl
  rw[e]
  cases k with
  | zero=>rfl
  | succ k=>show x::mK l k=x::l.take k;rw[ih k]
theorem zW{α:Type}(l m:List α):Az l m=l++m:=by
 induction l with
 | nil=>rfl
 | cons x l ih =>
  have e:Az (x::l) m=x::Az l m:=rfl
  rw[e,ih];rfl
theorem YP{α:Type}(l:List α):E7 l=l.length:=by
 induction l with
 | nil=>rfl
 | cons x l ih =>
  have e:E7 (x::l)=E7 l+1:=rfl
  rw[e,ih];rfl
theorem XA{α:Type}(vs:List α):∀ l:List α,vs.length≤l.length→zx vs l=vs++l.drop vs.length:=by
 induction vs with
 | nil=>intro l _;rfl
 | cons v vs ih =>
  intro l hl
  have e:zx (v::vs) l=v::zx vs l.tail:=rfl
  rw[e]
  cases l with
  | nil=>simp at hl
  | cons x l=>rw[List.tail_cons,ih l (by simpa using hl)];simp
theorem Y0{α:Type}(l:List α)(vs:List α):∀ k,k+vs.length≤l.length→Fb l k vs=put l k vs:=by
 induction l with
 | nil =>
  intro k h
  simp only[acu]at h
  have h1:k=0:=adr
  have h2:vs = []:=abd adr
  subst h1 h2;rfl
 | cons x l ih =>
  intro k h
  have e:Fb (x::l) k vs=(bif Nat.beq k 0 then zx vs (x::l)else x::Fb l (k-1) vs):=rfl
  rw[e]
  cases k with
  | zero =>
   simp only[acr]at h
   have:Nat.beq 0 0=true:=rfl
   rw[this,abA,XA vs (x::l) h];simp[put]
  | succ k =>
   simp only[abN]at h
   have:Nat.beq (k+1) 0=false:=rfl
   rw[this,abC,ab8,ih k adr]
   simp only[put,acF,aad]
   congr 2
   rw[show k+1+vs.length=(k+vs.length)+1 by omega];simp
section
variable {α:Type}
theorem Tr.get_e(k:Nat):(Tr.e:Tr α).get k=none:=rfl
theorem xH{β:Type}(a b:Nat)(x y:β):(bif Nat.beq a b then x else y)=if a=b then x else y:=by
 cases h:Nat.beq a b with
 | true=>rw[aaJ (aac h)];rfl
 | false=>rw[aaK (fun e=>by subst e;simp at h)];rfl
theorem Tr.get_n(v:Option α)(l r:Tr α)(k:Nat):(Tr.n v l r).get k=if k=0 then v else if k%2=1 then l.get (k/2)else r.get (k/2-1):=by
 rw[←xH,←xH];rfl
theorem Tr.set_e(k:Nat)(x:α):(Tr.e:Tr α).set k x=Tr.path 20 k x:=rfl
theorem Tr.set_n(v:Option α)(l r:Tr α)(k:Nat)(x:α):(Tr.n v l r).set k x=if k=0 then .n (some x) l r else if k%2=1 then .n v (l.set (k/2) x) r else .n v l (r.set (k/2-1) x):=by
 rw[←xH,←xH];rfl
theorem Tr.path_s(d k:Nat)(x:α):Tr.path (d+1) k x=if k=0 then .n (some x) .e .e else if k%2=1 then .n none (Tr.path d (k/2) x) .e else .n none .e (Tr.path d (k/2-1) x):=by
 rw[←xH,←xH];rfl
theorem Tr.get_path(d:Nat):∀ (k m:Nat) (x:α),(m≠k→(Tr.path d k x).get m=none)∧(∀ y,(Tr.path d k x).get k=some y→y=x):=by
 induction d with
 | zero=>intro k m x;exact⟨fun _=>rfl,fun y h=>by simp[Tr.path,Tr.get_e]at h⟩
 | succ d ih =>
  intro k m x
  rw[Tr.path_s]
  by_cases hk:k=0
  ·simp only[aaJ hk,Tr.get_n,Tr.get_e]
   refine⟨fun h=>?_,fun y h=>by simpa using h.symm⟩
   rw[aaK adr];simp
  ·by_cases h2:k%2=1
   ·simp only[aaK hk,aaJ h2,Tr.get_n,Tr.get_e]
    refine⟨fun h=>?_,fun y h=>(ih (k/2) 0 x).2 y h⟩
    by_cases hm:m=0
    ·rw[aaJ hm]
    ·rw[aaK hm]
     by_cases yK:m%2=1
     ·rw[aaJ yK];exact(ih _ _ x).1 adr
     ·rw[aaK yK]
   ·simp only[aaK hk,aaK h2,Tr.get_n,Tr.get_e]
    refine⟨fun h=>?_,fun y h=>(ih (k/2-1) 0 x).2 y h⟩
    by_cases hm:m=0
    ·rw[aaJ hm]
    ·rw[aaK hm]
     by_cases yK:m%2=1
     ·rw[aaJ yK]
     ·rw[aaK yK];exact(ih _ _ x).1 adr
theorem Tr.get_set(t:Tr α):∀ (k m:Nat) (x:α),(m≠k→(t.set k x).get m=t.get m)∧(∀ y,(t.set k x).get k=some y→y=x):=by
 induction t with
 | e=>intro k m x;rw[Tr.set_e];exact⟨fun h=>(Tr.get_path 20 k m x).1 h,(Tr.get_path 20 k m x).2⟩
 | n v l r Ja NN =>
  intro k m x
  rw[Tr.set_n]
  by_cases hk:k=0
  ·simp only[aaJ hk,Tr.get_n]
   refine⟨fun h=>?_,fun y h=>by simpa using h.symm⟩
   have hm:¬ m=0:=adr
   rw[aaK hm,aaK hm]
  ·by_cases h2:k%2=1
   ·simp only[aaK hk,aaJ h2,Tr.get_n]
    refine⟨fun h=>?_,fun y h=>(Ja (k/2) 0 x).2 y h⟩
    by_cases hm:m=0
    ·rw[aaJ hm,aaJ hm]
    ·rw[aaK hm,aaK hm]
     by_cases yK:m%2=1
     ·rw[aaJ yK,aaJ yK];exact(Ja _ _ x).1 adr
     ·rw[aaK yK,aaK yK]
   ·simp only[aaK hk,aaK h2,Tr.get_n]
    refine⟨fun h=>?_,fun y h=>(NN (k/2-1) 0 x).2 y h⟩
    by_cases hm:m=0
    ·rw[aaJ hm,aaJ hm]
    ·rw[aaK hm,aaK hm]
     by_cases yK:m%2=1
     ·rw[aaJ yK,aaJ yK]
     ·rw[aaK yK,aaK yK];exact(NN _ _ x).1 adr
theorem Tr.set_other{t:Tr α}{k m:Nat}{x:α}(h:m≠k):(t.set k x).get m=t.get m:=(Tr.get_set t k m x).1 h
theorem Tr.set_some{t:Tr α}{k m:Nat}{x y:α}(h:(t.set k x).get m=some y):(m=k∧y=x)∨(m≠k∧t.get m=some y):=by
 by_cases hm:m=k
 ·subst hm;exact .inl ⟨rfl,(Tr.get_set t m 0 x).2 y h⟩
 ·exact .inr ⟨hm,by rw[←Tr.set_other hm];exact h⟩
end
mutual
def ig(ρ:Nat→SV):AV→Value
 | .b x=>.bool x
 | .i k n=>.int k n
 | .s l=>.string ⟨l.toArray⟩
 | .np=>.pointer none
 | .nsl=>.slice none 0 0
 | .nf=>.nilFunc
 | .nm=>.map none
 | .nY=>undef
 | .p n off=>.pointer (some ⟨(ρ n).blk,off,none⟩)
 | .sl n off len cap=>.slice (some ⟨(ρ n).blk,off,none⟩) len cap
 | .row n cuts=>(cuts.foldl (fun s c=>s.cut c.1 c.2.1 c.2.2) (ρ n)).v
 | .mp n=>.map (some (ρ n).blk)
 | .f g fs cs=>.func (.func g) (mZ ρ fs).toArray (mZ ρ cs).toArray
 | .y n=>.func (.yield (ρ n).blk) #[] #[]
 | .agg _ l=>.agg (mZ ρ l).toArray
 | .A6 l=>.tuple (mZ ρ l).toArray
def mZ(ρ:Nat→SV):List AV→List Value
 | []=>[]
 | v::r=>ig ρ v::mZ ρ r
end
theorem fD(ρ:Nat→SV)(l:List AV):mZ ρ l=l.map (ig ρ):=by
 induction l with
 | nil=>simp[mZ]
 | cons v l ih=>simp[mZ,ih]
mutual
def jz(k:Nat):AV→Prop
 | .p n _=>n<k
 | .sl n _ _ _=>n<k
 | .row n _=>n<k
 | .mp n=>n<k
 | .y n=>n<k
 | .f _ a c=>qy k a∧qy k c
 | .agg n l=>l.length=n∧(∀ v∈l,qn v=true)∧qy k l
 | .A6 l=>qy k l
 | _=>True
def qy(k:Nat):List AV→Prop
 | []=>True
 | v::r=>jz k v∧qy k r
end
theorem mO{k:Nat}{l:List AV}:qy k l ↔ ∀ v∈l,jz k v:=by
 induction l with
 | nil=>simp[qy]
 | cons v l ih=>simp[qy,ih]
theorem gF{k n:Nat}{l:List AV}:jz k (.agg n l)↔l.length=n∧(∀ v∈l,qn v=true) ∧ ∀ v∈l,jz k v:=by
 simp only[jz,mO]
mutual
theorem jF{k k':Nat}(h:k≤k'):∀ v,jz k v→jz k' v
 | .p n _,q=>by simp only[jz]at *; omega
 | .sl n _ _ _,q=>by simp only[jz]at *; omega
 | .row n _,q=>by simp only[jz]at *; omega
 | .mp n,q=>by simp only[jz]at *; omega
 | .y n,q=>by simp only[jz]at *; omega
 | .f _ a c,q=>by simp only[jz]at *; exact⟨pG h a q.1,pG h c q.2⟩
 | .agg n l,q=>by simp only[jz]at *; exact⟨q.1,q.2.1,pG h l q.2.2⟩
 | .A6 l,q=>by simp only[jz]at *; exact pG h l q
 | .b _,_=>trivial
 | .i _ _,_=>trivial
 | .s _,_=>trivial
 | .np,_=>trivial
 | .nsl,_=>trivial
 | .nf,_=>trivial
 | .nm,_=>trivial
 | .nY,_=>trivial
theorem pG{k k':Nat}(h:k≤k'):∀ l,qy k l→qy k' l
 | [],_=>trivial
 | v::r,q=>by simp only[qy]at *; exact⟨jF h v q.1,pG h r q.2⟩
end
mutual
theorem RR{k:Nat}{ρ Nu:Nat→SV}(h:∀ n,n<k→ρ n=Nu n):∀ v,jz k v→ig ρ v=ig Nu v
 | .p n _,q=>by simp only[jz]at q;simp only[ig,h n q]
 | .sl n _ _ _,q=>by simp only[jz]at q;simp only[ig,h n q]
 | .row n _,q=>by simp only[jz]at q;simp only[ig,h n q]
 | .mp n,q=>by simp only[jz]at q;simp only[ig,h n q]
 | .y n,q=>by simp only[jz]at q;simp only[ig,h n q]
 | .f _ a c,q=>by simp only[jz]at q;simp only[ig,nR h a q.1,nR h c q.2]
 | .agg n l,q=>by simp only[jz]at q;simp only[ig,nR h l q.2.2]
 | .A6 l,q=>by simp only[jz]at q;simp only[ig,nR h l q]
 | .b _,_=>rfl
 | .i _ _,_=>rfl
 | .s _,_=>rfl
 | .np,_=>rfl
 | .nsl,_=>rfl
 | .nf,_=>rfl
 | .nm,_=>rfl
 | .nY,_=>rfl
theorem nR{k:Nat}{ρ Nu:Nat→SV}(h:∀ n,n<k→ρ n=Nu n):∀ l,qy k l→mZ ρ l=mZ Nu l
 | [],_=>rfl
 | v::r,q=>by simp only[qy]at q;simp only[mZ,RR h v q.1,nR h r q.2]
end
mutual
theorem SU(ρ:Nat→SV)(f:Nat→Nat):∀ v,ig ρ (ren f v)=ig (fun n=>ρ (f n)) v
 | .f _ a c=>by simp only[ren,ig,sA ρ f a,sA ρ f c]
 | .agg n l=>by simp only[ren,ig,sA ρ f l]
 | .A6 l=>by simp only[ren,ig,sA ρ f l]
 | .p n _=>rfl
 | .sl n _ _ _=>rfl
 | .row n _=>rfl
 | .mp n=>rfl
 | .y n=>rfl
 | .b _=>rfl
 | .i _ _=>rfl
 | .s _=>rfl
 | .np=>rfl
 | .nsl=>rfl
 | .nf=>rfl
 | .nm=>rfl
 | .nY=>rfl
theorem sA(ρ:Nat→SV)(f:Nat→Nat):∀ l,mZ ρ (r7 f l)=mZ (fun n=>ρ (f n)) l
 | []=>rfl
 | v::r=>by simp only[r7,mZ,SU ρ f v,sA ρ f r]
end
mutual
theorem Tf:∀ x y,yc x y=true→x=y
 | .b x,y,h=>by cases y<;>simp[yc]at h;simp[h]
 | .i k x,y,h=>by cases y<;>simp[yc]at h;simp[h]
 | .s x,y,h=>by cases y<;>simp[yc]at h;simp[h]
 | .np,y,h=>by cases y<;>simp[yc]at h;rfl
 | .nsl,y,h=>by cases y<;>simp[yc]at h;rfl
 | .nf,y,h=>by cases y<;>simp[yc]at h;rfl
 | .nm,y,h=>by cases y<;>simp[yc]at h;rfl
 | .nY,y,h=>by cases y<;>simp[yc]at h;rfl
 | .p n o,y,h=>by cases y<;>simp[yc]at h;simp[h]
 | .sl n o l c,y,h=>by cases y<;>simp[yc]at h;simp[h]
 | .row n c,y,h=>by cases y<;>simp[yc]at h;simp[h]
 | .mp n,y,h=>by cases y<;>simp[yc]at h;simp[h]
 | .y n,y,h=>by cases y<;>simp[yc]at h;simp[h]
 | .f g a c,y,h=>by
  cases y<;>simp[yc]at h
  rw[h.1.1,mC a _ h.1.2,mC c _ h.2]
 | .agg n l,y,h=>by
  cases y<;>simp[yc]at h
  rw[h.1,mC l _ h.2]
 | .A6 l,y,h=>by
  cases y<;>simp[yc]at h
  rw[mC l _ h]
theorem mC:∀ l m,uf l m=true→l=m
 | [],m,h=>by cases m<;>simp[uf]at h;rfl
 | x::l,m,h=>by
  cases m<;>simp[uf]at h
  rw[Tf x _ h.1,mC l _ h.2]
end
theorem NW{β:Type}(v:AV)(k:AV→β):force v k=k v:=by
 have hn:∀ {γ:Type} (n:Nat) (q:Nat→γ),wt n q=q n:=fun n q=>by cases n<;>rfl
 cases v<;>simp only[force,CZ]
 case b x=>cases x<;>rfl
 case i q n=>cases n<;>simp only[hn]
 case p n off=>simp only[hn]
theorem Tm{v:Value}{u:AV}(h:Jd v=some u)(ρ:Nat→SV)(k:Nat):ig ρ u=v∧jz k u∧qn u=true:=by
 cases v<;>simp only[Jd]at h<;>try (cases h;done)
 case bool b=>cases h;exact⟨rfl,trivial,rfl⟩
 case int q n=>cases h;exact⟨rfl,trivial,rfl⟩
 case string s=>cases h;exact⟨by simp[ig],trivial,rfl⟩
 case pointer a=>cases a<;>simp at h;cases h;exact⟨rfl,trivial,rfl⟩
 case slice a l c => 
  cases a with
  | some a=>simp at h
  | none=>cases l<;>cases c<;>simp at h;cases h;exact⟨rfl,trivial,rfl⟩
 case map r=>cases r<;>simp at h;cases h;exact⟨rfl,trivial,rfl⟩
 case nilFunc=>cases h;exact⟨rfl,trivial,rfl⟩
theorem XM{l:List Value}{us:List AV}(h:l.mapM Jd=some us)(ρ:Nat→SV)(k:Nat):us.map (ig ρ)=l∧(∀ u∈us,jz k u) ∧ ∀ u∈us,qn u=true:=by
 induction l generalizing us with
 | nil=>simp at h;subst h;simp
 | cons v l ih =>
  simp only[aaM,Option.pure_def,ac1,acT]at h
  obtain⟨u,hu,us',AO,h⟩:=h
  cases h
  obtain⟨h1,h2,h3⟩:=Tm hu ρ k
  obtain⟨h4,h5,h6⟩:=ih AO
  exact⟨by simp[h1,h4],by simp[h2];exact h5,by simp[h3];exact h6⟩
theorem IJ{v:Value}{u:AV}(h:Je v=some u)(ρ:Nat→SV)(k:Nat):ig ρ u=v∧jz k u∧oY u=true:=by
 have key:∀ w:Value,Jd w=some u→ig ρ u=w∧jz k u∧oY u=true:=fun w hw=>by
  obtain⟨h1,h2,h3⟩:=Tm hw ρ k
  exact⟨h1,h2,by cases u<;>first|rfl|exact h3⟩
 cases v<;>simp only[Je]at h<;>first|exact key _ h|skip
 rename_i cs
 simp only[aaI]at h
 obtain⟨l,hl,rfl⟩:=h
 obtain⟨h1,h2,h3⟩:=XM hl ρ k
 exact⟨by simp[ig,fD,h1],gF.2 ⟨(YP l).symm,h3,h2⟩,rfl⟩
theorem jB(ρ:Nat→SV)(v:AV):(ig ρ v).cells=((cellsOf v).map (ig ρ)).toArray:=by
 cases v<;>simp[ig,cellsOf,Value.cells,fD,undef]
theorem NY{k:Nat}{v:AV}(h:jz k v):(cellsOf v).length=lenOf v:=by
 cases v<;>first|rfl|exact(gF.1 h).1
theorem Js{k:Nat}{v:AV}(h:jz k v)(hc:oY v=true):(∀ u∈cellsOf v,qn u=true) ∧ ∀ u∈cellsOf v,jz k u:=by
 cases v
 case agg n l=>exact⟨(gF.1 h).2.1,(gF.1 h).2.2⟩
 all_goals exact⟨fun u hu=>(ac2.1 hu) ▸ hc,fun u hu=>(ac2.1 hu) ▸ h⟩
theorem Iq{ρ:Nat→SV}{v:AV}(h:qn v=true):(ig ρ v).oneCell' = true:=by
 cases v<;>first|rfl|cases h
end Go.Ev
end
section
namespace Go.Ev
open Go.Fw
structure Ip where
 sv:Nat→SV
 arr:Nat→Array Value
 fn:Nat→Nat
abbrev Ip.g(I:Ip):AV→Value:=ig I.sv
def oe:Option (Option Nat)→Option Code
 | none=>none
 | some none=>some .ret
 | some (some id)=>some (.exit id)
def nc(I:Ip)(n:Nat)(L:vu)(st:LoopState)(pd:Option (Option Nat)):Obj :=
 .loop { state:=st,pending:=oe pd,fn:=I.fn n,tmps:=I.arr n,params:=L.ps.toArray,assign:=L.IL,body:=L.body,defers:=(I.sv L.d).blk }
def Eo:dw:=.gen (fun _=>False) (fun _=>True)
def res(I:Ip)(env:Env)(lo n:Nat):lu→dw
 | .pt _ l T=>.obj (I.sv n).blk (.cells (l.map I.g).toArray T (0,0))
 | .fz N l T=>.obj (I.sv n).blk (.cells (l.map I.g).toArray T (N,N+1))
 | .row e z m l=>.row lo (I.sv n).v e z m (l.map I.g)
 | .map es c=>.obj (I.sv n).blk (.map (es.map fun e=>(⟨I.g e.1,I.g e.2.1,e.2.2⟩ : MapEntry)).toArray c)
 | .loop st pd=>match iq env n with
  | some L=>.obj (I.sv n).blk (nc I n L st pd)
  | none=>Eo
 | .defd t=>.obj (I.sv n).blk (.deferred (if t then none else some []))
 | .dead=>Eo
def okO(k:Nat):lu→Prop
 | .pt n l _=>l.length=n∧(∀ v∈l,qn v=true) ∧ ∀ v∈l,jz k v
 | .fz n l _=>l.length=n∧(∀ v∈l,qn v=true) ∧ ∀ v∈l,jz k v
 | .row _ z m l=>l.length=m*z∧0<z∧(∀ v∈l,qn v=true) ∧ ∀ v∈l,jz k v
 | .map es _=>∀ e∈es,jz k e.1∧jz k e.2.1
 | _=>True
structure GK(I:Ip)(env:Env)(lo k:Nat)(w:World)(g:vw):Prop where
 holds:∀ n o,g n=some o→(res I env lo n o).holds w
 ok:∀ n o,g n=some o→okO k o∧n<k
structure FR(I:Ip)(k n:Nat)(F:Fm)(a:Act)(dd:List Deferred):Prop where
 defers:a.defers=dd
 size:a.tmps.size=n
 get:∀ t v,F.get t=some v→t<n∧jz k v∧a.tmps[t]? = some (I.g v)
section
variable {I:Ip}{env:Env}{lo k n:Nat}{w:World}{g:vw}{F:Fm}{a:Act}{dd:List Deferred}{P:Program}
theorem FR.eval(h:FR I k n F a dd){x:Operand}{v:AV}(hx:jh F x=some v):a.eval x=I.g v∧jz k v:=by
 cases x with
 | tmp t =>
  obtain⟨h1,h2,h3⟩:=h.get t v hx
  exact⟨by simp[Act.eval,aae,h3],h2⟩
 | const u =>
  obtain⟨h1,h2,_⟩:=IJ hx I.sv k
  exact⟨h1.symm,h2⟩
 | func f =>
  simp only[jh,adq]at hx
  subst hx
  exact⟨by simp[Act.eval,ig,mZ],by simp[jz,qy]⟩
 | global q=>simp[jh]at hx
theorem FR.evals(h:FR I k n F a dd){xs:List Operand}{vs:List AV}(hx:rD F xs=some vs):xs.map a.eval=vs.map I.g ∧ ∀ v∈vs,jz k v:=by
 induction xs generalizing vs with
 | nil=>simp[rD]at hx;subst hx;simp
 | cons x xs ih =>
  simp only[rD,ac1,acT]at hx
  obtain⟨v,hv,us,AO,hx⟩:=hx
  cases hx
  obtain⟨h1,h2⟩:=h.eval hv
  obtain⟨h3,h4⟩:=ih AO
  exact⟨by simp[h1,h3],by simpa[h2]using h4⟩
theorem FR.set(h:FR I k n F a dd){d:Nat}(hd:d<n){v:AV}(hv:jz k v):FR I k n (F.set d v) (a.put (some d) (I.g v)) dd:=by
 refine⟨h.defers,by simp[Act.put,h.size],fun t u hu=>?_⟩
 rcases Tr.set_some hu with⟨rfl,rfl⟩|⟨hne,hu⟩
 ·exact⟨hd,hv,by simp[Act.put,h.size,hd]⟩
 ·obtain⟨h1,h2,h3⟩:=h.get t u hu
  have PO:¬ d=t:=fun e=>hne e.symm
  exact⟨h1,h2,by simp[Act.put,PO,h3]⟩
theorem FR.pq(h:FR I k n F a dd){d:Option Nat}{v:AV}{F':Fm}(hs:pq n F d v=some F')(hv:jz k v):FR I k n F' (a.put d (I.g v)) dd:=by
 cases d with
 | none=>simp only[Ev.pq]at hs;cases hs;exact h
 | some d =>
  simp only[Ev.pq]at hs
  split at hs
  ·cases hs;exact h.set (di (by assumption)) hv
  ·cases hs
theorem FR.want(h:FR I k n F a dd){ops:Array Oper}{o:Oper}{b:Bool}(hw:su ops F o=some b):Region.wanted o (yielded ops a.tmps)=b:=by
 unfold Region.wanted
 unfold su at hw
 cases hg:o.guard with
 | none=>simp only[hg]at hw;cases hw;rfl
 | some p =>
  obtain⟨j,want⟩:=p
  simp only[hg]at hw
  simp only[yielded]
  cases hd:(ops[j]?).bind (·.dst)with
  | none=>simp only[hd]at hw;cases hw;simp
  | some d =>
   simp only[hd]at hw
   cases hv:F.get d with
   | none=>simp[hv]at hw
   | some v =>
    obtain⟨_,_,h3⟩:=h.get d v hv
    simp only[hv]at hw
    simp only[aaS,h3]
    cases v<;>simp[ig,undef]at hw ⊢ <;> exact hw
theorem vM{t:Nat}{d:TypeDesc}(h:P.underlying t=some d)(w:World):(isAgg t).run P w = .ok (yf d) w:=by
 simp only[isAgg,Sem.run_bind,run_underlying h,Result.andThen_ok]
 cases d<;>rfl
theorem fO{t m:Nat}(h:(P.info? t).map (·.size)=some m)(w:World):(sizeOf t).run P w = .ok m w:=by
 obtain⟨i,hi,rfl⟩:=aaI.1 h
 simp[sizeOf,typeInfo,hi]
theorem lG{t:Nat}{z:AV}(h:((P.info? t).bind (·.zero)).bind Je=some z)(I:Ip)(k:Nat)(w:World):(zeroValue t).run P w = .ok (I.g z) w∧jz k z∧oY z=true:=by
 obtain⟨v,hv,hz⟩:=acT.1 h
 obtain⟨i,hi,hv⟩:=acT.1 hv
 obtain⟨h1,h2,h3⟩:=IJ hz I.sv k
 exact⟨by simp[zeroValue,typeInfo,hi,hv,Ip.g,h1],h2,h3⟩
theorem yM{l:List AV}{off m N:Nat}(hN:l.length=N)(h:Nat.ble (off+m) N=true):(mK (lR l off) m).length=m:=by
 have:=di h
 rw[sW,rY];simp;omega
theorem pY{l:List AV}{off m:Nat}{v:AV}(h:v∈mK (lR l off) m):v∈l:=by
 rw[sW,rY]at h;exact ac3 (ab9 h)
theorem Xi{l:List AV}{i:Nat}{v:AV}(h:xe l i=some v):v∈l:=by
 rw[wI]at h;exact abb h
theorem nE{t N off:Nat}{l:List AV}{v:AV}(h:Ev.part (gd P) t N l off=some v)(hN:l.length=N)(h1:∀ u∈l,qn u=true)(hk:∀ u∈l,jz k u):jz k v∧oY v=true:=by
 simp only[Ev.part,gd,ac1,acT]at h
 obtain⟨d,hd,h⟩:=h
 split at h
 ·obtain⟨m,hm,h⟩:=acT.1 h
  cases hb:(Nat.beq off 0&&Nat.beq m N)with
  | true=>simp only[hb,abA,adq]at h;subst h;exact⟨gF.2 ⟨hN,h1,hk⟩,rfl⟩
  | false =>
   simp only[hb,abC]at h
   cases hc:Nat.ble (off+m) N with
   | true=>simp only[hc,abA,adq]at h;subst h;exact⟨gF.2 ⟨yM hN hc,fun u hu=>h1 u (pY hu),fun u hu=>hk u (pY hu)⟩,rfl⟩
   | false=>simp[hc]at h
 ·have hm:=Xi h
  exact⟨hk v hm,by have:=h1 v hm;cases v<;>first|exact this|rfl⟩
theorem tJ(f:AV→Value)(l:List AV)(off m:Nat):(mK (lR l off) m).map f=((l.map f).drop off).take m:=by
 rw[sW,rY,ab5,ac4]
theorem R1{t N off b base:Nat}{l:List AV}{v:AV}(h:Ev.part (gd P) t N l off=some v)(hN:l.length=N)(hc:jj w b base (l.map I.g)):(loadVar t ⟨b,base+off,none⟩).run P w = .ok (I.g v) w:=by
 simp only[Ev.part,gd,ac1,acT]at h
 obtain⟨d,hd,h⟩:=h
 have ha:=vM hd w
 split at h
 ·rename_i hag
  obtain⟨m,hm,h⟩:=acT.1 h
  have hs:=fO hm w
  cases hb:(Nat.beq off 0&&Nat.beq m N)with
  | true =>
   simp only[hb,abA,adq]at h;subst h
   simp only[aaB,aaQ]at hb
   obtain⟨rfl,rfl⟩:=hb
   have:=Fw.run_loadCells (P:=P) w b base (l.map I.g) hc
   simp only[abM,hN]at this
   simp[loadVar,ha,hag,hs,this,ig,fD]
  | false =>
   simp only[hb,abC]at h
   cases hx:Nat.ble (off+m) N with
   | true =>
    simp only[hx,abA,adq]at h;subst h
    have hle:=di hx
    have hc':jj w b (base+off) ((mK (lR l off) m).map I.g):=hc.sub off m (by rw[tJ];rfl)
    have:=Fw.run_loadCells (P:=P) w b (base+off) _ hc'
    simp only[abM,yM hN hx]at this
    simp[loadVar,ha,hag,hs,this,ig,fD]
   | false=>simp[hx]at h
 ·rename_i hag
  rw[wI]at h
  have:=hc off (I.g v) (by rw[aby,h];rfl)
  simp[loadVar,ha,hag,this]
theorem tP{t N off:Nat}{l:List AV}{v:AV}(h:Ev.part (gd P) t N l off=some v)(hN:l.length=N):(Go.part t (l.map I.g).toArray off).run P w = .ok (I.g v) w:=by
 simp only[Ev.part,gd,ac1,acT]at h
 obtain⟨d,hd,h⟩:=h
 have ha:=vM hd w
 split at h
 ·rename_i hag
  obtain⟨m,hm,h⟩:=acT.1 h
  have hs:=fO hm w
  cases hb:(Nat.beq off 0&&Nat.beq m N)with
  | true =>
   simp only[hb,abA,adq]at h;subst h
   simp only[aaB,aaQ]at hb
   obtain⟨rfl,rfl⟩:=hb
   simp[Go.part,ha,hag,hs,ig,fD,List.extract]
   exact acn (by simp[hN])
  | false =>
   simp only[hb,abC]at h
   cases hx:Nat.ble (off+m) N with
   | true =>
    simp only[hx,abA,adq]at h;subst h
    simp[Go.part,ha,hag,hs,ig,fD,tJ,List.extract]
   | false=>simp[hx]at h
 ·rename_i hag
  rw[wI]at h
  simp[Go.part,ha,hag,h]
theorem DC{lo e z m:Nat}{s:SV}{xs:List Value}(h:w.ownsRow lo e z s.v m xs):jj w s.blk 0 xs:=by
 rcases h.2 with⟨h1,h2⟩|⟨q,cap,cur,h1,h3,h4,h5,h6,h7,h8⟩
 ·have:xs = []:=abd (by rw[h.1,h2,acj])
  subst this;intro j v hv;simp at hv
 ·obtain⟨sa,sl,sc⟩:=s
  cases h1
  intro j v hv
  rw[←h8,aaG]at hv
  split at hv
  ·simp only[acr,SV.blk,World.cell?,h4];simpa using hv
  ·cases hv
theorem GK.cellsP(h:GK I env lo k w g){m N T:Nat}{l:List AV}(hg:g m=some (.pt N l T)):jj w (I.sv m).blk 0 (l.map I.g):=oW (n:=(l.map I.g).length) (h.holds m _ hg) (cD rfl)
theorem GK.cellsF(h:GK I env lo k w g){m N T:Nat}{l:List AV}(hg:g m=some (.fz N l T)):jj w (I.sv m).blk 0 (l.map I.g):=oW (n:=(l.map I.g).length) (h.holds m _ hg) (cD rfl)
theorem GK.cellsR(h:GK I env lo k w g){m e z c:Nat}{l:List AV}(hg:g m=some (.row e z c l)):jj w (I.sv m).blk 0 (l.map I.g):=DC (h.holds m _ hg)
end
end Go.Ev
end
section
namespace Go.Ev
open Go.Fw
structure CB(w:World)(s:SV)(ln z:Nat)(xs:List Value):Prop where
 len:s.len=ln
 room:s.len≤s.cap
 n:xs.length=ln*z
 cells:match s.a with
  | none=>ln=0∧s.cap=0
  | some ad=>ad.spot=none∧jj w ad.block ad.off xs
theorem CB.cut{w:World}{s:SV}{len z i j:Nat}{xs:List Value}(h:CB w s len z xs)(hij:i≤j)(hj:j≤len):CB w (s.cut i j z) (j-i) z ((xs.drop (i*z)).take ((j-i)*z)):=by
 have hl:=h.len
 have hr:=h.room
 have hc:=h.cells
 have hn:=h.n
 have e1:i*z+(j-i)*z≤len*z:=by rw[←aci];exact acs _ adr
 refine⟨rfl,by simp only[SV.cut];omega,by simp;omega,?_⟩
 obtain⟨sa,sl,sc⟩:=s
 simp only at hl hr
 subst hl
 by_cases h0:sc-i=0
 ·simp only[SV.cut,aaJ h0]
  have hd:(xs.drop (i*z)).take ((j-i)*z) = []:=by rw[show j-i=0 by omega];simp
  cases sa with
  | none=>exact⟨adr,h0⟩
  | some ad=>exact⟨hc.1,by rw[hd];intro k v hv;simp at hv⟩
 ·simp only[SV.cut,aaK h0]
  cases sa with
  | none=>exact⟨by simp at hc;omega,by simp at hc;omega⟩
  | some ad =>
   obtain⟨b,off,sp⟩:=ad
   obtain⟨h1,h2⟩:=hc
   simp only at h1;subst h1
   simp only[aaU,dY]
   exact⟨trivial,h2.sub (i*z) ((j-i)*z) rfl⟩
theorem WV{w:World}{z:Nat}:∀ (cuts:List (Nat×Nat×Nat)) {s:SV} {len r:Nat} {l:List AV} {ρ:Nat→SV},ly z len cuts=some r→CB w s len z (l.map (ig ρ)) →
  CB w (cuts.foldl (fun s c=>s.cut c.1 c.2.1 c.2.2) s) r z ((rJ cuts l).map (ig ρ))∧(∀ v∈rJ cuts l,v∈l):=by
 intro cuts
 induction cuts with
 | nil=>intro s len r l ρ h hs;simp only[ly,adq]at h;subst h;exact⟨hs,fun v hv=>hv⟩
 | cons c cuts ih =>
  intro s len r l ρ h hs
  obtain⟨i,j,z'⟩:=c
  simp only[ly]at h
  split at h
  ·rename_i hc
   obtain⟨h1,h2,rfl⟩:=hc
   have hs':=hs.cut h1 h2
   rw[←tJ]at hs'
   obtain⟨h3,h4⟩:=ih h hs'
   exact⟨h3,fun v hv=>pY (h4 v hv)⟩
  ·cases h
theorem Xt{z b:Nat}:∀ (cuts:List (Nat×Nat×Nat)) {s:SV} {len r off:Nat},ly z len cuts=some r→0<r→s.a=some ⟨b,off,none⟩→len≤s.cap →
  ((cuts.foldl (fun s c=>s.cut c.1 c.2.1 c.2.2) s)).a=some ⟨b,off+ox cuts*z,none⟩:=by
 intro cuts
 induction cuts with
 | nil=>intro s len r off _ _ h _;simpa[ox]using h
 | cons c cuts ih =>
  intro s len r off h hr hs hc
  obtain⟨i,j,z'⟩:=c
  simp only[ly]at h
  split at h
  ·rename_i hq
   obtain⟨h1,h2,rfl⟩:=hq
   have mono:∀ (q:List (Nat×Nat×Nat)) (l:Nat),ly z' l q=some r→r≤l:=by
    intro q
    induction q with
    | nil=>intro l h;simp[ly]at h;omega
    | cons c q ih =>
     intro l h
     obtain⟨i,j,z⟩:=c
     simp only[ly]at h
     split at h
     ·have:=ih _ h;omega
     ·cases h
   have hm:=mono _ _ h
   have h0:¬ s.cap-i=0:=adr
   have:=ih (s:=s.cut i j z') h hr (off:=off+i*z') (by simp[SV.cut,h0,hs,dY]) (by simp only[SV.cut];omega)
   simp only[acE,this,ox,aci,abj]
  ·cases h
section
variable {I:Ip}{env:Env}{lo k n:Nat}{w:World}{g:vw}{F:Fm}{a:Act}{dd:List Deferred}{P:Program}
theorem YW{lo e z m:Nat}{s:SV}{xs:List Value}(h:w.ownsRow lo e z s.v m xs):CB w s m z xs:=by
 rcases h.2 with⟨h1,h2⟩|⟨q,cap,cur,h1,h3,h4,h5,h6,h7,h8⟩
 ·obtain⟨sa,sl,sc⟩:=s
  cases h1
  exact⟨h2.symm,aah _,h.1,h2,rfl⟩
 ·have hc:=DC h
  obtain⟨sa,sl,sc⟩:=s
  cases h1
  exact⟨rfl,h5,h.1,rfl,hc⟩
theorem mA(hg:GK I env lo k w g){z:Nat}{v:AV}{q:Nat×List AV}(h:sliceOf g z v=some q):∃ s:SV,I.g v=s.v∧CB w s q.1 z (q.2.map I.g)∧(∀ u∈q.2,qn u=true) ∧ ∀ u∈q.2,jz k u:=by
 cases v<;>simp only[sliceOf]at h<;>try (cases h;done)
 case nsl=>cases h;exact⟨SV.nil,rfl,⟨rfl,aah _,by simp,rfl,rfl⟩,by simp,by simp⟩
 case sl m off len cap =>
  have fin:∀ {N:Nat} {l:List AV},l.length=N→(∀ u∈l,qn u=true)→(∀ u∈l,jz k u)→jj w (I.sv m).blk 0 (l.map I.g)→off+len*z≤N∧len≤cap →
    q=(len,bif Nat.beq off 0&&Nat.beq N (len*z)then l else mK (lR l off) (len*z)) →
    ∃ s:SV,I.g (.sl m off len cap)=s.v∧CB w s q.1 z (q.2.map I.g)∧(∀ u∈q.2,qn u=true) ∧ ∀ u∈q.2,jz k u:=by
   intro N l h1 h2 h3 hc hle e
   subst e
   refine⟨⟨some ⟨(I.sv m).blk,off,none⟩,len,cap⟩,rfl,?_,?_⟩
   ·cases hb:(Nat.beq off 0&&Nat.beq N (len*z))with
    | true =>
     simp only[aaB,aaQ]at hb
     obtain⟨rfl,rfl⟩:=hb
     simp only[abA]
     exact⟨rfl,hle.2,by simp[h1],rfl,hc⟩
    | false =>
     simp only[abC]
     refine⟨rfl,hle.2,by rw[abM];exact yM h1 (by rw[Nat.ble_eq];exact hle.1),rfl,?_⟩
     have:=hc.sub off (len*z) (us:=(mK (lR l off) (len*z)).map I.g) (by rw[tJ];rfl)
     simpa using this
   ·cases hb:(Nat.beq off 0&&Nat.beq N (len*z))with
    | true=>exact⟨h2,h3⟩
    | false=>exact⟨fun u hu=>h2 u (pY hu),fun u hu=>h3 u (pY hu)⟩
  cases ho:g m with
  | none=>simp[ho]at h
  | some o =>
   cases o<;>simp only[ho]at h<;>try (cases h;done)
   case pt N l T =>
    split at h
    ·rename_i hle
     obtain⟨⟨h1,h2,h3⟩,h4⟩:=hg.ok m _ ho
     exact fin h1 h2 h3 (hg.cellsP ho) hle (adp h).symm
    ·cases h
   case fz N l T =>
    split at h
    ·rename_i hle
     obtain⟨⟨h1,h2,h3⟩,h4⟩:=hg.ok m _ ho
     exact fin h1 h2 h3 (hg.cellsF ho) hle (adp h).symm
    ·cases h
 case row m cuts =>
  cases ho:g m with
  | none=>simp[ho]at h
  | some o =>
   cases o<;>simp only[ho]at h<;>try (cases h;done)
   rename_i e z' c l
   split at h
   ·rename_i hz
    subst hz
    simp only[ac1,acT,adq]at h
    obtain⟨len,hl,rfl⟩:=h
    obtain⟨⟨h1,h0,h2,h3⟩,h4⟩:=hg.ok m _ ho
    have ug:w.ownsRow lo e z' (I.sv m).v c (l.map I.g):=hg.holds m _ ho
    obtain⟨h5,h6⟩:=WV cuts hl (YW ug)
    exact⟨_,rfl,h5,fun u hu=>h2 u (h6 u hu),fun u hu=>h3 u (h6 u hu)⟩
   ·cases h
theorem X7(hg:GK I env lo k w g){z m i:Nat}{cuts:List (Nat×Nat×Nat)}{q:Nat×List AV}(h:sliceOf g z (.row m cuts)=some q)(hi:i<q.1) :
  ∃ cap,I.g (.row m cuts) = .slice (some ⟨(I.sv m).blk,ox cuts*z,none⟩) q.1 cap:=by
 obtain⟨s,hs,hsl,_⟩:=mA hg h
 simp only[sliceOf]at h
 cases ho:g m with
 | none=>simp[ho]at h
 | some o =>
  cases o<;>simp only[ho]at h<;>try (cases h;done)
  rename_i e z' c l
  split at h
  ·rename_i hz
   subst hz
   simp only[ac1,acT,adq]at h
   obtain⟨len,hl,rfl⟩:=h
   have ug:w.ownsRow lo e z' (I.sv m).v c (l.map I.g):=hg.holds m _ ho
   have hpos:0<len:=by simp only at hi;omega
   have hc:0<c:=by
    have mono:∀ (q:List (Nat×Nat×Nat)) (l:Nat),ly z' l q=some len→len≤l:=by
     intro q
     induction q with
     | nil=>intro l h;simp[ly]at h;omega
     | cons c q ih =>
      intro l h
      obtain⟨i,j,z⟩:=c
      simp only[ly]at h
      split at h
      ·have:=ih _ h;omega
      ·cases h
    have:=mono _ _ hl;omega
   rcases ug.2 with⟨h1,h2⟩|⟨b,cap,cur,h1,h3,h4,h5,_⟩
   ·omega
   ·have PZ:I.sv m=⟨some ⟨b,0,none⟩,c,cap⟩:=by
     cases hx:I.sv m;rw[hx]at h1;cases h1;rfl
    have ha:=Xt cuts (s:=I.sv m) (b:=b) (off:=0) hl hpos (by rw[PZ]) (by rw[PZ];exact h5)
    have hl':=hsl.len
    have hb:(I.sv m).blk=b:=by rw[PZ];rfl
    refine⟨s.cap,?_⟩
    have EA:s=cuts.foldl (fun s c=>s.cut c.1 c.2.1 c.2.2) (I.sv m):=by
     have:s.v=(cuts.foldl (fun s c=>s.cut c.1 c.2.1 c.2.2) (I.sv m)).v:=hs.symm.trans rfl
     obtain⟨x,y,z⟩:=s
     generalize (cuts.foldl (fun s c=>s.cut c.1 c.2.1 c.2.2) (I.sv m))=t at this
     obtain⟨x',y',z'⟩:=t
     cases this;rfl
    rw[hs,hb]
    have ha':s.a=some ⟨b,0+ox cuts*z',none⟩:=by rw[EA];exact ha
    obtain⟨x,y,zz⟩:=s
    simp only at ha' hl'
    subst ha' hl'
    simp
  ·cases h
abbrev Good(P:Program)(I:Ip)(k:Nat)(w:World)(a:Act)(o:Oper)(v:AV):Prop:=(execOp a.eval o).run P w = .ok (.value (I.g v)) w∧jz k v
theorem ZG(hF:FR I k n F a dd){o:Oper}{x:Operand}{v:AV}(ho:o.op = .move x)(h:jh F x=some v):Good P I k w a o v:=by
 obtain⟨h1,h2⟩:=hF.eval h
 exact⟨by simp[execOp,ho,h1],h2⟩
theorem XZ(hF:FR I k n F a dd){o:Oper}{x:Operand}{v:AV}(ho:o.op = .assign x)(h:jh F x=some v):Good P I k w a o v:=by
 obtain⟨h1,h2⟩:=hF.eval h
 exact⟨by simp[execOp,ho,h1],h2⟩
theorem ZH(hF:FR I k n F a dd){o:Oper}{c x y:Operand}{v:AV}(ho:o.op = .pick c x y)(h:jo (gd P) g F o.op=some v):Good P I k w a o v:=by
 rw[ho]at h
 simp only[jo,ac1,acT]at h
 obtain⟨u,hu,h⟩:=h
 obtain⟨h1,h2⟩:=hF.eval hu
 cases u<;>simp only at h<;>try (cases h;done)
 rename_i b
 cases b
 ·simp only[abQ,if_false]at h
  obtain⟨h3,h4⟩:=hF.eval h
  exact⟨by simp[execOp,ho,h1,ig,asBool,h3],h4⟩
 ·simp only[if_true]at h
  obtain⟨h3,h4⟩:=hF.eval h
  exact⟨by simp[execOp,ho,h1,ig,asBool,h3],h4⟩
theorem ZI(hF:FR I k n F a dd){o:Oper}{q:UnOp}{t:Nat}{x:Operand}{v:AV}(ho:o.op = .unOp q t x)(h:jo (gd P) g F o.op=some v):Good P I k w a o v:=by
 rw[ho]at h
 simp only[jo,ac1,acT]at h
 obtain⟨u,hu,h⟩:=h
 obtain⟨h1,h2⟩:=hF.eval hu
 cases q<;>cases u<;>simp only at h<;>try (cases h;done)
 ·cases h;exact⟨by simp[execOp,ho,h1,ig,Op.unary,Op.intArith],trivial⟩
 ·cases h;exact⟨by simp[execOp,ho,h1,ig,Op.unary],trivial⟩
theorem W1(hF:FR I k n F a dd){o:Oper}{i:Nat}{x:Operand}{v:AV}(ho:o.op = .extract x i)(h:jo (gd P) g F o.op=some v):Good P I k w a o v:=by
 rw[ho]at h
 simp only[jo,ac1,acT]at h
 obtain⟨u,hu,h⟩:=h
 obtain⟨h1,h2⟩:=hF.eval hu
 cases u<;>simp only at h<;>try (cases h;done)
 rename_i l
 rw[wI]at h
 refine⟨?_,mO.1 h2 v (abb h)⟩
 simp[execOp,ho,h1,ig,fD,Instr.extract,h]
theorem Wm(hF:FR I k n F a dd){o:Oper}{x:Operand}{v:AV}(ho:o.op = .nilCheck x)(h:jo (gd P) g F o.op=some v):Good P I k w a o v:=by
 rw[ho]at h
 simp only[jo,ac1,acT]at h
 obtain⟨u,hu,h⟩:=h
 obtain⟨h1,h2⟩:=hF.eval hu
 cases u<;>simp only at h<;>try (cases h;done)
 ·cases h;exact⟨by simp[execOp,ho,h1,ig],h2⟩
 ·cases h;exact⟨by simp[execOp,ho,h1,ig],h2⟩
theorem Wj(hF:FR I k n F a dd){o:Oper}{q:Fn}{fs cs:Array Operand}{v:AV}(ho:o.op = .makeFunc q fs cs)(h:jo (gd P) g F o.op=some v):Good P I k w a o v:=by
 rw[ho]at h
 cases q<;>simp only[jo]at h<;>try (cases h;done)
 simp only[ac1,acT,adq]at h
 obtain⟨x,hx,y,hy,rfl⟩:=h
 obtain⟨h1,h2⟩:=hF.evals hx
 obtain⟨h3,h4⟩:=hF.evals hy
 refine⟨?_,by simp only[jz,mO];exact⟨h2,h4⟩⟩
 have e1:fs.map a.eval=(x.map I.g).toArray:=by rw[←h1,←acd,acK]
 have e2:cs.map a.eval=(y.map I.g).toArray:=by rw[←h3,←acd,acK]
 simp[execOp,ho,Instr.makeFunc,e1,e2,ig,fD]
theorem ZF(hg:GK I env lo k w g)(hF:FR I k n F a dd){o:Oper}{t:Nat}{x:Operand}{v:AV}(ho:o.op = .load t x)(h:jo (gd P) g F o.op=some v):Good P I k w a o v:=by
 rw[ho]at h
 simp only[jo,ac1,acT]at h
 obtain⟨u,hu,h⟩:=h
 obtain⟨h1,h2⟩:=hF.eval hu
 cases u<;>simp only at h<;>try (cases h;done)
 rename_i m off
 have fin:∀ {N:Nat} {l:List AV},Ev.part (gd P) t N l off=some v→l.length=N→(∀ u∈l,qn u=true)→(∀ u∈l,jz k u)→jj w (I.sv m).blk 0 (l.map I.g)→Good P I k w a o v:=by
  intro N l hp hN h3 h4 hc
  have:=R1 (P:=P) hp hN hc
  rw[acr]at this
  refine⟨?_,(nE hp hN h3 h4).1⟩
  simp[execOp,ho,h1,ig,Instr.loadAt,Instr.sureAddr,this]
 cases hq:g m with
 | none=>simp[hq]at h
 | some ob =>
  cases ob<;>simp only[hq]at h<;>try (cases h;done)
  ·obtain⟨⟨q1,q2,q3⟩,_⟩:=hg.ok m _ hq
   exact fin h q1 q2 q3 (hg.cellsP hq)
  ·obtain⟨⟨q1,_,q2,q3⟩,_⟩:=hg.ok m _ hq
   exact fin h q1 q2 q3 (hg.cellsR hq)
theorem JG(hF:FR I k n F a dd){o:Oper}{t f:Nat}{x:Operand}{v:AV}(ho:o.op = .fieldAddr t x f)(h:jo (gd P) g F o.op=some v):Good P I k w a o v:=by
 rw[ho]at h
 simp only[jo,gd,ac1,acT]at h
 obtain⟨d,hd,u,hu,h⟩:=h
 obtain⟨h1,h2⟩:=hF.eval hu
 cases d<;>cases u<;>simp only at h<;>try (cases h;done)
 rename_i fs m off
 obtain⟨fl,hf,h⟩:=acT.1 h
 obtain⟨z,hz,h⟩:=acT.1 h
 split at h
 ·cases h
 ·rename_i hz0
  cases h
  obtain⟨i,hi,rfl⟩:=aaI.1 hz
  refine⟨?_,h2⟩
  simp[execOp,ho,h1,ig,Instr.fieldAt,run_underlying hd,hf,Instr.sureAddr,fieldPlace,sizeOf,typeInfo,hi,hz0,dY]
theorem Za(hF:FR I k n F a dd){o:Oper}{t f:Nat}{x:Operand}{v:AV}(ho:o.op = .field t x f)(h:jo (gd P) g F o.op=some v):Good P I k w a o v:=by
 rw[ho]at h
 simp only[jo,ac1,acT]at h
 obtain⟨d,hd,u,hu,h⟩:=h
 obtain⟨h1,h2⟩:=hF.eval hu
 cases d<;>cases u<;>simp only at h<;>try (cases h;done)
 rename_i fs m l
 obtain⟨fl,hf,h⟩:=acT.1 h
 obtain⟨q1,q2,q3⟩:=gF.1 h2
 refine⟨?_,(nE h q1 q2 q3).1⟩
 have:=tP (P:=P) (w:=w) (I:=I) h q1
 simp[execOp,ho,h1,ig,fD,Instr.field,run_underlying (P:=P) (show P.underlying t=_ from hd),hf,asAgg,this]
end
end Go.Ev
end
section
namespace Go.Ev
open Go.Fw
section
variable {I:Ip}{env:Env}{lo k n:Nat}{w:World}{g:vw}{F:Fm}{a:Act}{dd:List Deferred}{P:Program}
theorem N1{v:AV}{i:Nat}(h:asNat v=some i):∃ q,I.g v = .int q (i:Int):=by
 cases v<;>simp only[asNat]at h<;>try (cases h;done)
 rename_i q m
 split at h
 ·cases h;exact⟨q,by simp only[ig,Ip.g];congr 1;omega⟩
 ·cases h
theorem JH(hg:GK I env lo k w g)(hF:FR I k n F a dd){o:Oper}{t:Nat}{x y:Operand}{v:AV}(ho:o.op = .indexAddr t x y)(h:jo (gd P) g F o.op=some v):Good P I k w a o v:=by
 rw[ho]at h
 simp only[jo,ac1,acT]at h
 obtain⟨u,hu,i,hi,d,(hd:P.underlying t=some d),ux,hx,h⟩:=h
 obtain⟨h1,h2⟩:=hF.eval hu
 obtain⟨h3,h4⟩:=hF.eval hx
 obtain⟨q,hq⟩:=N1 (I:=I) hi
 have fin:∀ {base ln e z:Nat} {ad:Addr} {off':Nat},P.underlying t=some (.slice e)→(P.info? e).map (·.size)=some z→(∃ cap,I.g ux = .slice (some ad) ln cap)→i<ln→ad.add (i*z)=⟨(I.sv base).blk,off',none⟩→base<k →
   Good P I k w a o (.p base off'):=by
  intro base ln e z ad off' hd hz ⟨cap,hs⟩ hlt had hb
  refine⟨?_,hb⟩
  have yN:=fO (P:=P) hz w
  have xg:(0:Int)≤(i:Int)∧(i:Int)<(ln:Int):=adr
  simp[execOp,ho,h1,h3,hq,hs,Instr.indexAt,asIntOf,run_underlying hd,hlt,yN,had,ig]
 cases d<;>cases ux<;>simp only at h<;>try (cases h;done)
 case array.p len e m off =>
  obtain⟨z,hz,h⟩:=acT.1 h
  split at h
  ·rename_i hlt
   cases h
   refine⟨?_,h4⟩
   have yN:=fO (P:=P) hz w
   have xg:(0:Int)≤(i:Int)∧(i:Int)<(len:Int):=adr
   simp[execOp,ho,h1,h3,hq,ig,Instr.indexAt,asIntOf,run_underlying hd,Instr.sureAddr,hlt,yN,dY]
  ·cases h
 case slice.sl e m off len cap =>
  obtain⟨z,hz,h⟩:=acT.1 h
  split at h
  ·rename_i hlt
   cases h
   exact fin (ad:=⟨(I.sv m).blk,off,none⟩) hd hz ⟨cap,rfl⟩ hlt (dY _ _ _) h4
  ·cases h
 case slice.row e m cuts =>
  obtain⟨z,hz,h⟩:=acT.1 h
  obtain⟨l,hl,h⟩:=acT.1 h
  split at h
  ·rename_i hlt
   cases h
   exact fin (ad:=⟨(I.sv m).blk,ox cuts*z,none⟩) hd hz (X7 hg hl hlt) hlt (by rw[dY,aci]) h4
  ·cases h
theorem Zb(hF:FR I k n F a dd){o:Oper}{t:Nat}{x y:Operand}{v:AV}(ho:o.op = .index t x y)(h:jo (gd P) g F o.op=some v):Good P I k w a o v:=by
 rw[ho]at h
 simp only[jo,ac1,acT]at h
 obtain⟨u,hu,i,hi,d,(hd:P.underlying t=some d),ux,hx,h⟩:=h
 obtain⟨h1,h2⟩:=hF.eval hu
 obtain⟨h3,h4⟩:=hF.eval hx
 obtain⟨q,hq⟩:=N1 (I:=I) hi
 cases d<;>cases ux<;>simp only at h<;>try (cases h;done)
 case string.s l =>
  obtain⟨b,hb,h⟩:=acT.1 h
  cases h
  refine⟨?_,trivial⟩
  have:(⟨l.toArray⟩ : ByteArray)[i]? = some b:=by
   have:=aaz.1 hb
   obtain⟨hlt,hb⟩:=this
   rw[getElem?_pos (⟨l.toArray⟩ : ByteArray) i (by show i<l.toArray.size;simpa using hlt)]
   exact congrArg some hb
  simp[execOp,ho,h1,h3,hq,ig,Instr.index,asIntOf,run_underlying hd,this]
 case array.agg len e m l =>
  obtain⟨z,hz,h⟩:=acT.1 h
  split at h
  ·rename_i hlt
   obtain⟨q1,q2,q3⟩:=gF.1 h4
   refine⟨?_,(nE h q1 q2 q3).1⟩
   have yN:=fO (P:=P) hz w
   have xg:(0:Int)≤(i:Int)∧(i:Int)<(len:Int):=adr
   have hp:=tP (P:=P) (w:=w) (I:=I) h q1
   simp[execOp,ho,h1,h3,hq,ig,fD,Instr.index,asIntOf,run_underlying hd,hlt,yN,hp]
  ·cases h
theorem YR{l:List AV}{r:List UInt8}(h:(l.mapM fun c=>match c with | .i .u8 n=>if 0≤n∧n<256 then some (UInt8.ofNat n.toNat)else none|_=>none)=some r):l=r.map fun b=>AV.i .u8 (b.toNat:Int):=by
 induction l generalizing r with
 | nil=>simp at h;subst h;rfl
 | cons x l ih =>
  simp only[aaM,Option.pure_def,ac1,acT]at h
  obtain⟨u,hu,us,AO,h⟩:=h
  cases h
  have h1:=ih AO
  cases x<;>(try simp only at hu)<;>try (cases hu;done)
  rename_i q m
  cases q<;>(try simp only at hu)<;>try (cases hu;done)
  split at hu
  ·rename_i hm
   cases hu
   have:((UInt8.ofNat m.toNat).toNat:Int)=m:=by rw[UInt8.toNat_ofNat'];omega
   rw[h1,abp,this]
  ·cases hu
theorem Vy{s:SV}{t t' e:Nat}{r:List UInt8}(hs:CB w s r.length 1 (r.map fun b=>Value.int .u8 (b.toNat:Int)))(h1:P.underlying t=some (.slice e))(h2:P.underlying e=some (.int .u8))(h3:P.underlying t' = some .string) :
  (convert t t' s.v).run P w = .ok (.string ⟨r.toArray⟩) w:=by
 have hl:=hs.len
 have hc:=hs.cells
 obtain⟨sa,sl,sc⟩:=s
 simp only at hl;subst hl
 cases sa with
 | none =>
  have:r = []:=abd hc.1
  subst this
  rw[show SV.v ⟨none,([]:List UInt8).length,sc⟩ = .slice none 0 sc from rfl,run_convert_bytes_string w t t' e none 0 sc h1 h2 h3]
  simp[Conv.bytesToString]
  rfl
 | some ad =>
  obtain⟨b,off,sp⟩:=ad
  obtain⟨h4,h5⟩:=hc
  simp only at h4;subst h4
  refine run_convert_bytes_back (P:=P) w t t' e ⟨b,off,none⟩ sc r h1 h2 h3 fun j hj=>?_
  rw[dY]
  exact h5 j _ (by simp[hj])
theorem Xh(hg:GK I env lo k w g)(hF:FR I k n F a dd){o:Oper}{t t':Nat}{x:Operand}{v:AV}(ho:o.op = .convert t t' x)(h:jo (gd P) g F o.op=some v):Good P I k w a o v:=by
 rw[ho]at h
 simp only[jo,ac1,acT]at h
 obtain⟨d,(hd:P.underlying t=some d),d',(hd':P.underlying t' = some d'),u,hu,h⟩:=h
 obtain⟨h1,h2⟩:=hF.eval hu
 have hint:∀ {q q':IntKind} {m:Int},d' = .int q→u = .i q' m→v = .i q (q.wrap m)→Good P I k w a o v:=by
  intro q q' m e1 e2 e3
  subst e1 e2 e3
  refine⟨?_,trivial⟩
  simp[execOp,ho,h1,ig,convert,run_underlying hd,run_underlying hd',Conv.intToInt]
 have PY:∀ {e:Nat},d = .slice e→d' = .string→((gd P).nY e).bind (fun d=>match d with
   | .int .u8=>(sliceOf g 1 u).bind fun l=>(l.2.mapM fun(c:AV)=>match c with | .i .u8 n=>if 0≤n∧n<256 then some (UInt8.ofNat n.toNat)else none|_=>none).bind fun r=>some (AV.s r)
   | _=>none)=some v→Good P I k w a o v:=by
  intro e e1 e2 hh
  subst e1 e2
  obtain⟨de,(hde:P.underlying e=some de),hh⟩:=acT.1 hh
  split at hh
  ·obtain⟨l,hl,hh⟩:=acT.1 hh
   obtain⟨r,hr,hh⟩:=acT.1 hh
   cases hh
   obtain⟨s,hs,hsl,_⟩:=mA hg hl
   have hn1:=YR hr
   refine⟨?_,trivial⟩
   rw[hn1]at hsl
   have e3:l.1=r.length:=by have:=hsl.n;simp at this;omega
   rw[e3,ac5]at hsl
   have e5:=Vy (P:=P) (t:=t) (t':=t') (e:=e) (w:=w) (s:=s) (r:=r) hsl hd hde hd'
   rw[←hs]at e5
   simp only[execOp,ho,h1,Sem.run_bind,e5,Result.andThen_ok,Sem.run_pure]
   rfl
  ·cases hh
 split at h
 ·exact hint rfl rfl (adp h).symm
 ·exact PY rfl rfl h
 ·cases h
end
end Go.Ev
end
section
namespace Go.Ev
open Go.Fw
section
variable {I:Ip}{env:Env}{lo k n:Nat}{w:World}{g:vw}{F:Fm}{a:Act}{dd:List Deferred}{P:Program}
theorem FR.parts(h:FR I k n F a dd){xs:List (Nat×Operand)}{vs:List (Nat×AV)}(hx:tK F xs=some vs):xs.map (fun p=>(p.1,a.eval p.2))=vs.map (fun p=>(p.1,I.g p.2)) ∧ ∀ p∈vs,jz k p.2:=by
 induction xs generalizing vs with
 | nil=>simp[tK]at hx;subst hx;simp
 | cons x xs ih =>
  obtain⟨i,x⟩:=x
  simp only[tK,ac1,acT]at hx
  obtain⟨v,hv,us,AO,hx⟩:=hx
  cases hx
  obtain⟨h1,h2⟩:=h.eval hv
  obtain⟨h3,h4⟩:=ih AO
  refine⟨by simp[h1];exact h3,?_⟩
  intro p hp
  rcases aaY.1 hp with rfl|hp
  ·exact h2
  ·exact h4 p hp
structure Row(k N:Nat)(l:List AV):Prop where
 n:l.length=N
 one:∀ u∈l,qn u=true
 ok:∀ u∈l,jz k u
theorem tL{l vs:List AV}{off:Nat}{u:AV}(h:u∈put l off vs):u∈l∨u∈vs:=by
 simp only[put,aaR]at h
 rcases h with(h|h)|h
 ·exact .inl (ab9 h)
 ·exact .inr h
 ·exact .inl (ac3 h)
theorem S3{N off m:Nat}{l vs r:List AV}(h:Fa N l off m vs=some r)(hl:Row k N l)(hv:vs.length=m)(h1:∀ u∈vs,qn u=true)(h2:∀ u∈vs,jz k u):r=put l off vs∧Row k N r∧off+m≤N:=by
 unfold Fa at h
 cases hb:(Nat.beq off 0&&Nat.beq N m)with
 | true =>
  simp only[hb,abA,adq]at h
  simp only[aaB,aaQ]at hb
  obtain⟨rfl,rfl⟩:=hb
  subst h
  exact⟨by have:=hl.n;simp[put];omega,⟨hv,h1,h2⟩,adr⟩
 | false =>
  simp only[hb,abC]at h
  cases hc:Nat.ble (off+m) N with
  | true =>
   simp only[hc,abA,adq]at h
   have hle:=di hc
   have hn:=hl.n
   rw[Y0 l vs off adr]at h
   subst h
   refine⟨rfl,⟨by simp[put];omega,fun u hu=>?_,fun u hu=>?_⟩,hle⟩
   ·exact(tL hu).elim (hl.one u) (h1 u)
   ·exact(tL hu).elim (hl.ok u) (h2 u)
  | false=>simp[hc]at h
theorem S0(f:AV→Value)(l vs:List AV)(off:Nat):(put l off vs).map f=put (l.map f) off (vs.map f):=by
 simp[put,ab5,ac4]
theorem FG{place:Nat→Option (Nat×Nat)}{N:Nat}:∀ (vs:List (Nat×AV)) {l r:List AV},wq place N l vs=some r→Row k N l→(∀ p∈vs,jz k p.2) →
  Row k N r∧Instr.fill place (l.map I.g).toArray (vs.map fun p=>(p.1,I.g p.2))=some (r.map I.g).toArray:=by
 intro vs
 induction vs with
 | nil=>intro l r h hl _;simp only[wq,adq]at h;subst h;exact⟨hl,rfl⟩
 | cons p vs ih =>
  intro l r h hl hk
  obtain⟨i,v⟩:=p
  simp only[wq,ac1,acT]at h
  obtain⟨⟨off,size⟩,hp,h⟩:=h
  simp only at h
  split at h
  ·cases h
  ·rename_i hc
   simp only[not_or,ne_eq,Decidable.not_not,ac6]at hc
   obtain⟨hc1,qN⟩:=hc
   obtain⟨l',hl',h⟩:=acT.1 h
   have hv:=hk (i,v) (by simp)
   obtain⟨q1,q2⟩:=Js hv qN
   obtain⟨e1,h3,hle⟩:=S3 hl' hl (by rw[NY hv,hc1]) q1 q2
   obtain⟨h4,h5⟩:=ih h h3 (fun p hp=>hk p (by simp[hp]))
   refine⟨h4,?_⟩
   have hlen:((cellsOf v).map I.g).length=size:=by rw[abM,NY hv,hc1]
   have hf:=pB ((cellsOf v).map I.g) 0 off (l.map I.g) (by simp only[abM,hl.n]at *; omega)
   simp only[ab_]at hf
   simp only[abp,Instr.fill,hp]
   have hcells:(I.g v).cells=((cellsOf v).map I.g).toArray:=jB I.sv v
   rw[hcells]
   simp only[aca,hlen,ne_eq,not_true_eq_false,decide_false,acG,aa6,abM,hl.n]
   rw[aaK adr,←acH,acI]
   simp only[hf]
   rw[←S0,←e1]
   exact h5
theorem zT{fs:Array Field}(h:∀ f∈fs,∃ z,(P.info? f.type).map (·.size)=some z):∃ pl:Array (Nat×Nat),(∀ w,(fs.mapM fun f=>do pure (f.offset,←sizeOf f.type):Sem (Array (Nat×Nat))).run P w = .ok pl w) ∧
  ∀ i:Nat,pl[i]? = (fs[i]?).bind fun(f:Field)=>((P.info? f.type).map (·.size)).map fun z=>(f.offset,z):=by
 obtain⟨l⟩:=fs
 simp only[List.mem_toArray]at h
 have key:∀ l:List Field,(∀ f∈l,∃ z,(P.info? f.type).map (·.size)=some z) → ∃ pl:List (Nat×Nat),(∀ w,(l.mapM fun f=>do pure (f.offset,←sizeOf f.type):Sem (List (Nat×Nat))).run P w = .ok pl w) ∧
   ∀ i:Nat,pl[i]? = (l[i]?).bind fun(f:Field)=>((P.info? f.type).map (·.size)).map fun z=>(f.offset,z):=by
  intro l
  induction l with
  | nil=>intro _;exact⟨[],fun w=>by simp,fun i=>by simp⟩
  | cons f l ih =>
   intro h
   obtain⟨pl,h1,h2⟩:=ih (fun f hf=>h f (by simp[hf]))
   obtain⟨z,hz⟩:=h f (by simp)
   refine⟨(f.offset,z)::pl,fun w=>?_,fun i=>?_⟩
   ·simp only[aaM,Sem.run_bind,fO hz,Result.andThen_ok,Sem.run_pure,h1]
   ·cases i with
    | zero=>simp only[ac7,aaS,hz,aaU]
    | succ i=>simpa using h2 i
 obtain⟨pl,h1,h2⟩:=key l h
 refine⟨pl.toArray,fun w=>?_,fun i=>by simpa using h2 i⟩
 rw[List.mapM_toArray,Sem.run_map,h1 w];rfl
theorem Y_(hF:FR I k n F a dd){o:Oper}{t:Nat}{ps:Array (Nat×Operand)}{v:AV}(ho:o.op = .build t ps)(h:jo (gd P) g F o.op=some v):Good P I k w a o v:=by
 rw[ho]at h
 simp only[jo,ac1,acT]at h
 obtain⟨vs,hvs,d,(hd:P.underlying t=some d),z,hz,h⟩:=h
 obtain⟨h1,h2⟩:=hF.parts hvs
 obtain⟨hz1,hz2,hz3⟩:=lG (P:=P) hz I k w
 have hps:(ps.map fun(i,x)=>(i,a.eval x)).toList=vs.map fun p=>(p.1,I.g p.2):=by rw[←h1];simp
 cases d<;>cases z<;>simp only at h<;>try (cases h;done)
 case struct.agg fs m l =>
  split at h
  ·cases h
  ·rename_i hall
   obtain⟨r,hr,h⟩:=acT.1 h
   cases h
   obtain⟨q1,q2,q3⟩:=gF.1 hz2
   have C9:∀ f∈fs,∃ z,(P.info? f.type).map (·.size)=some z:=by
    intro f hf
    simp only[aaC,ac6,aaN]at hall
    have:=hall f (by simpa using hf)
    exact abR.1 this
   obtain⟨pl,PT,hp2⟩:=zT C9
   have xr:(fun i:Nat=>(fs[i]?).bind fun(f:Field)=>((gd P).sz f.type).bind fun z=>some (f.offset,z))=(pl[·]?):=by
    funext i
    rw[hp2 i]
    cases fs[i]? with
    | none=>rfl
    | some f =>
     simp only[aaS,gd]
     cases P.info? f.type<;>rfl
   obtain⟨h3,h4⟩:=FG (I:=I) vs hr ⟨q1,q2,q3⟩ h2
   rw[xr]at h4
   refine⟨?_,gF.2 ⟨h3.n,h3.one,h3.ok⟩⟩
   have LK:(I.g (.agg m l)).cells=(l.map I.g).toArray:=jB I.sv (.agg m l)
   simp only[execOp,ho,Instr.build,Sem.run_bind,hz1,Result.andThen_ok,LK,run_underlying hd,PT,hps,h4,Sem.run_pure]
   simp[ig,fD]
 case array.agg len e m l =>
  obtain⟨sz,hsz,h⟩:=acT.1 h
  obtain⟨r,hr,h⟩:=acT.1 h
  cases h
  obtain⟨q1,q2,q3⟩:=gF.1 hz2
  obtain⟨h3,h4⟩:=FG (I:=I) vs hr ⟨q1,q2,q3⟩ h2
  refine⟨?_,gF.2 ⟨h3.n,h3.one,h3.ok⟩⟩
  have LK:(I.g (.agg m l)).cells=(l.map I.g).toArray:=jB I.sv (.agg m l)
  have hs:=fO (P:=P) hsz
  simp only[execOp,ho,Instr.build,Sem.run_bind,hz1,Result.andThen_ok,LK,run_underlying hd,hs,hps,h4,Sem.run_pure]
  simp[ig,fD]
theorem FR.evalO(h:FR I k n F a dd){x:Option Operand}{v:Option AV}(hx:zf F x=some v):x.map a.eval=v.map I.g:=by
 cases x with
 | none=>simp[zf]at hx;subst hx;rfl
 | some x =>
  simp only[zf,aaI]at hx
  obtain⟨u,hu,rfl⟩:=hx
  simp[(h.eval hu).1]
theorem tW{v:AV}{i c:Nat}{bc:BoundsCode}(h:asNat v=some i)(hc:i≤c):(Instr.sliceBound (I.g v) c bc).run P w = .ok i w:=by
 obtain⟨q,hq⟩:=N1 (I:=I) h
 have yL:(0:Int)≤(i:Int)∧(i:Int)≤(c:Int):=adr
 simp only[Instr.sliceBound,hq,asIntOf,Sem.run_bind,Sem.run_pure,Result.andThen_ok,aaJ yL,abE]
theorem H7{sl:Bool}{ln cap i j:Nat}{l r:Option AV}(hi:t_ 0 l=some i)(hj:t_ ln r=some j)(hij:i≤j)(hjl:j≤ln)(hc:ln≤cap) :
  (Instr.sliceBounds sl ln cap (l.map I.g) (r.map I.g) none).run P w = .ok (i,j,cap) w:=by
 cases l<;>cases r<;>simp only[t_]at hi hj
 ·cases hi;cases hj;simp[Instr.sliceBounds]
 ·cases hi;rename_i v;simp[Instr.sliceBounds,tW (P:=P) (I:=I) (w:=w) hj (show j≤cap by omega)]
 ·cases hj;rename_i v;simp[Instr.sliceBounds,tW (P:=P) (I:=I) (w:=w) hi hij]
 ·rename_i u v;simp[Instr.sliceBounds,tW (P:=P) (I:=I) (w:=w) hj (show j≤cap by omega),tW (P:=P) (I:=I) (w:=w) hi hij]
theorem Zc(hg:GK I env lo k w g)(hF:FR I k n F a dd){o:Oper}{t:Nat}{x:Operand}{ol oh:Option Operand}{v:AV}(ho:o.op = .slice t x ol oh none)(h:jo (gd P) g F o.op=some v):Good P I k w a o v:=by
 rw[ho]at h
 simp only[jo,ac1,acT]at h
 obtain⟨l,hl,r,hr,i,hi,d,(hd:P.underlying t=some d),u,hu,h⟩:=h
 have e1:=hF.evalO hl
 have e2:=hF.evalO hr
 obtain⟨h1,h2⟩:=hF.eval hu
 split at h
 ·rename_i e
  rw[acT]at h
  obtain⟨z,hz,h⟩:=h
  rw[acT]at h
  obtain⟨q,hq,h⟩:=h
  rw[acT]at h
  obtain⟨j,hj,h⟩:=h
  have yN:=fO (P:=P) hz
  split at h
  ·rename_i hij
   obtain⟨s,hs,hsl,_⟩:=mA hg hq
   have hb:=H7 (P:=P) (I:=I) (w:=w) (sl:=true) (cap:=s.cap) hi hj hij.1 hij.2 (by rw[←hsl.len];exact hsl.room)
   have key:(execOp a.eval o).run P w = .ok (.value (s.cut i j z).v) w:=by
    have vo:=hsl.len
    obtain⟨sa,sl,sc⟩:=s
    simp only at vo;subst vo
    by_cases hc:sc=i
    ·subst hc
     simp only at hb
     simp[execOp,ho,h1,hs,e1,e2,Instr.sliceAt,Instr.slice,run_underlying hd,hb,yN,SV.cut,SV.v]
    ·have hc':¬ sc-i=0:=by have:=hsl.room;simp only at this;omega
     simp[execOp,ho,h1,hs,e1,e2,Instr.sliceAt,Instr.slice,run_underlying hd,hb,yN,SV.cut,SV.v,hc,hc']
   cases u<;>simp only at h<;>try (cases h;done)
   case nsl =>
    simp only[adq]at h;subst h
    simp only[sliceOf,adq]at hq
    subst hq
    refine⟨?_,trivial⟩
    rw[key]
    have:s=SV.nil:=by obtain⟨x,y,z⟩:=s;simp only[ig]at hs;cases hs;rfl
    subst this
    simp only at hij
    have:j=0:=adr
    subst this
    have:i=0:=adr
    subst this
    rfl
   case sl m off len cap =>
    simp only[adq]at h;subst h
    refine⟨?_,h2⟩
    rw[key]
    have:s=⟨some ⟨(I.sv m).blk,off,none⟩,len,cap⟩:=by obtain⟨x,y,z⟩:=s;simp only[ig]at hs;cases hs;rfl
    subst this
    have hr2:=hsl.room
    have hl2:=hsl.len
    simp only at hr2 hl2
    by_cases hc:cap=i
    ·simp[SV.cut,ig,hc]
    ·have hc':¬ cap-i=0:=adr
     simp[SV.cut,ig,hc,hc',dY]
   case row m cuts =>
    simp only[adq]at h;subst h
    refine⟨?_,h2⟩
    rw[key]
    have:s=cuts.foldl (fun s c=>s.cut c.1 c.2.1 c.2.2) (I.sv m):=by
     have:s.v=(cuts.foldl (fun s c=>s.cut c.1 c.2.1 c.2.2) (I.sv m)).v:=hs.symm.trans rfl
     obtain⟨x,y,z⟩:=s
     generalize (cuts.foldl (fun s c=>s.cut c.1 c.2.1 c.2.2) (I.sv m))=t at this
     obtain⟨x',y',z'⟩:=t
     cases this;rfl
    rw[this]
    simp[ig]
  ·cases h
 ·rename_i len e m off
  rw[acT]at h
  obtain⟨z,hz,h⟩:=h
  rw[acT]at h
  obtain⟨j,hj,h⟩:=h
  have yN:=fO (P:=P) hz
  split at h
  ·rename_i hij
   obtain⟨h3,h4,h5,h6⟩:=hij
   simp only[adq]at h;subst h h5
   have hb:=H7 (P:=P) (I:=I) (w:=w) (sl:=false) (cap:=len) hi hj h3 h4 (aah _)
   refine⟨?_,h2⟩
   have h0:¬ len=0:=adr
   simp[execOp,ho,h1,ig,e1,e2,Instr.sliceAt,Instr.sureAddr,run_underlying hd,hb,yN,dY]
  ·cases h
 ·cases h
theorem Xg(hg:GK I env lo k w g)(hF:FR I k n F a dd){o:Oper}{b:Builtin}{xs:Array Operand}{ts:Array TypeId}{v:AV}(ho:o.op = .call { callee:=.builtin b,args:=xs,argTypes:=ts })(h:jo (gd P) g F o.op=some v):Good P I k w a o v:=by
 rw[ho]at h
 simp only[jo,ac1,acT]at h
 obtain⟨vs,hvs,h⟩:=h
 obtain⟨h1,h2⟩:=hF.evals hvs
 have ET:xs.map a.eval=(vs.map I.g).toArray:=by rw[←h1,←acd,acK]
 have fin:∀ (u:Value),(∀ c ty,(builtin b ts ty c (vs.map I.g).toArray).run P w = .ok (.value u) w)→(execOp a.eval o).run P w = .ok (.value u) w:=by
  intro u hu
  simp only[execOp,ho,resolve,invoke,Sem.run_bind,Sem.run_pure,Result.andThen_ok,ET,hu]
 split at h
 ·rename_i u t r I8
  rw[acT]at h
  obtain⟨d,(ht:P.underlying t=some d),h⟩:=h
  have Uw:ts[0]? = some t:=by
   obtain⟨l⟩:=ts
   simp only at I8;subst I8;rfl
  split at h
  ·simp only[adq]at h;subst h
   refine⟨fin _ fun c ty=>?_,trivial⟩
   simp[builtin,Builtin.len_,Uw,run_underlying ht,ig,goInt]
   rfl
  ·rename_i e
   rw[acT]at h
   obtain⟨z,hz,h⟩:=h
   rw[acT]at h
   obtain⟨q,hq,h⟩:=h
   simp only[adq]at h;subst h
   obtain⟨s,hs,hsl,_⟩:=mA hg hq
   refine⟨fin _ fun c ty=>?_,trivial⟩
   simp[builtin,Builtin.len_,Uw,run_underlying ht,hs,goInt,ig,hsl.len]
  ·cases h
 ·simp only[adq]at h;subst h
  refine⟨fin _ fun c ty=>?_,trivial⟩
  simp[builtin,Builtin.min_,Builtin.min2,ig]
 ·simp only[adq]at h;subst h
  refine⟨fin _ fun c ty=>?_,trivial⟩
  simp[builtin,Builtin.max_,Builtin.max2,ig]
 ·cases h
theorem RJ{key:AV}:∀ {es:List (AV×AV×Nat)} {r:Option AV} (kd:IntKind) (i:Nat),nt key es=some r →
  (∃ q x,key = .i q x) → ∃ r':Option (Nat×Value),Instr.findNow (.int kd) (I.g key) (es.map fun e=>(⟨I.g e.1,I.g e.2.1,e.2.2⟩ : MapEntry)) i=some r' ∧ r'.map (·.2)=r.map I.g:=by
 intro es
 induction es with
 | nil=>intro r kd i h _;simp only[nt,adq]at h;subst h;exact⟨none,rfl,rfl⟩
 | cons e es ih =>
  intro r kd i h hk
  obtain⟨k',v,c⟩:=e
  obtain⟨q,x,rfl⟩:=hk
  simp only[nt]at h
  cases k' <;> simp only at h<;>try (cases h;done)
  rename_i q' y
  split at h
  ·rename_i hq
   subst hq
   simp only[abp,Instr.findNow,ig,Ip.g,Instr.sameNow,if_true]
   split at h
   ·rename_i hx
    subst hx
    simp only[adq]at h;subst h
    simp
   ·rename_i hx
    have hb:(x==y)=false:=by simp[hx]
    rw[hb]
    exact ih kd (i+1) h ⟨q,x,rfl⟩
  ·cases h
theorem VQ{key:AV}:∀ {es:List (AV×AV×Nat)} {v:AV},nt key es=some (some v) → ∃ e∈es,e.2.1=v:=by
 intro es
 induction es with
 | nil=>intro v h;simp[nt]at h
 | cons e es ih =>
  intro v h
  obtain⟨k',u,c⟩:=e
  cases key<;>simp only[nt]at h<;>try (cases h;done)
  cases k' <;> simp only at h<;>try (cases h;done)
  split at h
  ·split at h
   ·simp only[adq]at h;subst h;exact⟨_,aa3,rfl⟩
   ·obtain⟨e,he,h⟩:=ih h;exact⟨e,by simp[he],h⟩
  ·cases h
theorem XO(hg:GK I env lo k w g){m:AV}{es:List (AV×AV×Nat)}(h:mapOf g m=some es):(∀ e∈es,jz k e.2.1) ∧
  ((I.g m = .map none∧es = []) ∨ ∃ r c,I.g m = .map (some r)∧w.heap[r]? = some (.map (es.map fun e=>(⟨I.g e.1,I.g e.2.1,e.2.2⟩ : MapEntry)).toArray c)):=by
 cases m<;>simp only[mapOf]at h<;>try (cases h;done)
 ·cases h;exact⟨by simp,.inl ⟨rfl,rfl⟩⟩
 ·rename_i n
  cases hn:g n with
  | none=>simp[hn]at h
  | some o =>
   cases o<;>simp only[hn]at h<;>try (cases h;done)
   cases h
   exact⟨fun e he=>((hg.ok n _ hn).1 e he).2,.inr ⟨_,_,rfl,hg.holds n _ hn⟩⟩
theorem yG{kt:Nat}{kd:IntKind}(h:P.underlying kt=some (.int kd))(b:Bool)(n:Nat)(q:IntKind)(x:Int):(Instr.checkKey b (n+1) kt (.int q x)).run P w = .ok () w:=by
 unfold Instr.checkKey
 simp[run_underlying h]
theorem iE{kt:Nat}{kd:IntKind}(h:P.underlying kt=some (.int kd))(b:Bool)(q:IntKind)(x:Int):(Instr.checkKey b 10000 kt (.int q x)).run P w = .ok () w:=yG h b 9999 q x
theorem X0(hg:GK I env lo k w g)(hF:FR I k n F a dd){o:Oper}{t:Nat}{x y:Operand}{ok:Bool}{v:AV}(ho:o.op = .lookup t x y ok)(h:jo (gd P) g F o.op=some v):Good P I k w a o v:=by
 rw[ho]at h
 simp only[jo,ac1,acT]at h
 obtain⟨key,hkey,d,(hd:P.underlying t=some d),m,hm,h⟩:=h
 obtain⟨h1,h2⟩:=hF.eval hkey
 obtain⟨h3,h4⟩:=hF.eval hm
 split at h
 ·rename_i kt e
  rw[acT]at h
  obtain⟨dk,(hdk:P.underlying kt=some dk),h⟩:=h
  split at h
  ·rename_i kd es q y hes
   rw[acT]at h
   obtain⟨r,hr,h⟩:=h
   rw[acT]at h
   obtain⟨z,hz,h⟩:=h
   simp only[adq]at h
   obtain⟨r',hf,hv⟩:=RJ (I:=I) kd 0 hr ⟨q,y,rfl⟩
   obtain⟨hz1,hz2,_⟩:=lG (P:=P) hz I k w
   obtain⟨hok,hmap⟩:=XO hg hes
   have vf:(Instr.findKey kt (I.g (.i q y)) (es.map fun e=>(⟨I.g e.1,I.g e.2.1,e.2.2⟩ : MapEntry))).run P w = .ok r' w:=by
    simp[Instr.findKey,run_underlying hdk,hf]
   have Ao:∀ b,(Instr.checkKey b 10000 kt (I.g (.i q y))).run P w = .ok () w:=fun b=>iE hdk b q y
   have hv':jz k v:=by
    subst h
    cases r with
    | none=>cases ok<;>simp[zr,jz,qy,hz2]
    | some u =>
     have hu:jz k u:=by obtain⟨e,he,rfl⟩:=VQ hr;exact hok e he
     cases ok<;>simp[zr,jz,qy,hu]
   refine⟨?_,hv'⟩
   have hl:(Instr.lookup t (I.g m) (I.g (.i q y)) ok).run P w = .ok (I.g v) w:=by
    have hstep:(Instr.lookup t (I.g m) (I.g (.i q y)) ok).run P w=(do
      let(v,B5)←match r' with
       | some (_,v)=>pure (v,true)
       | none=>pure (←zeroValue e,false)
      pure (if ok then .tuple #[v,.bool B5]else v):Sem Value).run P w:=by
     rcases hmap with⟨e1,rfl⟩|⟨b,c,e1,e2⟩
     ·simp only[Instr.lookup,Sem.run_bind,run_underlying hd,Result.andThen_ok,e1,Sem.run_pure,Ao]
      simp only[abq]at vf
      rw[vf];rfl
     ·simp only[Instr.lookup,Sem.run_bind,run_underlying hd,Result.andThen_ok,e1,Sem.run_pure,Ao,MapKept.run_getObj_map e2]
      rw[vf];rfl
    rw[hstep]
    subst h
    cases r' with
    | none =>
     cases r with
     | some u=>simp at hv
     | none=>cases ok<;>simp[hz1,zr,ig,mZ]
    | some p =>
     cases r with
     | none=>simp at hv
     | some u =>
      simp only[aaU,adq]at hv
      cases ok<;>simp[zr,ig,mZ,hv]
   simp only[execOp,ho,h1,h3,Sem.run_bind,hl,Result.andThen_ok,Sem.run_pure]
  ·cases h
 ·cases h
end
end Go.Ev
end
section
namespace Go.Ev
open Go.Fw
section
variable {I:Ip}{env:Env}{lo k n:Nat}{w:World}{g:vw}{F:Fm}{a:Act}{dd:List Deferred}{P:Program}
theorem S_:∀ (d:Nat) {t:Nat} {x y:AV} {r:Bool},EM (gd P) d t x y=some r→jz k x→jz k y → ∀ D,d≤D → ∀ w:World,(Op.equalIn D t (I.g x) (I.g y)).run P w = .ok r w:=by
 intro d
 induction d with
 | zero=>intro t x y r h;simp[EM]at h
 | succ d ih =>
  intro t x y r h hkx Uj D hD w
  obtain⟨D,rfl⟩ : ∃ D',D=D' + 1:=⟨D-1,adr⟩
  have Ov:d≤D:=adr
  simp only[EM,ac1]at h
  rw[acT]at h
  obtain⟨td,(ht:P.underlying t=some td),h⟩:=h
  split at h
  ·simp only[adq]at h;subst h
   exact Fw.run_equalIn_bool D ht
  ·split at h
   ·rename_i hk
    subst hk
    simp only[adq]at h;subst h
    exact run_equalIn_int w D t _ _ _ _ ht
   ·cases h
  ·rename_i fs n xs m ys
   split at h
   ·cases h
   ·rename_i xr
    simp only[gd,aaC,ac6,aaB]at xr
    have hfs:P.fieldsOf t=fs:=by simp[Program.fieldsOf,ht]
    have e1:=run_equalIn_struct (P:=P) w D t (xs.map I.g).toArray (ys.map I.g).toArray (by rw[hfs];exact ht) xr.2
    have g1:I.g (.agg n xs) = .agg (xs.map I.g).toArray:=by simp[ig,fD]
    have g2:I.g (.agg m ys) = .agg (ys.map I.g).toArray:=by simp[ig,fD]
    rw[g1,g2,e1,hfs]
    generalize fs.toList=l at h
    clear e1
    obtain⟨QH,QI,NR⟩:=gF.1 hkx
    obtain⟨QJ,QK,NS⟩:=gF.1 Uj
    induction l generalizing r with
    | nil=>simp only[Ax,adq]at h;subst h;exact iB
    | cons f l Ja =>
     simp only[Ax,ac1]at h
     rw[acT]at h
     obtain⟨b,hb,h⟩:=h
     split at hb
     ·cases hb
     ·rename_i hname
      rw[acT]at hb
      obtain⟨px,I5,hb⟩:=hb
      rw[acT]at hb
      obtain⟨py,I6,hb⟩:=hb
      have he:=ih hb (nE I5 QH QI NR).1 (nE I6 QJ QK NS).1 D Ov w
      have hn:f.name ≠ "_" := by simpa using hname
      have p1:(Go.part f.type (xs.map I.g).toArray f.offset).run P w = .ok (I.g px) w:=by
       exact tP I5 QH
      have p2:(Go.part f.type (ys.map I.g).toArray f.offset).run P w = .ok (I.g py) w:=by
       exact tP I6 QJ
      simp only[Op.eqFields,aaJ hn,Sem.run_bind,p1,p2,Result.andThen_ok,he]
      cases b
      ·simp only[abQ,if_false,adq]at h;subst h;simp
      ·simp only[if_true]at h
       simpa using Ja h
  ·rename_i len e n xs m ys
   rw[acT]at h
   obtain⟨z,hz,h⟩:=h
   have yN:=fO (P:=P) hz
   cases hc:(Nat.beq n (len*z)&&Nat.beq m (len*z))with
   | false=>simp[hc]at h
   | true =>
    simp only[hc,abA]at h
    rw[acT]at h
    obtain⟨de,(hde:P.underlying e=some de),h⟩:=h
    have hag:=vM hde
    have e1:=Fw.run_equalIn_array (P:=P) w D (xs.map I.g).toArray (ys.map I.g).toArray ht yN
    have g1:I.g (.agg n xs) = .agg (xs.map I.g).toArray:=by simp[ig,fD]
    have g2:I.g (.agg m ys) = .agg (ys.map I.g).toArray:=by simp[ig,fD]
    rw[g1,g2,e1]
    obtain⟨QH,QI,NR⟩:=gF.1 hkx
    obtain⟨QJ,QK,NS⟩:=gF.1 Uj
    simp only[aaB,aaQ]at hc
    obtain⟨hc1,qN⟩:=hc
    split at h
    ·rename_i hA
     rw[hA]at hag
     have key:∀ (rem s:Nat) (r:Bool),s+rem=len→CN (fun a b=>EM (gd P) d e (.agg z a) (.agg z b)) z rem (xs.drop (s*z)) (ys.drop (s*z))=some r →
       (Op.eqElems D e z (xs.map I.g).toArray (ys.map I.g).toArray (List.range' s rem)).run P w = .ok r w:=by
      intro rem
      induction rem with
      | zero=>intro s r hs h;simp only[CN,adq]at h;subst h;simp[Op.eqElems]
      | succ rem NN =>
       intro s r hs h
       simp only[CN,ac1]at h
       rw[acT]at h
       obtain⟨b,hb,h⟩:=h
       rw[sW,sW]at hb
       have hle:s*z+z≤len*z:=by rw[←Nat.succ_mul];exact acs _ adr
       have o1:jz k (.agg z ((xs.drop (s*z)).take z)):=gF.2 ⟨by simp;omega,fun v hv=>QI v (ac3 (ab9 hv)),fun v hv=>NR v (ac3 (ab9 hv))⟩
       have o2:jz k (.agg z ((ys.drop (s*z)).take z)):=gF.2 ⟨by simp;omega,fun v hv=>QK v (ac3 (ab9 hv)),fun v hv=>NS v (ac3 (ab9 hv))⟩
       have he:=ih hb o1 o2 D Ov w
       have p1:=gL (P:=P) w hag yN (cs:=xs.map I.g) (off:=s*z) (vs:=((xs.drop (s*z)).take z).map I.g) (by simp[cut,ab5,ac4])
       have p2:=gL (P:=P) w hag yN (cs:=ys.map I.g) (off:=s*z) (vs:=((ys.drop (s*z)).take z).map I.g) (by simp[cut,ab5,ac4])
       have Pz:(Op.equalIn D e (.agg (((xs.drop (s*z)).take z).map I.g).toArray) (.agg (((ys.drop (s*z)).take z).map I.g).toArray)).run P w = .ok b w:=by
        have:=he
        simpa[ig,fD]using this
       simp only[acC,Op.eqElems,Sem.run_bind,p1,p2,Result.andThen_ok,Pz]
       cases b
       ·simp only[abQ,if_false,adq]at h;subst h;simp
       ·simp only[if_true]at h
        rw[rY,rY,abu,abu]at h
        rw[show s*z+z=(s+1)*z by rw[aci,acJ]]at h
        simpa using NN (s+1) r adr h
     have:=key len 0 r adr (by simpa using h)
     rwa [←acA]at this
    ·rename_i hA
     have hA':yf de=false:=by simpa using hA
     rw[hA']at hag
     generalize List.range len=is at h
     induction is generalizing r with
     | nil=>simp only[Ax,adq]at h;subst h;simp[Op.eqElems]
     | cons i is Ja =>
      simp only[Ax,ac1]at h
      rw[acT]at h
      obtain⟨b,hb,h⟩:=h
      rw[acT]at hb
      obtain⟨px,I5,hb⟩:=hb
      rw[acT]at hb
      obtain⟨py,I6,hb⟩:=hb
      rw[wI]at I5 I6
      have he:=ih hb (NR _ (abb I5)) (NS _ (abb I6)) D Ov w
      have p1:=gM (P:=P) w hag (cs:=xs.map I.g) (off:=i*z) (v:=I.g px) (by rw[aby,I5];rfl)
      have p2:=gM (P:=P) w hag (cs:=ys.map I.g) (off:=i*z) (v:=I.g py) (by rw[aby,I6];rfl)
      simp only[Op.eqElems,Sem.run_bind,p1,p2,Result.andThen_ok,he]
      cases b
      ·simp only[abQ,if_false,adq]at h;subst h;simp
      ·simp only[if_true]at h
       simpa using Ja h
  ·cases h
theorem WL {q:BinOp} {kd:IntKind} {x y:Int} {v:AV} (h:AQ q kd x y = some v):(match q with
    | .add | .sub | .mul=>Op.intArith q kd x y
    | .quo | .rem=>Op.intDiv q kd x y
    | .and | .or | .xor | .andNot=>Op.intBits q kd x y
    | _=>Op.intCmp q x y:Sem Value).run P w = .ok (I.g v) w ∧ jz k v:=by
  cases q <;> simp only [AQ] at h <;> try (cases h; done)
  all_goals first
    | (simp only [adq] at h; subst h; refine ⟨?_,trivial⟩; simp [Op.intArith,Op.intBits,Op.intCmp,ig,i_,v8,ua,uo]; try rfl; done)
    | (split at h
       · cases h
       · rename_i hy
         simp only [adq] at h; subst h; refine ⟨?_,trivial⟩; simp [Op.intDiv,hy,ig])
theorem Ta{q:BinOp}{t:Nat}{x y:Operand}{A B:Bool}:(eqGuard q t x y (.bool A) (.bool B)).run P w = .ok () w:=by
 unfold eqGuard;cases q<;>simp
theorem Oa{q:BinOp}{t:Nat}{x y:Operand}{c d:IntKind}{A B:Int}:(eqGuard q t x y (.int c A) (.int d B)).run P w = .ok () w:=by
 unfold eqGuard;cases q<;>simp
theorem Tz{q:BinOp}{t:Nat}{x y:Operand}{A B:ByteArray}:(eqGuard q t x y (.string A) (.string B)).run P w = .ok () w:=by
 unfold eqGuard;cases q<;>simp
theorem GU{q:BinOp}{t:Nat}{x y:Operand}{A B:Option Addr}{c d e f:Nat}:(eqGuard q t x y (.slice A c d) (.slice B e f)).run P w = .ok () w:=by
 unfold eqGuard;cases q<;>simp
theorem Y9(hg:GK I env lo k w g)(hF:FR I k n F a dd){o:Oper}{q:BinOp}{t t':Nat}{x y:Operand}{v:AV}(ho:o.op = .binOp q t x y t')(h:jo (gd P) g F o.op=some v):Good P I k w a o v:=by
 rw[ho]at h
 simp only[jo,ac1]at h
 rw[acT]at h
 obtain⟨u,hu,h⟩:=h
 rw[acT]at h
 obtain⟨u',hu',h⟩:=h
 obtain⟨h1,h2⟩:=hF.eval hu
 obtain⟨h3,h4⟩:=hF.eval hu'
 have fin:∀ {r:Value},(eqGuard q t x y (I.g u) (I.g u')).run P w = .ok () w→(binOp q t (I.g u) (I.g u')).run P w = .ok r w→(execOp a.eval o).run P w = .ok (.value r) w:=by
  intro r e1 e2
  simp only[execOp,ho,h1,h3,Sem.run_bind,e1,Result.andThen_ok,e2,Sem.run_pure]
 cases u<;>cases u' <;> simp only[JR,ac1]at h<;>try (cases h;done)
 case b.b x y =>
  rw[show(I.g (AV.b x)) = .bool x from rfl,show(I.g (AV.b y)) = .bool y from rfl]at fin
  rw[acT]at h
  obtain⟨d,(hd:P.underlying t=some d),h⟩:=h
  split at h
  ·simp only[adq]at h;subst h
   exact⟨fin Ta (by simp[binOp,Fw.run_equal_bool hd,ig]),trivial⟩
  ·simp only[adq]at h;subst h
   exact⟨fin Ta (by simp[binOp,Fw.run_equal_bool hd,ig]),trivial⟩
  ·cases h
 case i.i kd x kd' y =>
  rw[show(I.g (AV.i kd x)) = .int kd x from rfl,show(I.g (AV.i kd' y)) = .int kd' y from rfl]at fin
  split at h
  ·split at h
   ·cases h
   ·rename_i hy
    simp only[adq]at h;subst h
    exact⟨fin Oa (by simp[binOp,Op.shift,hy,shl,ig]),trivial⟩
  ·split at h
   ·cases h
   ·rename_i hy
    simp only[adq]at h;subst h
    exact⟨fin Oa (by simp[binOp,Op.shift,hy,shr,ig]),trivial⟩
  ·rename_i hn1 Um
   split at h
   ·rename_i hk
    subst hk
    obtain⟨e1,e2⟩:=WL (P:=P) (I:=I) (k:=k) (w:=w) h
    refine⟨fin Oa ?_,e2⟩
    cases q<;>simp only[binOp,ne_eq,not_true_eq_false,if_false]<;>first|exact e1|exact absurd rfl hn1|exact absurd rfl Um|skip
   ·cases h
 case s.s x y =>
  rw[show(I.g (AV.s x)) = .string ⟨x.toArray⟩from rfl,show(I.g (AV.s y)) = .string ⟨y.toArray⟩from rfl]at fin
  split at h
  ·simp only[adq]at h;subst h
   refine⟨fin Tz ?_,trivial⟩
   by_cases hxy:x=y<;>simp[binOp,Op.stringOp,ig,hxy]
  ·simp only[adq]at h;subst h
   refine⟨fin Tz ?_,trivial⟩
   by_cases hxy:x=y<;>simp[binOp,Op.stringOp,ig,hxy]
  ·cases h
 case agg.agg m xs m' ys =>
  have g1:I.g (.agg m xs) = .agg (xs.map I.g).toArray:=by simp[ig,fD]
  have g2:I.g (.agg m' ys) = .agg (ys.map I.g).toArray:=by simp[ig,fD]
  split at h
  ·split at h
   ·cases h
   ·rename_i xr
    simp only[gd,aaC,ac6,aaB]at xr
    rw[acT]at h
    obtain⟨b,hb,h⟩:=h
    simp only[adq]at h;subst h
    have he:=S_ (I:=I) 20 hb h2 h4 10000 adr w
    rw[g1,g2]at fin he
    exact⟨fin (run_eqGuard_agg w _ t x y _ _ xr.1) (by rw[run_eql_struct,he];rfl),trivial⟩
  ·split at h
   ·cases h
   ·rename_i xr
    simp only[gd,aaC,ac6,aaB]at xr
    rw[acT]at h
    obtain⟨b,hb,h⟩:=h
    simp only[adq]at h;subst h
    have he:=S_ (I:=I) 20 hb h2 h4 10000 adr w
    rw[g1,g2]at fin he
    exact⟨fin (run_eqGuard_agg w _ t x y _ _ xr.1) (by rw[run_neq_struct,he];rfl),trivial⟩
  ·cases h
 case nsl.nsl =>
  rw[show(I.g AV.nsl) = .slice none 0 0 from rfl]at fin
  rw[acT]at h
  obtain⟨d,(hd:P.underlying t=some d),h⟩:=h
  split at h
  ·simp only[adq]at h;subst h
   refine⟨fin GU ?_,trivial⟩
   simp only[binOp,Sem.run_bind,run_equal_slice_nil w t _ _ _ _ hd,Result.andThen_ok,Sem.run_pure];rfl
  ·cases h
 case sl.nsl m off len cap =>
  rw[show(I.g AV.nsl) = .slice none 0 0 from rfl,show I.g (.sl m off len cap) = .slice (some ⟨(I.sv m).blk,off,none⟩) len cap from rfl]at fin
  rw[acT]at h
  obtain⟨d,(hd:P.underlying t=some d),h⟩:=h
  split at h
  ·simp only[adq]at h;subst h
   refine⟨fin GU ?_,trivial⟩
   simp only[binOp,Sem.run_bind,run_equal_slice_nil w t _ _ _ _ hd,Result.andThen_ok,Sem.run_pure];rfl
  ·cases h
 case row.nsl m cuts =>
  rw[acT]at h
  obtain⟨d,(hd:P.underlying t=some d),h⟩:=h
  split at h
  ·rename_i e e' z c l hm
   split at h
   ·cases h
   ·rename_i hc
    simp only[adq]at h;subst h
    have ug:w.ownsRow lo e' z (I.sv m).v c (l.map I.g):=hg.holds m _ hm
    have hsome:∃ ad,(I.sv m).a=some ad:=by
     rcases ug.2 with⟨q1,q2⟩|⟨b,cap,cur,q1,_⟩
     ·exact absurd q2 hc
     ·cases hx:I.sv m;rw[hx]at q1;cases q1;exact⟨_,rfl⟩
    have key:∀ (cuts:List (Nat×Nat×Nat)) (s:SV),(∃ ad,s.a=some ad) → ∃ ad,(cuts.foldl (fun s c=>s.cut c.1 c.2.1 c.2.2) s).a=some ad:=by
     intro cuts
     induction cuts with
     | nil=>intro s h;exact h
     | cons c cuts ih =>
      intro s ⟨ad,h⟩
      refine ih _ ?_
      simp only[SV.cut]
      split
      ·exact⟨ad,h⟩
      ·exact⟨_,by rw[h];rfl⟩
    obtain⟨ad,had⟩:=key cuts _ hsome
    have hrow:I.g (.row m cuts)=(cuts.foldl (fun s c=>s.cut c.1 c.2.1 c.2.2) (I.sv m)).v:=rfl
    rw[show(I.g AV.nsl) = .slice none 0 0 from rfl,hrow]at fin
    refine⟨fin GU ?_,trivial⟩
    simp only[binOp,Sem.run_bind,run_equal_slice_nil w t _ _ _ _ hd,Result.andThen_ok,Sem.run_pure,had];rfl
  ·cases h
end
end Go.Ev
end
section
namespace Go.Ev
open Go.Fw
section
variable {I:Ip}{env:Env}{lo k n:Nat}{w:World}{g:vw}{F:Fm}{a:Act}{dd:List Deferred}{P:Program}
theorem zX(hg:GK I env lo k w g)(hF:FR I k n F a dd){o:Oper}{v:AV}(h:jo (gd P) g F o.op=some v):Good P I k w a o v:=by
 have h0:=h
 cases ho:o.op with
 | move x=>rw[ho]at h;exact ZG hF ho (by simpa[jo]using h)
 | assign x=>rw[ho]at h;exact XZ hF ho (by simpa[jo]using h)
 | pick c x y=>exact ZH hF ho h
 | binOp q t x y t'=>exact Y9 hg hF ho h
 | unOp q t x=>exact ZI hF ho h
 | convert t t' x=>exact Xh hg hF ho h
 | fieldAddr t x f=>exact JG hF ho h
 | field t x f=>exact Za hF ho h
 | indexAddr t x y=>exact JH hg hF ho h
 | index t x y=>exact Zb hF ho h
 | load t x=>exact ZF hg hF ho h
 | extract x i=>exact W1 hF ho h
 | nilCheck x=>exact Wm hF ho h
 | makeFunc q fs cs=>exact Wj hF ho h
 | build t ps=>exact Y_ hF ho h
 | slice t x l r m =>
  cases m with
  | none=>exact Zc hg hF ho h
  | some m=>rw[ho]at h;simp[jo]at h
 | lookup t x y ok=>exact X0 hg hF ho h
 | call c =>
  obtain⟨callee,xs,ts⟩:=c
  cases callee with
  | builtin b=>exact Xg hg hF ho h
  | _=>rw[ho]at h;simp[jo]at h
 | _=>rw[ho]at h;simp[jo]at h
end
structure Agree(k:Nat)(I I':Ip):Prop where
 sv:∀ n,n<k→I.sv n=I'.sv n
 arr:∀ n,n<k→I.arr n=I'.arr n
 fn:∀ n,n<k→I.fn n=I'.fn n
theorem Agree.refl(k:Nat)(I:Ip):Agree k I I:=⟨fun _ _=>rfl,fun _ _=>rfl,fun _ _=>rfl⟩
theorem Agree.trans{k k':Nat}{I I' RA:Ip}(h:Agree k I I')(h':Agree k' I' RA)(hk:k≤k'):Agree k I RA :=
 ⟨fun n hn=>(h.sv n hn).trans (h'.sv n adr),fun n hn=>(h.arr n hn).trans (h'.arr n adr),fun n hn=>(h.fn n hn).trans (h'.fn n adr)⟩
theorem Agree.v{k:Nat}{I I':Ip}(h:Agree k I I'){v:AV}(hv:jz k v):I'.g v=I.g v:=(RR h.sv v hv).symm
theorem Agree.map{k:Nat}{I I':Ip}(h:Agree k I I'){l:List AV}(hv:∀ v∈l,jz k v):l.map I'.g=l.map I.g:=ac8 fun v hm=>h.v (hv v hm)
structure xn(I:Ip)(env:Env)(k:Nat):Prop where
 name:∀ l L,iq env l=some L→l<k∧L.d<k
 fr:∀ l L,iq env l=some L→FR I k L.n L.tm { tmps:=I.arr l,defers:=[] } []
theorem FR.agree{k k' n:Nat}{I I':Ip}{F:Fm}{a:Act}{dd:List Deferred}(hF:FR I k n F a dd)(h:Agree k I I')(hk:k≤k'):FR I' k' n F a dd :=
 ⟨hF.defers,hF.size,fun t v e=>by obtain⟨h1,h2,h3⟩:=hF.get t v e;exact⟨h1,jF hk v h2,by rw[h3,h.v h2]⟩⟩
theorem xn.agree{k k':Nat}{I I':Ip}{env:Env}(hE:xn I env k)(h:Agree k I I')(hk:k≤k'):xn I' env k' :=
 ⟨fun l L e=>by have:=hE.name l L e;omega,fun l L e=>by rw[←h.arr l (hE.name l L e).1];exact(hE.fr l L e).agree h hk⟩
theorem XV{k k':Nat}(hk:k≤k'){o:lu}(h:okO k o):okO k' o:=by
 cases o<;>simp only[okO]at h ⊢
 case pt=>exact⟨h.1,h.2.1,fun v hv=>jF hk v (h.2.2 v hv)⟩
 case fz=>exact⟨h.1,h.2.1,fun v hv=>jF hk v (h.2.2 v hv)⟩
 case row=>exact⟨h.1,h.2.1,h.2.2.1,fun v hv=>jF hk v (h.2.2.2 v hv)⟩
 case map=>exact fun e he=>⟨jF hk _ (h e he).1,jF hk _ (h e he).2⟩
theorem yF{k lo n:Nat}{I I':Ip}{env ve:Env}(h:Agree k I I')(hE:∀ L,iq env n=some L→L.d<k)(he:iq ve n=iq env n){o:lu}(ho:okO k o)(hn:n<k):res I' ve lo n o=res I env lo n o:=by
 cases o<;>simp only[okO]at ho<;>simp only[res,←h.sv n hn]
 case pt=>rw[h.map ho.2.2]
 case fz=>rw[h.map ho.2.2]
 case row=>rw[h.map ho.2.2.2]
 case map es c =>
  congr 3
  exact ac8 fun e hm=>by rw[h.v (ho e hm).1,h.v (ho e hm).2]
 case loop st pd =>
  rw[he]
  cases hL:iq env n with
  | none=>rfl
  | some L=>simp only[nc,←h.arr n hn,←h.fn n hn,←h.sv L.d (hE L hL)]
structure SR(I:Ip)(env:Env)(w0:World)(s:St)(w:World):Prop where
 old:Same 0 [] w0 w
 io:Io w0 w
 ok:∀ n o,find s.h n=some o→n<s.nx∧okO s.nx o
 holds:∀ n o,find s.h n=some o→(res I env w0.heap.size n o).holds w
 low:∀ n o,find s.h n=some o → ∀ b,(res I env w0.heap.size n o).fp b→w0.heap.size≤b
 apart:∀ n m o o',find s.h n=some o→find s.h m=some o' → n≠m → ∀ b,(res I env w0.heap.size n o).fp b → ¬ (res I env w0.heap.size m o').fp b
 cj:∀ n,n∈s.cj→n<s.nx
 env:xn I env s.nx
theorem SR.gk{I:Ip}{env:Env}{w0 w:World}{s:St}(h:SR I env w0 s w):GK I env w0.heap.size s.nx w (find s.h):=⟨h.holds,fun n o e=>⟨(h.ok n o e).2,(h.ok n o e).1⟩⟩
theorem SR.size{I:Ip}{env:Env}{w0 w:World}{s:St}(h:SR I env w0 s w):w0.heap.size≤w.heap.size:=h.old.size
theorem SR.turn{I I':Ip}{env ve:Env}{w0 w w':World}{s s':St}{t:Nat→Prop}{b:Nat}(h:SR I env w0 s w)(ag:Agree s.nx I I')(Hn:s.nx≤s'.nx)(henv:∀ m,m<s.nx→m≠b→iq ve m=iq env m)
  (io:Io w w') (size:w.heap.size≤w'.heap.size) (block:∀ j,j<w.heap.size → ¬ t j→w'.heap[j]? = w.heap[j]?) (MN:∀ j,t j→w0.heap.size≤j)
  (old:∀ n o,n≠b→find s'.h n=some o→(o = .dead∧n<s'.nx)∨(find s.h n=some o ∧ ∀ j,(res I env w0.heap.size n o).fp j → ¬ t j))
  (new:∀ o,find s'.h b=some o→b<s'.nx∧okO s'.nx o∧(res I' ve w0.heap.size b o).holds w' ∧ ∀ j,(res I' ve w0.heap.size b o).fp j→t j∨w.heap.size≤j)
  (hm:∀ n,n∈s'.cj→n<s'.nx) (hE:xn I' ve s'.nx):SR I' ve w0 s' w':=by
 have hs:=h.size
 have same:∀ n o,n≠b→find s.h n=some o→res I' ve w0.heap.size n o=res I env w0.heap.size n o:=fun n o hn e =>
  yF ag (fun L hL=>(h.env.name n L hL).2) (henv n (h.ok n o e).1 hn) (h.ok n o e).2 (h.ok n o e).1
 have blk0:∀ j,j<w.heap.size → ¬ w0.heap.size≤j→w'.heap[j]? = w.heap[j]?:=fun j hj hn=>block j hj fun ht=>hn (MN j ht)
 have dead:∀ n,res I' ve w0.heap.size n .dead=Eo:=fun n=>rfl
 refine⟨⟨adr,fun j h1 h2 h3=>?_⟩,h.io.trans io,fun n o e=>?_,fun n o e=>?_,fun n o e j hj=>?_,?_,hm,hE⟩
 ·rw[blk0 j adr adr];exact h.old.block j h1 h2 h3
 ·by_cases hn:n=b
  ·subst hn;exact⟨(new o e).1,(new o e).2.1⟩
  ·rcases old n o hn e with⟨rfl,h1⟩|⟨h1,_⟩
   ·exact⟨h1,trivial⟩
   ·have:=h.ok n o h1;exact⟨adr,XV Hn this.2⟩
 ·by_cases hn:n=b
  ·subst hn;exact(new o e).2.2.1
  ·rcases old n o hn e with⟨rfl,h1⟩|⟨h1,h2⟩
   ·rw[dead];exact⟨fun _ hk=>hk.elim,fun _ _ _ _=>trivial⟩
   ·rw[same n o hn h1]
    exact dw.keep (h.holds n o h1) io size fun j hj=>block j (dw.fp_lt (h.holds n o h1) hj) (h2 j hj)
 ·by_cases hn:n=b
  ·subst hn
   rcases(new o e).2.2.2 j hj with h1|h1
   ·exact MN j h1
   ·omega
  ·rcases old n o hn e with⟨rfl,h1⟩|⟨h1,h2⟩
   ·rw[dead]at hj;exact hj.elim
   ·rw[same n o hn h1]at hj;exact h.low n o h1 j hj
 ·have key:∀ n m o o',find s'.h n=some o→find s'.h m=some o' → n≠m→m≠b → ∀ j,(res I' ve w0.heap.size n o).fp j→(res I' ve w0.heap.size m o').fp j→False:=by
   intro n m o o' e e' hnm NM j hj hj'
   rcases old m o' NM e' with⟨rfl,_⟩|⟨h1,h2⟩
   ·rw[dead]at hj'; exact hj'
   ·rw[same m o' NM h1]at hj'
    have hlt:=dw.fp_lt (h.holds m o' h1) hj'
    by_cases hn:n=b
    ·subst hn
     rcases(new o e).2.2.2 j hj with h3|h3
     ·exact h2 j hj' h3
     ·omega
    ·rcases old n o hn e with⟨rfl,_⟩|⟨h3,h4⟩
     ·rw[dead]at hj;exact hj
     ·rw[same n o hn h3]at hj
      exact h.apart n m o o' h3 h1 hnm j hj hj'
  intro n m o o' e e' hnm j hj hj'
  by_cases NM:m=b
  ·exact key m n o' o e' e (fun x=>hnm x.symm) adr j hj' hj
  ·exact key n m o o' e e' hnm NM j hj hj'
structure Step(s s':St):Prop where
 nx:s.nx≤s'.nx
 mono:∀ n,n<s.nx→n∈s.wr→n∈s'.wr
 yk:∀ n,n<s.nx→n∉s'.wr→find s'.h n=find s.h n
theorem Step.refl(s:St):Step s s:=⟨aah _,fun _ _ h=>h,fun _ _ _=>rfl⟩
theorem Step.trans{a b c:St}(h:Step a b)(k:Step b c):Step a c :=
  ⟨aai h.nx k.nx,fun n hn hm=>k.mono n (by have:=h.nx;omega) (h.mono n hn hm),
   fun n hn hm=>(k.yk n (by have:=h.nx;omega) hm).trans (h.yk n hn fun hb=>hm (k.mono n (by have:=h.nx;omega) hb))⟩
theorem jD{h:Heap}{n m:Nat}{o x:lu}(e:find (upd h n o) m=some x):(m=n∧x=o)∨(m≠n∧find h m=some x):=Tr.set_some e
theorem RH{h:Heap}{n m:Nat}{o:lu}(e:m≠n):find (upd h n o) m=find h m:=Tr.set_other e
theorem Step.wrote(s:St)(n:Nat)(o:lu):Step s (wrote s n o):=by
 refine⟨aah _,fun m hm h=>?_,fun m hm h=>?_⟩
 ·simp only[Ev.wrote];cases jw n s.wr<;>simp[h]
 ·refine RH fun e=>?_
  subst e
  simp only[Ev.wrote]at h
  cases hb:jw m s.wr with
  | true=>rw[hb]at h;exact h (fH.1 hb)
  | false=>simp[hb]at h
theorem Ym(s:St)(n:Nat)(o:lu):(wrote s n o).nx=s.nx:=rfl
theorem V5(s:St)(n:Nat)(o:lu):(wrote s n o).cj=s.cj:=rfl
theorem gT{s s':St}{o:lu}{n:Nat}(h:fresh s o=some (n,s')):n=s.nx∧s' = { s with h:=upd s.h s.nx o,nx:=s.nx+1 }:=by
 simp only[fresh]at h
 split at h
 ·cases h
 ·cases h;exact⟨rfl,rfl⟩
theorem Step.fresh{s s':St}{o:lu}{n:Nat}(h:fresh s o=some (n,s')):Step s s':=by
 obtain⟨_,rfl⟩:=gT h
 exact⟨ab7 _,fun _ _ h=>h,fun m hm _=>RH adr⟩
def Ip.with(I:Ip)(k:Nat)(s:SV)(ar:Array Value):Ip:=⟨fun n=>if n=k then s else I.sv n,fun n=>if n=k then ar else I.arr n,I.fn⟩
theorem Agree.with(I:Ip)(k:Nat)(s:SV)(ar:Array Value):Agree k I (I.with k s ar) :=
 ⟨fun n hn=>by simp[Ip.with,ac9 hn],fun n hn=>by simp[Ip.with,ac9 hn],fun n hn=>rfl⟩
theorem mE(I:Ip)(k:Nat)(s:SV)(ar:Array Value):(I.with k s ar).sv k=s:=by simp[Ip.with]
theorem SR.add{I:Ip}{env:Env}{w0 w w':World}{s s':St}{o:lu}{n:Nat}(h:SR I env w0 s w)(hf:fresh s o=some (n,s'))(sv:SV)(ho:okO (s.nx+1) o)
  (hA:iy (res (I.with s.nx sv #[]) env w0.heap.size s.nx o) w w'):SR (I.with s.nx sv #[]) env w0 s' w':=by
 obtain⟨rfl,rfl⟩:=gT hf
 refine h.turn (t:=fun _=>False) (b:=s.nx) (Agree.with _ _ _ _) (ab7 _) (fun _ _ _=>rfl) hA.keeps.io hA.keeps.size (fun j hj _=>hA.keeps.block j hj (by simp)) (fun _ hj=>hj.elim) (fun n o' hn e=>?_) (fun o' e=>?_) (fun n hn=>?_) (h.env.agree (Agree.with _ _ _ _) (ab7 _))
 ·rcases jD e with⟨h1,_⟩|⟨_,h2⟩
  ·exact absurd h1 hn
  ·exact .inr ⟨h2,fun _ _ hj=>hj⟩
 ·rcases jD e with⟨_,rfl⟩|⟨h1,_⟩
  ·exact⟨acU _,ho,hA.holds,fun j hj=>.inr (hA.fp j hj)⟩
  ·exact absurd rfl h1
 ·have:=h.cj n hn;exact Nat.lt_succ_of_lt this
theorem SR.chg{I:Ip}{env:Env}{w0 w w':World}{s:St}{o o':lu}{n:Nat}(h:SR I env w0 s w)(hf:find s.h n=some o)(ho:okO s.nx o')(hU:oc (res I env w0.heap.size n o) (res I env w0.heap.size n o') w w'):SR I env w0 (wrote s n o') w':=by
 refine h.turn (t:=(res I env w0.heap.size n o).fp) (b:=n) (Agree.refl _ _) (aah _) (fun _ _ _=>rfl) hU.io hU.size hU.block (h.low n o hf) (fun m x hn e=>?_) (fun x e=>?_) h.cj h.env
 ·rcases jD e with⟨h1,_⟩|⟨_,h2⟩
  ·exact absurd h1 hn
  ·exact .inr ⟨h2,fun j hj hj'=>h.apart n m o x hf h2 (fun e=>hn e.symm) j hj' hj⟩
 ·rcases jD e with⟨_,rfl⟩|⟨h1,_⟩
  ·exact⟨(h.ok n o hf).1,ho,hU.holds,hU.fp⟩
  ·exact absurd rfl h1
theorem SR.move{I:Ip}{env:Env}{w0 w w':World}{s s':St}{o o':lu}{n n':Nat}(h:SR I env w0 s w)(hf:find s.h n=some o)(hfr:fresh (wrote s n .dead) o' = some (n',s'))(sv:SV)(ho:okO (s.nx+1) o')
  (hU:oc (res I env w0.heap.size n o) (res (I.with s.nx sv #[]) env w0.heap.size s.nx o') w w'):SR (I.with s.nx sv #[]) env w0 s' w':=by
 obtain⟨rfl,rfl⟩:=gT hfr
 refine h.turn (t:=(res I env w0.heap.size n o).fp) (b:=s.nx) (Agree.with _ _ _ _) (ab7 _) (fun _ _ _=>rfl) hU.io hU.size hU.block (h.low n o hf) (fun m x hn e=>?_) (fun x e=>?_) (fun m hm=>?_) (h.env.agree (Agree.with _ _ _ _) (ab7 _))
 ·rcases jD e with⟨h1,_⟩|⟨_,h2⟩
  ·exact absurd h1 hn
  ·rcases jD h2 with⟨h3,rfl⟩|⟨h3,h4⟩
   ·subst h3;exact .inl ⟨rfl,by have:=(h.ok m o hf).1;simp only[Ym];omega⟩
   ·exact .inr ⟨h4,fun j hj hj'=>h.apart n m o x hf h4 (fun e=>h3 e.symm) j hj' hj⟩
 ·rcases jD e with⟨_,rfl⟩|⟨h1,_⟩
  ·exact⟨acU _,ho,hU.holds,hU.fp⟩
  ·exact absurd rfl h1
 ·have:=h.cj m hm;exact Nat.lt_succ_of_lt this
theorem SR.keep{I:Ip}{env:Env}{w0 w w':World}{s:St}(h:SR I env w0 s w)(hk:gw [] w w'):SR I env w0 s w' :=
 h.turn (t:=fun _=>False) (b:=s.nx) (Agree.refl _ _) (aah _) (fun _ _ _=>rfl) hk.io hk.size (fun j hj _=>hk.block j hj (by simp)) (fun _ hj=>hj.elim) (fun n o' _ e=>.inr ⟨e,fun _ _ hj=>hj⟩)
  (fun o' e=>absurd (h.ok _ _ e).1 (ab4 _)) h.cj h.env
end Go.Ev
end
section
namespace Go.Ev
open Go.Fw
structure Vr(I:Ip)(env:Env)(w0:World)(s s':St)(v:AV)(u:Value)(w':World)(I':Ip):Prop where
 ag:Agree s.nx I I'
 sr:SR I' env w0 s' w'
 val:u=I'.g v
 QE:jz s'.nx v
 step:Step s s'
 cj:s'.cj=s.cj
def Left(I:Ip)(env:Env)(w0:World)(s s':St)(v:AV)(u:Value)(w':World):Prop:=∃ I',Vr I env w0 s s' v u w' I'
section
variable {I:Ip}{env:Env}{n:Nat}{w0 w:World}{s s':St}{F:Fm}{a:Act}{dd:List Deferred}{P:Program}
theorem SR.newPt(h:SR I env w0 s w){m N T:Nat}{l:List AV}(hf:fresh s (.pt N l T)=some (m,s'))(hr:Row s.nx N l){v:AV}{u:Value}(hv:jz (s.nx+1) v)(hg:∀ I':Ip,(I'.sv m).blk=w.heap.size→u=ig I'.sv v) :
  Left I env w0 s s' v u (w.alloc (.cells (l.map I.g).toArray T (0,0))):=by
 have hst:=Step.fresh hf
 obtain⟨e1,e2⟩:=gT hf
 refine⟨I.with s.nx ⟨some ⟨w.heap.size,0,none⟩,0,0⟩ #[],?_⟩
 have hb:((I.with s.nx ⟨some ⟨w.heap.size,0,none⟩,0,0⟩ #[]).sv m).blk=w.heap.size:=by rw[e1,mE];rfl
 refine⟨Agree.with _ _ _ _,?_,hg _ hb,by rw[e2];exact hv,hst,by rw[e2]⟩
 refine h.add hf _ ⟨hr.n,hr.one,fun v hv=>jF (ab7 _) v (hr.ok v hv)⟩ ?_
 have:=iy.alloc w (.cells (l.map I.g).toArray T (0,0))
 simp only[res]
 rw[(Agree.with I s.nx _ _).map hr.ok,mE]
 exact this
theorem Nw{k:Nat}{v:AV}(h:jz k v)(hc:oY v=true):Row k (lenOf v) (cellsOf v):=by
 obtain⟨h1,h2⟩:=Js h hc
 exact⟨NY h,h1,h2⟩
theorem Yd.B5{P:Program}{o:Oper}{ρ:Operand→Value}{w w':World}{v:Value}{J:Value→World→Prop}(hr:(execOp ρ o).run P w = .ok (.value v) w')(h:J v w'):Yd P o ρ w J:=by
 unfold Yd;rw[hr];exact h
theorem Yd.skip'{P:Program}{o:Oper}{ρ:Operand→Value}{w w':World}{J:Value→World→Prop}(hr:(execOp ρ o).run P w = .ok .skip w')(h:J undef w'):Yd P o ρ w J:=by
 unfold Yd;rw[hr];exact h
theorem Yr(h:SR I env w0 s w)(hF:FR I s.nx n F a dd){call:ki}{o:Oper}{e:Nat}{v:AV}(ho:o.op = .alloc e)(hh:mU (gd P) call s F o.op=some (v,s')):Yd P o a.eval w (Left I env w0 s s' v):=by
 rw[ho]at hh
 simp only[mU,ac1,acT]at hh
 obtain⟨z,hz,⟨m,s1⟩,hf,hh⟩:=hh
 simp only[adq,Prod.mk.injEq]at hh
 obtain⟨rfl,rfl⟩:=hh
 obtain⟨h1,h2,h3⟩:=lG (P:=P) hz I s.nx w
 have hm:=(gT hf).1
 refine Yd.B5 (v:=.pointer (some ⟨w.heap.size,0,none⟩)) (w':=w.alloc (.cells ((cellsOf z).map I.g).toArray e (0,0))) ?_ (h.newPt hf (Nw h2 h3) (by simp only[jz];omega) (fun I' hb=>by simp only[ig,hb]))
 simp only[execOp,ho,Instr.alloc,newVar,newRow,Sem.run_bind,h1,Result.andThen_ok,run_newObj,Sem.run_pure]
 rw[show(I.g z).cells=_ from jB I.sv z];rfl
theorem ZU(h:SR I env w0 s w)(hF:FR I s.nx n F a dd){call:ki}{o:Oper}{e:Nat}{x:Operand}{v:AV}(ho:o.op = .box e x)(hh:mU (gd P) call s F o.op=some (v,s')):Yd P o a.eval w (Left I env w0 s s' v):=by
 rw[ho]at hh
 simp only[mU,ac1,acT]at hh
 obtain⟨z,hz,hh⟩:=hh
 split at hh
 ·cases hh
 ·rename_i hc
  rw[acT]at hh
  obtain⟨⟨m,s1⟩,hf,hh⟩:=hh
  simp only[adq,Prod.mk.injEq]at hh
  obtain⟨rfl,rfl⟩:=hh
  obtain⟨h1,h2⟩:=hF.eval hz
  have h3:oY z=true:=by simpa using hc
  have hm:=(gT hf).1
  refine Yd.B5 (v:=.pointer (some ⟨w.heap.size,0,none⟩)) (w':=w.alloc (.cells ((cellsOf z).map I.g).toArray e (0,0))) ?_ (h.newPt hf (Nw h2 h3) (by simp only[jz];omega) (fun I' hb=>by simp only[ig,hb]))
  simp only[execOp,ho,h1,Instr.box,newVar,newRow,Sem.run_bind,Result.andThen_ok,run_newObj,Sem.run_pure]
  rw[show(I.g z).cells=_ from jB I.sv z];rfl
theorem SR.left(h:SR I env w0 s w){w':World}{o o':lu}{m:Nat}(hf:find s.h m=some o)(ho:okO s.nx o')(hU:oc (res I env w0.heap.size m o) (res I env w0.heap.size m o') w w'){v:AV}(hv:jz s.nx v):Left I env w0 s (wrote s m o') v (I.g v) w' :=
 ⟨I,Agree.refl _ _,h.chg hf ho hU,rfl,hv,Step.wrote _ _ _,rfl⟩
theorem Ys(h:SR I env w0 s w)(hF:FR I s.nx n F a dd){call:ki}{o:Oper}{t:Nat}{x y:Operand}{v:AV}(ho:o.op = .store t x y)(hh:mU (gd P) call s F o.op=some (v,s')):Yd P o a.eval w (Left I env w0 s s' v):=by
 rw[ho]at hh
 simp only[mU,ac1,acT]at hh
 obtain⟨u,hu,p,hp,hh⟩:=hh
 obtain⟨h1,h2⟩:=hF.eval hu
 obtain⟨h3,h4⟩:=hF.eval hp
 cases p<;>simp only at hh<;>try (cases hh;done)
 rename_i m off
 rw[acT]at hh
 obtain⟨z,hz,hh⟩:=hh
 split at hh
 ·cases hh
 ·rename_i hc
  simp only[not_or,ne_eq,Decidable.not_not,ac6]at hc
  obtain⟨hc1,qN⟩:=hc
  rw[acT]at hh
  obtain⟨s1,hs1,hh⟩:=hh
  simp only[adq,Prod.mk.injEq]at hh
  obtain⟨rfl,rfl⟩:=hh
  have hsz:=fO (P:=P) hz w
  cases ug:find s.h m with
  | none=>simp[A5,ug]at hs1
  | some ob =>
   cases ob<;>simp only[A5,ug]at hs1<;>try (cases hs1;done)
   rename_i N l T
   rw[ac1,acT]at hs1
   obtain⟨r,hr,hs1⟩:=hs1
   simp only[adq]at hs1
   subst hs1
   obtain⟨hk,hok⟩:=h.ok m _ ug
   have hrow:Row s.nx N l:=⟨hok.1,hok.2.1,hok.2.2⟩
   have hv:=Nw h2 qN
   obtain⟨e1,h5,hle⟩:=S3 hr hrow hv.n hv.one hv.ok
   have hb:=h.holds m _ ug
   have hU:=oc.setRow (cs':=(r.map I.g)) hb
   have hlen:((cellsOf u).map I.g).length=z:=by rw[abM,hv.n,hc1]
   have hst:=run_storeCells_at P (I.sv m).blk off T ((cellsOf u).map I.g) 0 (l.map I.g).toArray w hb (by have:=hrow.n;rw[aca,abM,abM,hv.n];omega) (fun q hq=>by
    obtain⟨q',yL,rfl⟩:=aaW.1 hq
    exact Iq (hv.one q' yL))
   refine Yd.skip' (w':=w.setRow (I.sv m).blk (r.map I.g).toArray) ?_ (h.left (v:=.nY) (o':=.pt N r T) ug ⟨h5.n,h5.one,h5.ok⟩ hU trivial)
   rw[e1,S0]
   simp only[ab_]at hst
   simp only[execOp,ho,h1,h3,Instr.storeAt,Instr.sureAddr,storeVar,Sem.run_bind,Sem.run_pure,Result.andThen_ok,hsz,show(I.g u).cells=_ from jB I.sv u,aca,hlen,ne_eq,not_true_eq_false,if_false,ig,hst]
   have hz2:(cellsOf u).length=z:=by rw[hv.n,hc1]
   simp[put,hz2]
theorem WR(h:SR I env w0 s w){call:ki}{o:Oper}{t:Nat}{v:AV}(ho:o.op = .makeMap t none)(hh:mU (gd P) call s F o.op=some (v,s')):Yd P o a.eval w (Left I env w0 s s' v):=by
 rw[ho]at hh
 simp only[mU,ac1,acT]at hh
 obtain⟨⟨m,s1⟩,hf,hh⟩:=hh
 simp only[adq,Prod.mk.injEq]at hh
 obtain⟨rfl,rfl⟩:=hh
 have hst:=Step.fresh hf
 obtain⟨e1,e2⟩:=gT hf
 refine Yd.B5 (v:=.map (some w.heap.size)) (w':=w.alloc (.map #[] 0)) ?_ ⟨I.with s.nx ⟨some ⟨w.heap.size,0,none⟩,0,0⟩ #[],Agree.with _ _ _ _,h.add hf _ (by simp[okO]) ?_,?_,by rw[e2,e1];exact acU _,hst,by rw[e2]⟩
 ·simp only[execOp,ho,acL,Sem.run_bind,show(Instr.makeMap t none).run P w = .ok (.map (some w.heap.size)) (w.alloc (.map #[] 0))from rfl,Result.andThen_ok,Sem.run_pure]
 ·simp only[res,mE];exact iy.alloc w _
 ·simp only[Ip.g,ig,e1,mE];rfl
theorem Yq{zs:List Value}{sz:Nat}(hz:zs.length=sz):∀ len:Nat,(List.range (len*sz)).map (fun i=>zs.toArray[i%sz]!)=(List.range len).flatMap fun _=>zs:=by
 intro len
 induction len with
 | zero=>simp
 | succ len ih =>
  rw[aci,acJ,List.range_add,abo,ih,abn,ac_,ac5]
  congr 1
  simp only[List.flatMap_cons,List.flatMap_nil,ada]
  apply abL (by simp[hz])
  intro i h1 h2
  simp at h1
  have e:(len*sz+i)%sz=i:=by rw[Nat.mul_comm,Nat.mul_add_mod,abm h1]
  simp[e,h2,getElem!_pos]
theorem fG{α:Type}(zs:List α)(len:Nat):((List.range len).flatMap fun _=>zs).length=len*zs.length:=by
 induction len with
 | zero=>simp
 | succ n ih=>rw[abn,ac_,ach,ih];simp[aci]
theorem VH(h:SR I env w0 s w)(hF:FR I s.nx n F a dd){call:ki}{o:Oper}{t len:Nat}{ps:Array (Nat×Operand)}{v:AV}(ho:o.op = .buildSlice t len ps)(hh:mU (gd P) call s F o.op=some (v,s')):Yd P o a.eval w (Left I env w0 s s' v):=by
 rw[ho]at hh
 simp only[mU,ac1,acT]at hh
 obtain⟨d,(hd:P.underlying t=some d),hh⟩:=hh
 cases d<;>simp only at hh<;>try (cases hh;done)
 rename_i e
 rw[acT]at hh
 obtain⟨sz,hsz,hh⟩:=hh
 rw[acT]at hh
 obtain⟨z,hz,hh⟩:=hh
 obtain⟨z1,z2,z3⟩:=lG (P:=P) hz I s.nx w
 obtain⟨ie,hie,Hv⟩:=aaI.1 (show(P.info? e).map (·.size)=some sz from hsz)
 split at hh
 ·split at hh
  ·rename_i hc
   obtain⟨rfl,hps⟩:=hc
   rw[acT]at hh
   obtain⟨⟨m,s1⟩,hf,hh⟩:=hh
   simp only[adq,Prod.mk.injEq]at hh
   obtain⟨rfl,rfl⟩:=hh
   have hm:=(gT hf).1
   have PV:ps = #[]:=by
    have:ps.toList = []:=List.isEmpty_iff.1 hps
    exact Array.toList_eq_nil_iff.1 this
   subst PV
   refine Yd.B5 (v:=.slice (some ⟨w.heap.size,0,none⟩) 0 0) (w':=w.alloc (.cells ((([]:List AV)).map I.g).toArray e (0,0))) ?_ (h.newPt hf ⟨rfl,by simp,by simp⟩ (by simp only[jz];omega) (fun I' hb=>by simp only[ig,hb]))
   have hr:(Instr.buildSlice t 0 #[]).run P w = .ok (SV.v ⟨some ⟨w.heap.size,0,none⟩,0,0⟩) (w.alloc (.cells #[] e (0,0))):=by
    have e1:∀ w,(sizeOf e).run P w = .ok ie.size w:=fun w=>by simp[sizeOf,typeInfo,hie]
    simp only[Instr.buildSlice,Sem.run_bind,run_underlying hd,Result.andThen_ok,e1,acj]
    have e0:Array.range 0 = #[]:=by simp
    simp[Instr.fill,newRow]
    rw[e0,acM]
   simp only[execOp,ho,Sem.run_bind,acd,abq,acM,hr,Result.andThen_ok,Sem.run_pure]
  ·cases hh
 ·rename_i hc
  simp only[not_or,ne_eq,Decidable.not_not]at hc
  obtain⟨hc1,qN,hc3⟩:=hc
  rw[acT]at hh
  obtain⟨vs,hvs,hh⟩:=hh
  rw[acT]at hh
  obtain⟨cs,hcs,hh⟩:=hh
  rw[acT]at hh
  obtain⟨⟨m,s1⟩,hf,hh⟩:=hh
  simp only[adq,Prod.mk.injEq]at hh
  obtain⟨rfl,rfl⟩:=hh
  have hm:=(gT hf).1
  obtain⟨p1,p2⟩:=hF.parts hvs
  have Qn:=Nw z2 z3
  have I_:(cellsOf z).length=sz:=by rw[Qn.n,hc3]
  have hrow:Row s.nx (len*sz) ((List.range len).flatMap fun _=>cellsOf z):=by
   refine⟨by rw[fG,I_],fun u hu=>?_,fun u hu=>?_⟩
   ·obtain⟨_,_,hu⟩:=aa5.1 hu;exact Qn.one u hu
   ·obtain⟨_,_,hu⟩:=aa5.1 hu;exact Qn.ok u hu
  obtain⟨h5,h6⟩:=FG (I:=I) vs hcs hrow p2
  obtain⟨zv,EB,hzo⟩:=acT.1 (show((P.info? e).bind (·.zero)).bind Je=some z from hz)
  rw[hie,aaS]at EB
  have hzg:I.g z=zv:=(IJ hzo I.sv s.nx).1
  have LK:zv.cells=((cellsOf z).map I.g).toArray:=by rw[←hzg];exact jB I.sv z
  have qj:Instr.fill (fun i=>some (i*ie.size,ie.size)) ((Array.range (len*ie.size)).map (zv.cells[· % zv.cells.size]!)) (ps.map fun(i,x)=>(i,a.eval x)).toList=some (cs.map I.g).toArray:=by
   rw[Hv,LK]
   have e2:(Array.range (len*sz)).map (fun i=>((cellsOf z).map I.g).toArray[i%((cellsOf z).map I.g).toArray.size]!)=(((List.range len).flatMap fun _=>cellsOf z).map I.g).toArray:=by
    have e3:((cellsOf z).map I.g).toArray.size=sz:=by simp[I_]
    rw[e3,←adb]
    simp only[acW,acX]
    rw[Yq (by simp[I_]) len,List.map_flatMap]
   rw[e2]
   rw[acW]
   rw[show(ps.toList.map fun(x:Nat×Operand)=>(x.1,a.eval x.2))=_ from p1]
   exact h6
  have hr:=run_buildSlice (P:=P) w t e len (ps.map fun(i,x)=>(i,a.eval x)) (cs.map I.g).toArray ie zv hd hie EB (by rw[Hv];omega) (by rw[Hv];exact hc1) qj
  refine Yd.B5 (v:=.slice (some ⟨w.heap.size,0,none⟩) len len) (w':=w.alloc (.cells (cs.map I.g).toArray e (0,0))) ?_ (h.newPt hf h5 (by simp only[jz];omega) (fun I' hb=>by simp only[ig,hb]))
  simp only[execOp,ho,Sem.run_bind,hr,Result.andThen_ok,Sem.run_pure]
end
end Go.Ev
end
