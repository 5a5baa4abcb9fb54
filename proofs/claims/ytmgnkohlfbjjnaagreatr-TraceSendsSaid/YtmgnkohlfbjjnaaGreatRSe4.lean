/- Ground for the claim TraceSends. -/
import Derived.Laws.MakeOwn
import Derived.Test.YtmgnkohlfbjjnaaGreatRSe3
set_option linter.unusedVariables false
set_option linter.unusedSimpArgs false
section
namespace Go.Fx
open Go Go.Fw
def mk{X:Type}(bytes:Nat)(z:X)(n:Int):Option (List X):=if 0≤n∧(bytes:Int)*n≤281474976710656∧n≤4611686018427387904 then some (List.replicate n.toNat z)else none
theorem PV{X:Type}{bytes:Nat}{z:X}{n:Int}{l:List X}(h:mk bytes z n=some l):(0≤n∧(bytes:Int)*n≤281474976710656∧n≤4611686018427387904)∧l=List.replicate n.toNat z:=by
 unfold mk at h
 split at h
 ·cases h;exact⟨by assumption,rfl⟩
 ·cases h
theorem U1(n:Nat):encs (List.replicate n (0:UInt8))=List.replicate n (.int .u8 0):=by
 induction n with
 | zero=>rfl
 | succ n ih=>rw[acA,kE,ih];rfl
theorem Tz(n:Nat):(madeCells #[.int .u8 0] n).toList=List.replicate n (.int .u8 0):=by
 apply aa6
 intro i
 simp only[madeCells,acB,acC,abE,acD,acE]
 by_cases h:i<n
 ·simp[h,Nat.mod_one]
 ·simp[h]
section
variable {P:Program}{n:Nat}{F:List (Nat×Value)}{a:Act}{dd:List Deferred}{w:World}{o:Oper}{J:Value→World→Prop}
theorem K6{x y:Operand}{t e bytes:Nat}{c:Int}{k k':IntKind}{l:List UInt8}{i:TypeInfo}(hr:Fx.mk bytes (0:UInt8) c=some l)(ht:P.underlying t=some (.slice e))(hi:P.info? e=some i)(hz:i.zero=some (.int .u8 0))
  (hsize:i.size=1) (yk:i.bytes=bytes) (hF:Fr n F a dd) (ho:o.op = .makeSlice t x y) (hx:ev F x=some (.int k c)) (hy:ev F y=some (.int k' c))
  (next:∀ (s:SV) w',iz (ak 0 s e l) w w' → J s.v w'):Yd P o a.eval w J:=by
 subst yk
 obtain⟨hb,rfl⟩:=PV hr
 have hrun:=run_make (P:=P) w t e i (.int .u8 0) ht hi hz k k' c c hb.1 (abO _) hb.2.1 ac_
 have hA:iz (ak 0 ⟨some ⟨w.heap.size,0,none⟩,c.toNat,c.toNat⟩ e (List.replicate c.toNat (0:UInt8))) w (w.alloc (.cells (madeCells (Value.int .u8 0).cells (c.toNat*i.size)) e)):=by
  have hm:(madeCells (Value.int .u8 0).cells (c.toNat*i.size)).toList=List.replicate c.toNat (.int .u8 0):=by rw[hsize,acF];exact Tz _
  refine⟨gw.alloc w _,⟨by rw[dN],.inr ⟨w.heap.size,c.toNat,_,by simp[SV.v],aau _,heap_alloc_new w _,by simp,by simp only[maxLen];omega,?_,?_⟩⟩,fun k hk=>by simp[di.fp,SV.v,Value.ownBlock]at hk;omega⟩
  ·rw[size_madeCells,hsize];rfl
  ·rw[hm,U1,abu]
   exact abW (by rw[abu];exact acG (acF _).symm)
 have h:=next _ _ hA
 unfold Yd
 simp only[execOp,ho,hF.eval hx,hF.eval hy,Sem.run_bind,hrun,Result.andThen_ok,Sem.run_pure]
 exact h
end
end Go.Fx
end
section
namespace Go.Ev
open Go.Fw
inductive AV where
 | b (x:Bool)
 | i (k:IntKind) (n:Int)
 | s (l:List UInt8)
 | np|nsl|nf|nm|nh
 | p (n off:Nat)
 | sl (n off len cap:Nat)
 | row (n:Nat) (cuts:List (Nat×Nat×Nat))
 | mp (n:Nat)
 | f (g:Nat) (fs cs:List AV)
 | y (n:Nat)
 | agg (n:Nat) (l:List AV)
 | y8 (l:List AV)
deriving Inhabited
inductive Tr(α:Type) where
 | e
 | n (v:Option α) (l r:Tr α)
deriving Inhabited
def Tr.path{α:Type}:Nat→Nat→α→Tr α
 | 0,_,_=>.e
 | d+1,k,x=>bif Nat.beq k 0 then .n (some x) .e .e else bif Nat.beq (k%2) 1 then .n none (Tr.path d (k/2) x) .e else .n none .e (Tr.path d (k/2-1) x)
noncomputable def Tr.get{α:Type}(t:Tr α):Nat→Option α :=
 Tr.rec (motive:=fun _=>Nat→Option α) (fun _=>none) (fun v _ _ gl gr k=>bif Nat.beq k 0 then v else bif Nat.beq (k%2) 1 then gl (k/2)else gr (k/2-1)) t
noncomputable def Tr.set{α:Type}(t:Tr α)(k:Nat)(x:α):Tr α :=
 Tr.rec (motive:=fun _=>Nat→Tr α) (fun k=>Tr.path 20 k x) (fun v l r sl sr k=>bif Nat.beq k 0 then .n (some x) l r else bif Nat.beq (k%2) 1 then .n v (sl (k/2)) r else .n v l (sr (k/2-1))) t k
mutual
def ren(f:Nat→Nat):AV→AV
 | .p n off=>.p (f n) off
 | .sl n off len cap=>.sl (f n) off len cap
 | .row n cuts=>.row (f n) cuts
 | .mp n=>.mp (f n)
 | .y n=>.y (f n)
 | .f g a c=>.f g (qu f a) (qu f c)
 | .agg n l=>.agg n (qu f l)
 | .y8 l=>.y8 (qu f l)
 | v=>v
def qu(f:Nat→Nat):List AV→List AV
 | []=>[]
 | v::r=>ren f v::qu f r
end
mutual
def wt:AV→AV→Bool
 | .b x,.b y=>x==y
 | .i k x,.i k' y=>decide (k=k')&&decide (x=y)
 | .s x,.s y=>decide (x=y)
 | .np,.np=>true
 | .nsl,.nsl=>true
 | .nf,.nf=>true
 | .nm,.nm=>true
 | .nh,.nh=>true
 | .p n o,.p n' o'=>Nat.beq n n' && Nat.beq o o'
 | .sl n o l c,.sl n' o' l' c'=>Nat.beq n n' && Nat.beq o o' && Nat.beq l l' && Nat.beq c c'
 | .row n c,.row n' c'=>Nat.beq n n' && decide (c=c')
 | .mp n,.mp n'=>Nat.beq n n'
 | .y n,.y n'=>Nat.beq n n'
 | .f g a c,.f g' a' c'=>Nat.beq g g' && rq a a' && rq c c'
 | .agg n l,.agg n' l'=>Nat.beq n n' && rq l l'
 | .y8 l,.y8 l'=>rq l l'
 | _,_=>false
def rq:List AV→List AV→Bool
 | [],[]=>true
 | x::l,y::m=>wt x y&&rq l m
 | _,_=>false
end
noncomputable def vm{α:Type}(l:List α):Nat→Option α :=
 List.rec (motive:=fun _=>Nat→Option α) (fun _=>none) (fun x _ ih k=>bif Nat.beq k 0 then some x else ih (k-1)) l
noncomputable def lh{α:Type}(l:List α):Nat→List α :=
 List.rec (motive:=fun _=>Nat→List α) (fun _=>[]) (fun x xs ih k=>bif Nat.beq k 0 then x::xs else ih (k-1)) l
noncomputable def lw{α:Type}(l:List α):Nat→List α :=
 List.rec (motive:=fun _=>Nat→List α) (fun _=>[]) (fun x _ ih k=>bif Nat.beq k 0 then []else x::ih (k-1)) l
noncomputable def yw{α:Type}(l m:List α):List α :=
 List.rec (motive:=fun _=>List α) m (fun x _ ih=>x::ih) l
noncomputable def CS{α:Type}(l:List α):Nat :=
 List.rec (motive:=fun _=>Nat) 0 (fun _ _ ih=>ih+1) l
noncomputable def x5{α:Type}(vs:List α):List α→List α :=
 List.rec (motive:=fun _=>List α→List α) (fun l=>l) (fun v _ ih l=>v::ih l.tail) vs
noncomputable def C0{α:Type}(l:List α)(k:Nat)(vs:List α):List α :=
 List.rec (motive:=fun _=>Nat→List α) (fun _=>vs) (fun x xs ih k=>bif Nat.beq k 0 then x5 vs (x::xs)else x::ih (k-1)) l k
inductive kC where
 | pt (n:Nat) (l:List AV) (T:Nat)
 | fz (n:Nat) (l:List AV) (T:Nat)
 | row (e sz m:Nat) (l:List AV)
 | map (es:List (AV×AV×Nat)) (clock:Nat)
 | loop (st:LoopState) (pend:Option (Option Nat))
 | defd (taken:Bool)
 | dead
deriving Inhabited
abbrev Fm:=Tr AV
structure ua where
 fn:Nat
 n:Nat
 tm:Fm
 ps:List Nat
 Ge:Code
 body:Code
 d:Nat
abbrev Env:=List (Nat×ua)
def ij:Env→Nat→Option ua
 | [],_=>none
 | (m,i)::r,n=>bif Nat.beq m n then some i else ij r n
abbrev Heap:=Tr kC
structure St where
 h:Heap
 nx:Nat
 dW:List Nat:=[]
 wr:List Nat:=[]
deriving Inhabited
noncomputable def find(h:Heap)(n:Nat):Option kC:=h.get n
noncomputable def upd(h:Heap)(n:Nat)(o:kC):Heap:=h.set n o
def uS{β:Type}(n:Nat)(k:Nat→β):β:=match n with
 | 0=>k 0
 | m+1=>k (m+1)
def AA{β:Type}(n:Int)(k:Int→β):β:=match n with
 | .ofNat m=>uS m fun m=>k (.ofNat m)
 | .negSucc m=>uS m fun m=>k (.negSucc m)
def force{β:Type}(v:AV)(k:AV→β):β:=match v with
 | .i q n=>AA n fun n=>k (.i q n)
 | .b true=>k (.b true)
 | .b false=>k (.b false)
 | .p n off=>uS n fun n=>uS off fun off=>k (.p n off)
 | v=>k v
structure Tab where
 small:Nat→Bool
 nh:Nat→Option TypeDesc
 sz:Nat→Option Nat
 zero:Nat→Option AV
 plain:Nat→Bool
 fn:Nat→Option (Nat×List ResultVar×Code)
def wy:TypeDesc→Bool
 | .struct _ | .array _ _=>true
 | _=>false
def Gu:Value→Option AV
 | .bool b=>some (.b b)
 | .int k n=>some (.i k n)
 | .string s=>some (.s s.data.toList)
 | .pointer none=>some .np
 | .slice none 0 0=>some .nsl
 | .map none=>some .nm
 | .nilFunc=>some .nf
 | _=>none
noncomputable def Gv:Value→Option AV
 | .agg cs=>(cs.toList.mapM Gu).map fun l=>.agg (CS l) l
 | v=>Gu v
noncomputable def iZ(F:Fm):Operand→Option AV
 | .tmp t=>F.get t
 | .const v=>Gv v
 | .func g=>some (.f g [] [])
 | .global _=>none
def cellsOf:AV→List AV
 | .agg _ l=>l
 | v=>[v]
def lenOf:AV→Nat
 | .agg n _=>n
 | _=>1
def pz:AV→Bool
 | .agg _ _=>false
 | .y8 _=>false
 | .nh=>false
 | _=>true
def og:AV→Bool
 | .agg _ _=>true
 | v=>pz v
noncomputable def CZ(n:Nat)(l:List AV)(off m:Nat)(vs:List AV):Option (List AV) :=
 bif Nat.beq off 0&&Nat.beq n m then some vs else bif Nat.ble (off+m) n then some (C0 l off vs)else none
noncomputable def part(T:Tab)(t n:Nat)(cs:List AV)(off:Nat):Option AV:=do
 let d←T.nh t
 if wy d then
  let m←T.sz t
  bif Nat.beq off 0&&Nat.beq m n then some (.agg n cs)else
  bif Nat.ble (off+m) n then some (.agg m (lw (lh cs off) m))else none
 else vm cs off
def yM:BinOp→IntKind→Int→Int→Option AV
 | .add,k,x,y=>some (.i k (k.wrap (x+y)))
 | .sub,k,x,y=>some (.i k (k.wrap (x-y)))
 | .mul,k,x,y=>some (.i k (k.wrap (x*y)))
 | .quo,k,x,y=>if y=0 then none else some (.i k (k.wrap (x.tdiv y)))
 | .rem,k,x,y=>if y=0 then none else some (.i k (x.tmod y))
 | .and,k,x,y=>some (.i k (iP k x y))
 | .or,k,x,y=>some (.i k (uu k x y))
 | .xor,k,x,y=>some (.i k (rm k x y))
 | .andNot,k,x,y=>some (.i k (rV k x y))
 | .eql,_,x,y=>some (.b (decide (x=y)))
 | .neq,_,x,y=>some (.b (!decide (x=y)))
 | .lss,_,x,y=>some (.b (decide (x<y)))
 | .leq,_,x,y=>some (.b (decide (x≤y)))
 | .gtr,_,x,y=>some (.b (decide (y<x)))
 | .geq,_,x,y=>some (.b (decide (y≤x)))
 | _,_,_,_=>none
noncomputable def yv{β:Type}(f:β→Option Bool):List β→Option Bool
 | []=>some true
 | i::is=>do if←f i then yv f is else some false
noncomputable def Ak(f:List AV→List AV→Option Bool)(z:Nat):Nat→List AV→List AV→Option Bool
 | 0,_,_=>some true
 | n+1,xs,ys=>do if←f (lw xs z) (lw ys z)then Ak f z n (lh xs z) (lh ys z)else some false
noncomputable def Cf(T:Tab):Nat→Nat→AV→AV→Option Bool
 | 0,_,_,_=>none
 | d+1,t,x,y=>do
  match←T.nh t,x,y with
  | .bool,.b x,.b y=>some (decide (x=y))
  | .int _,.i k x,.i k' y=>if k=k' then some (decide (x=y))else none
  | .struct fs,.agg n xs,.agg m ys=>if !T.plain t then none else yv (fun f=>do
    if f.name == "_" then none else
    Cf T d f.type (←part T f.type n xs f.offset) (←part T f.type m ys f.offset)) fs.toList
  | .array k e,.agg n xs,.agg m ys=>do
    let z←T.sz e
    bif Nat.beq n (k*z)&&Nat.beq m (k*z)then
     if wy (←T.nh e)then Ak (fun a b=>Cf T d e (.agg z a) (.agg z b)) z k xs ys
     else yv (fun i=>do Cf T d e (←vm xs (i*z)) (←vm ys (i*z))) (List.range k)
    else none
  | _,_,_=>none
noncomputable def Ho(T:Tab)(g:Nat→Option kC)(op:BinOp)(t:Nat):AV→AV→Option AV
 | .i k x,.i k' y =>
  match op with
  | .shl=>if y<0 then none else some (.i k (shl k x y.toNat))
  | .shr=>if y<0 then none else some (.i k (shr k x y.toNat))
  | _=>if k=k' then yM op k x y else none
 | .s x,.s y=>match op with
  | .eql=>some (.b (decide (x=y)))
  | .neq=>some (.b (!decide (x=y)))
  | _=>none
 | .b x,.b y=>do match op,←T.nh t with
  | .eql,.bool=>some (.b (decide (x=y)))
  | .neq,.bool=>some (.b (!decide (x=y)))
  | _,_=>none
 | .agg n x,.agg m y=>match op with
  | .eql=>if !T.plain t then none else do some (.b (←Cf T 20 t (.agg n x) (.agg m y)))
  | .neq=>if !T.plain t then none else do some (.b (!(←Cf T 20 t (.agg n x) (.agg m y))))
  | _=>none
 | .nsl,.nsl=>do match op,←T.nh t with
  | .eql,.slice _=>some (.b true)
  | _,_=>none
 | .sl ..,.nsl=>do match op,←T.nh t with
  | .eql,.slice _=>some (.b false)
  | _,_=>none
 | .row n _,.nsl=>do match op,←T.nh t,g n with
  | .eql,.slice _,some (.row _ _ m _)=>if m=0 then none else some (.b false)
  | _,_,_=>none
 | _,_=>none
def asNat:AV→Option Nat
 | .i _ n=>if 0≤n then some n.toNat else none
 | _=>none
abbrev uf:=Nat→Option kC
def nX:List (Nat×Nat×Nat)→Nat
 | []=>0
 | (i,_,_)::r=>i+nX r
def kP(z:Nat):Nat→List (Nat×Nat×Nat)→Option Nat
 | len,[]=>some len
 | len,(i,j,z')::r=>if i≤j∧j≤len∧z' = z then kP z (j-i) r else none
noncomputable def qp:List (Nat×Nat×Nat)→List AV→List AV
 | [],l=>l
 | (i,j,z)::r,l=>qp r (lw (lh l (i*z)) ((j-i)*z))
noncomputable def sliceOf(g:uf)(z:Nat):AV→Option (Nat×List AV)
 | .nsl=>some (0,[])
 | .sl n off len cap=>match g n with
  | some (.pt N l _)=>if off+len*z≤N∧len≤cap then some (len,bif Nat.beq off 0&&Nat.beq N (len*z)then l else lw (lh l off) (len*z))else none
  | some (.fz N l _)=>if off+len*z≤N∧len≤cap then some (len,bif Nat.beq off 0&&Nat.beq N (len*z)then l else lw (lh l off) (len*z))else none
  | _=>none
 | .row n cuts=>match g n with
  | some (.row _ z' m l)=>if z' = z then do
    let len←kP z m cuts
    some (len,qp cuts l)
   else none
  | _=>none
 | _=>none
noncomputable def uR(place:Nat→Option (Nat×Nat))(N:Nat)(cells:List AV):List (Nat×AV)→Option (List AV)
 | []=>some cells
 | (i,v)::rest=>do
  let(off,size)←place i
  if lenOf v≠size∨og v=false then none else uR place N (←CZ N cells off size (cellsOf v)) rest
noncomputable def ri(F:Fm):List (Nat×Operand)→Option (List (Nat×AV))
 | []=>some []
 | (i,x)::r=>do
  let v←iZ F x
  some ((i,v)::(←ri F r))
noncomputable def qn(F:Fm):List Operand→Option (List AV)
 | []=>some []
 | x::r=>do
  let v←iZ F x
  some (v::(←qn F r))
noncomputable def xo(F:Fm):Option Operand→Option (Option AV)
 | none=>some none
 | some x=>(iZ F x).map some
def mD(k:AV):List (AV×AV×Nat)→Option (Option AV)
 | []=>some none
 | (k',v,_)::r=>match k,k' with
  | .i a x,.i b y=>if a=b then(if x=y then some (some v)else mD k r)else none
  | _,_=>none
def rj(d:Nat):Option AV→Option Nat
 | none=>some d
 | some v=>asNat v
def mapOf(g:uf):AV→Option (List (AV×AV×Nat))
 | .nm=>some []
 | .mp n=>match g n with
  | some (.map es _)=>some es
  | _=>none
 | _=>none
def xN(ok:Bool)(r:Option AV)(z:AV):AV:=match r,ok with
 | some v,true=>.y8 [v,.b true]
 | some v,false=>v
 | none,true=>.y8 [z,.b false]
 | none,false=>z
noncomputable def jd(T:Tab)(g:uf)(F:Fm)(o:Op):Option AV :=
 match o with
 | .move x | .assign x=>iZ F x
 | .pick c x y=>do match←iZ F c with
  | .b t=>if t then iZ F x else iZ F y
  | _=>none
 | .binOp op t x y _=>do Ho T g op t (←iZ F x) (←iZ F y)
 | .unOp op _ x=>do match op,←iZ F x with
  | .not,.b x=>some (.b (!x))
  | .neg,.i k n=>some (.i k (k.wrap (0-n)))
  | _,_=>none
 | .convert s d x=>do match←T.nh s,←T.nh d,←iZ F x with
  | _,.int k,.i _ n=>some (.i k (k.wrap n))
  | .slice e,.string,v=>match←T.nh e with
   | .int .u8=>do
    let l←sliceOf g 1 v
    some (.s (←l.2.mapM fun c=>match c with | .i .u8 n=>if 0≤n∧n<256 then some (UInt8.ofNat n.toNat)else none|_=>none))
   | _=>none
  | _,_,_=>none
 | .fieldAddr t x f=>do match←T.nh t,←iZ F x with
  | .struct fs,.p n off=>do
   let f←fs[f]?
   if(←T.sz f.type)=0 then none else some (.p n (off+f.offset))
  | _,_=>none
 | .field t x f=>do match←T.nh t,←iZ F x with
  | .struct fs,.agg n cs=>do
   let f←fs[f]?
   part T f.type n cs f.offset
  | _,_=>none
 | .indexAddr t x j=>do
  let i←asNat (←iZ F j)
  match←T.nh t,←iZ F x with
  | .slice e,.sl n off len _=>do
   let z←T.sz e
   if i<len then some (.p n (off+i*z))else none
  | .slice e,.row n cuts=>do
   let z←T.sz e
   let l←sliceOf g z (.row n cuts)
   if i<l.1 then some (.p n ((nX cuts+i)*z))else none
  | .array len e,.p n off=>do
   let z←T.sz e
   if i<len then some (.p n (off+i*z))else none
  | _,_=>none
 | .index t x j=>do
  let i←asNat (←iZ F j)
  match←T.nh t,←iZ F x with
  | .array len e,.agg n cs=>do
   let z←T.sz e
   if i<len then part T e n cs (i*z)else none
  | .string,.s l=>do some (.i .u8 ((←l[i]?).toNat))
  | _,_=>none
 | .load t x=>do match←iZ F x with
  | .p n off=>match g n with
   | some (.pt n l _)=>part T t n l off
   | some (.row _ z m l)=>part T t (m*z) l off
   | _=>none
  | _=>none
 | .extract x i=>do match←iZ F x with
  | .y8 l=>vm l i
  | _=>none
 | .nilCheck x=>do match←iZ F x with
  | .p n off=>some (.p n off)
  | .f q a b=>some (.f q a b)
  | _=>none
 | .makeFunc (.func q) fs cs=>do some (.f q (←qn F fs.toList) (←qn F cs.toList))
 | .build t ps=>do
  let vs←ri F ps.toList
  match←T.nh t,←T.zero t with
  | .struct fs,.agg n z=>if !fs.toList.all (fun f=>(T.sz f.type).isSome)then none else do some (.agg n (←uR (fun i=>do
    let f←fs[i]?
    some (f.offset,←T.sz f.type)) n z vs))
  | .array _ e,.agg n z=>do
    let sz←T.sz e
    some (.agg n (←uR (fun i=>some (i*sz,sz)) n z vs))
  | _,_=>none
 | .slice t x lo hi none=>do
  let l←xo F lo
  let r←xo F hi
  let i←rj 0 l
  match←T.nh t,←iZ F x with
  | .slice e,v=>do
   let z←T.sz e
   let l←sliceOf g z v
   let j←rj l.1 r
   if i≤j∧j≤l.1 then
    match v with
    | .nsl=>some .nsl
    | .sl n off _ cap=>some (.sl n (if cap=i then off else off+i*z) (j-i) (cap-i))
    | .row n cuts=>some (.row n (cuts ++ [(i,j,z)]))
    | _=>none
   else none
  | .array len e,.p n off=>do
   let z←T.sz e
   let j←rj len r
   if i≤j∧j≤len∧i=0∧0<len then some (.sl n off j len)else none
  | _,_=>none
 | .call { callee:=.builtin b,args:=xs,argTypes:=ts }=>do
  match b,←qn F xs.toList,ts.toList with
  | .len,[v],t::_=>match←T.nh t,v with
   | .string,.s l=>some (.i .i64 l.length)
   | .slice e,v=>do some (.i .i64 (←sliceOf g (←T.sz e) v).1)
   | _,_=>none
  | .min,[.i k x,.i _ y],_=>some (.i k (if y<x then y else x))
  | .max,[.i k x,.i _ y],_=>some (.i k (if y>x then y else x))
  | _,_,_=>none
 | .lookup t x j ok=>do
  let key←iZ F j
  match←T.nh t,←iZ F x with
  | .map k e,m=>match←T.nh k,mapOf g m,key with
   | .int _,some es,.i _ _=>do
    let r←mD key es
    let z←T.zero e
    some (xN ok r z)
   | _,_,_=>none
  | _,_=>none
 | _=>none
noncomputable def fresh(s:St)(o:kC):Option (Nat×St) :=
 match find s.h s.nx with
 | some _=>none
 | none=>some (s.nx,{ s with h:=upd s.h s.nx o,nx:=s.nx+1 })
noncomputable def wrote(s:St)(n:Nat)(o:kC):St:={ s with h:=upd s.h n o,wr:=bif ji n s.wr then s.wr else n::s.wr }
abbrev jw:=AV→List AV→St→Option (AV×St)
noncomputable def yW(s:St)(n off m:Nat)(cs:List AV):Option St :=
 match find s.h n with
 | some (.pt N l t)=>do some (wrote s n (.pt N (←CZ N l off m cs) t))
 | _=>none
noncomputable def Bd(k v:AV)(clock:Nat)(es:List (AV×AV×Nat)):Option (List (AV×AV×Nat)×Nat):=match k,mD k es with
 | .i _ _,some none=>some (yw es [(k,v,clock)],clock+1)
 | _,_=>none
noncomputable def lz(T:Tab)(call:jw)(s:St)(F:Fm)(o:Op):Option (AV×St) :=
 match o with
 | .alloc e=>do
  let z←T.zero e
  let(n,s)←fresh s (.pt (lenOf z) (cellsOf z) e)
  some (.p n 0,s)
 | .box e x=>do
  let v←iZ F x
  if !og v then none else
  let(n,s)←fresh s (.pt (lenOf v) (cellsOf v) e)
  some (.p n 0,s)
 | .store t x v=>do
  let v←iZ F v
  match←iZ F x with
  | .p n off=>do
   if lenOf v≠(←T.sz t)∨og v=false then none else
   some (.nh,←yW s n off (lenOf v) (cellsOf v))
  | _=>none
 | .buildSlice t len ps=>do match←T.nh t with
  | .slice e=>do
   let sz←T.sz e
   let z←T.zero e
   if len*sz=0∨16777216<len*sz∨lenOf z≠sz then
    (if len=0∧ps.toList.isEmpty=true then do
     let(n,s)←fresh s (.pt 0 [] e)
     some (.sl n 0 0 0,s)
    else none)
   else do
   let cs←uR (fun i=>some (i*sz,sz)) (len*sz) ((List.range len).flatMap fun _=>cellsOf z) (←ri F ps.toList)
   let(n,s)←fresh s (.pt (len*sz) cs e)
   some (.sl n 0 len len,s)
  | _=>none
 | .convert t t' x=>do
  if t≠t' then none else
  match←T.nh t,←iZ F x with
  | .slice e,.sl n off len cap=>match←T.nh e,find s.h n with
   | .int .u8,some (.pt N l q)=>some (.sl n off len cap,wrote s n (.fz N l q))
   | _,_=>none
  | _,_=>none
 | .makeMap _ none=>do
  let(n,s)←fresh s (.map [] 0)
  some (.mp n,s)
 | .mapUpdate t m k v=>do match←T.nh t,←iZ F m with
  | .map kt _,.mp n=>match←T.nh kt,find s.h n with
   | .int _,some (.map es c)=>do
    let(es,c)←Bd (←iZ F k) (←iZ F v) c es
    some (.nh,wrote s n (.map es c))
   | _,_=>none
  | _,_=>none
 | .call { callee:=.builtin .append,args:=xs,argTypes:=ts }=>do
  match←qn F xs.toList,ts.toList with
  | [x,y],[t,t']=>if t≠t' then none else match←T.nh t with
   | .slice e=>do
    let z←T.sz e
    let q←sliceOf (find s.h) z y
    if z=0∨1000000<q.1∨T.small e=false then none else
    match x with
    | .nsl=>if q.1=0 then some (.nsl,s)else do
     let(n,s)←fresh s (.row e z q.1 q.2)
     some (.row n [],s)
    | .sl n off len cap =>
     if len+q.1≤cap∨1000000<len then none
     else do
      let p←sliceOf (find s.h) z (.sl n off len cap)
      let(n,s)←fresh s (.row e z (len+q.1) (yw p.2 q.2))
      some (.row n [],s)
    | .row n []=>match find s.h n with
     | some (.row e' z' m l) =>
      if e' = e∧z' = z∧m≤1000000 then do
       let(n',s')←fresh (wrote s n .dead) (.row e z (m+q.1) (yw l q.2))
       some (.row n' [],s')
      else none
     | _=>none
    | _=>none
   | _=>none
  | _,_=>none
 | .call { callee:=.value g,args:=xs,argTypes:=_ }=>do
  call (←iZ F g) (←qn F xs.toList) s
 | _=>none
def isVal:Op→Bool
 | .move _ | .assign _ | .pick .. | .binOp .. | .unOp .. | .fieldAddr .. | .field .. | .indexAddr .. | .index .. | .load .. | .extract .. | .nilCheck _ | .makeFunc .. | .build .. | .slice .. | .lookup .. | .convert ..=>true
 | .call { callee:=.builtin .len,.. } | .call { callee:=.builtin .min,.. } | .call { callee:=.builtin .max,.. }=>true
 | _=>false
noncomputable def Hq(T:Tab)(call:jw)(s:St)(F:Fm)(o:Op):Option (AV×St):=do
 if isVal o then match jd T (find s.h) F o with
  | some v=>some (v,s)
  | none=>lz T call s F o
 else lz T call s F o
noncomputable def oz(n:Nat)(F:Fm)(d:Option Nat)(v:AV):Option Fm:=match d with
 | some d=>if Nat.blt d n then some (F.set d v)else none
 | none=>some F
noncomputable def qC(ops:Array Oper)(F:Fm)(o:Oper):Option Bool:=match o.guard with
 | none=>some true
 | some (j,want)=>match(ops[j]?).bind (·.dst)with
  | some d=>match F.get d with
   | some (.b c)=>some (c==want)
   | some _=>some false
   | none=>none
  | none=>some false
noncomputable def zE(T:Tab)(call:jw)(n:Nat)(ops:Array Oper):List Oper→Fm→St→Option (Fm×St)
 | [],F,s=>some (F,s)
 | o::r,F,s=>do
  if←qC ops F o then
   let q←Hq T call s F o.op
   force q.1 fun v=>do zE T call n ops r (←oz n F o.dst v) q.2
  else zE T call n ops r (←oz n F o.dst .nh) s
def Fa(f:Nat→Nat):kC→kC
 | .pt n l T=>.pt n (qu f l) T
 | .fz n l T=>.fz n (qu f l) T
 | .row e z m l=>.row e z m (qu f l)
 | .map es c=>.map (es.map fun e=>(ren f e.1,ren f e.2.1,e.2.2)) c
 | o=>o
def LD:kC→kC→Bool
 | .pt n l T,.pt n' l' T'=>Nat.beq n n' && Nat.beq T T' && rq l l'
 | .fz n l T,.fz n' l' T'=>Nat.beq n n' && Nat.beq T T' && rq l l'
 | .row e z m l,.row e' z' m' l'=>Nat.beq e e' && Nat.beq z z' && Nat.beq m m' && rq l l'
 | .map es c,.map es' c'=>Nat.beq c c' && rq (es.map (·.1)) (es'.map (·.1))&&rq (es.map (·.2.1)) (es'.map (·.2.1))&&decide (es.map (·.2.2)=es'.map (·.2.2))
 | .dead,.dead=>true
 | .defd a,.defd b=>a==b
 | .loop a c,.loop a' c'=>decide (a=a')&&decide (c=c')
 | _,_=>false
def E4:AV→List Nat
 | .p n _=>[n]
 | .sl n _ _ _=>[n]
 | .row n _=>[n]
 | .mp n=>[n]
 | _=>[]
def x6(p:Nat→Bool):List Nat→Option Nat
 | []=>none
 | i::r=>bif p i then some i else x6 p r
abbrev Log:=List (Nat×Nat×Nat)
def zm(l l':Log)(n:Nat):Nat:=match l with
 | []=>n
 | (e,a,b)::r=>bif Nat.ble a n&&Nat.blt n b then(match l'.find? (fun q=>Nat.beq q.1 e)with
   | some (_,a',_)=>a' + (n-a)
   | none=>n)else zm r l' n
def yQ(xZ:Nat)(l l':Log)(n:Nat):Nat:=bif Nat.blt n xZ then n else zm l l' n
noncomputable def wG(n xZ:Nat)(f:Nat→Nat)(F:Fm)(s:St)(F':Fm)(s':St):Bool :=
 Nat.beq s.nx s'.nx&&decide (s.dW=s'.dW) &&
 ((List.range (s.nx-xZ)).all fun m=>Nat.ble xZ (f (xZ+m))&&Nat.blt (f (xZ+m)) s.nx) &&
 ni ((List.range (s.nx-xZ)).map fun m=>f (xZ+m)) &&
 ((List.range n).all fun t=>match F.get t,F'.get t with
  | some v,some v'=>wt (ren f v) v'
  | none,none=>true
  | _,_=>false) &&
 (s.wr.all fun m=>ji m s'.wr||Nat.ble xZ m)&&(s'.wr.all fun m=>ji m s.wr||Nat.ble xZ m) &&
 ((s.wr.filter (Nat.blt · xZ)++(List.range (s.nx-xZ)).map (xZ + ·)).all fun m=>match find s.h m,find s'.h (f m)with
  | some o,some o'=>LD (Fa f o) o'
  | none,_=>true
  | _,_=>false)
def isReady(ops:Array Oper)(T:List Nat)(i:Nat):Bool:=!ji i T&&(iq ops i).all (ji · T)
def DJ(ops:Array Oper):List Nat:=(List.range ops.size).foldl (fun acc i=>acc ++ [(iq ops i).foldl (fun m p=>m ||| 2^p ||| acc.getD p 0) 0]) []
def DV(ops:Array Oper)(T:List Nat)(e:Nat):Bool:=T.all fun j=>((DJ ops).getD e 0).testBit j
noncomputable def kZ(F:Fm)(x:Operand)(acc:List Nat):List Nat:=match iZ F x with
 | some v=>(E4 v).foldl (fun acc n=>bif ji n acc then acc else n::acc) acc
 | none=>acc
noncomputable def mY(F:Fm)(o:Op)(acc:List Nat):List Nat:=match o with
 | .load _ x=>kZ F x acc
 | .binOp _ _ x _ _=>(match iZ F x with
  | some (.row _ _)=>kZ F x acc
  | _=>acc)
 | .lookup _ x _ _=>kZ F x acc
 | .convert _ _ x=>kZ F x acc
 | .slice _ x _ _ _=>(match iZ F x with
  | some (.p _ _)=>acc
  | _=>kZ F x acc)
 | .indexAddr _ x _=>(match iZ F x with
  | some (.p _ _)=>acc
  | _=>kZ F x acc)
 | .call c=>c.args.toList.foldl (fun acc x=>kZ F x acc) acc
 | _=>acc
noncomputable def u_(rd:List Nat)(h:Heap):uf:=fun n=>bif ji n rd then find h n else none
def uw(i:Nat):List Nat→List Nat
 | []=>[]
 | j::r=>bif Nat.beq i j then r else j::uw i r
def yy(ops:Array Oper)(D:List Nat)(e nx:Nat)(rd wr:List Nat):Option (List Nat) :=
 if DV ops D e then some []else if wr.all (fun m=>Nat.ble nx m || !ji m rd)then some rd else none
abbrev tZ:=List Nat→List Nat→Fm→List Nat→St→Log→Option (Fm×St×Log)
noncomputable def vu(T:Tab)(call:jw)(n:Nat)(ops:Array Oper)(next:tZ)(R D:List Nat)(F:Fm)(rd:List Nat)(s:St)(lg:Log)(e:Nat):Option (Fm×St×Log):=do
 let o←ops[e]?
 if lu o&&qC ops F o==some true then
  let q←Hq T call { s with wr:=[] } F o.op
  let B5←yy ops D e s.nx rd q.2.wr
  force q.1 fun v=>do next (uw e R) (e::D) (←oz n F o.dst v) B5 { q.2 with wr:=q.2.wr++s.wr } ((e,s.nx,q.2.nx)::lg)
 else none
noncomputable def Az(T:Tab)(n:Nat)(ops:Array Oper)(next:tZ)(R D:List Nat)(F:Fm)(rd:List Nat)(s:St)(lg:Log)(i:Nat):Option (Fm×St×Log):=do
 let o←ops[i]?
 if←qC ops F o then
  let v←jd T (u_ (mY F o.op rd) s.h) F o.op
  force v fun v=>do next (uw i R) (i::D) (←oz n F o.dst v) (mY F o.op rd) s lg
 else next (uw i R) (i::D) (←oz n F o.dst .nh) rd s lg
noncomputable def Je(ops:Array Oper)(F:Fm)(D R:List Nat):Option Nat :=
 x6 (fun i=>(match ops[i]? with|some o=>(bif isVal o.op then true else qC ops F o==some false)|none=>false)&&Be ops D i) R
noncomputable def o5(T:Tab)(call:jw)(n:Nat)(ops:Array Oper):Nat→tZ
 | 0,_,_,_,_,_,_=>none
 | k+1,R,D,F,rd,s,lg =>
  match R with
  | []=>if tt ops D then some (F,s,lg)else none
  | _::_ =>
  match Je ops F D R with
  | some i=>Az T n ops (o5 T call n ops k) R D F rd s lg i
  | none =>
   match R.filter (isReady ops D)with
   | []=>none
   | e::es=>do
    let r←vu T call n ops (o5 T call n ops k) R D F rd s lg e
    if blk ops D (e::es)&&es.all (fun e'=>match vu T call n ops (o5 T call n ops k) R D F rd s lg e' with
     | some r'=>wG n s.nx (yQ s.nx r.2.2 r'.2.2) r.1 r.2.1 r'.1 r'.2.1
     | none=>false)then some r else none
noncomputable def yu(T:Tab)(call:jw)(n:Nat)(ops:Array Oper)(F:Fm)(s:St):Option (Fm×St):=do
 if chk ops then
  let r←o5 T call n ops (ops.size+1) (List.range ops.size) [] F [] s []
  some (r.1,r.2.1)
 else none
inductive AX where
 | n
 | x (id:Nat)
 | r
deriving DecidableEq
def isFn:AV→Bool
 | .f _ _ _=>true
 | _=>false
def xp(body:Fm→St→Option (AX×Fm×St)):Nat→Fm→St→Option (AX×Fm×St)
 | 0,_,_=>none
 | k+1,F,s=>do
  let q←body F s
  match q.1 with
  | .n=>xp body k q.2.1 q.2.2
  | _=>some q
def Hy:Option (Option Nat)→AX
 | none=>.n
 | some none=>.r
 | some (some id)=>.x id
def o_:AX→Option (Option Nat)
 | .n=>none
 | .r=>some none
 | .x id=>some (some id)
noncomputable def uz(s:St)(l:Nat):Option (AX×St):=match find s.h l with
 | some (.loop st pd)=>match st with
  | .busy=>none
  | _=>some (Hy pd,wrote s l .dead)
 | _=>none
noncomputable def jZ(T:Tab)(call:Env→jw)(env:Env)(fn n:Nat)(inRound:Bool)(fuel:Nat):Code→Fm→St→Option (AX×Fm×St)
 | .skip,F,s=>some (.n,F,s)
 | .region _ ops draw,F,s=>if draw then(yu T (call env) n ops F s).map fun q=>(.n,q.1,q.2)else(zE T (call env) n ops ops.toList F s).map fun q=>(.n,q.1,q.2)
 | .seq a b,F,s=>do
  let q←jZ T call env fn n inRound fuel a F s
  match q.1 with
  | .n=>jZ T call env fn n inRound fuel b q.2.1 q.2.2
  | _=>some q
 | .cond c x y,F,s=>do match←iZ F c with
  | .b true=>jZ T call env fn n inRound fuel x F s
  | .b false=>jZ T call env fn n inRound fuel y F s
  | _=>none
 | .block id c,F,s=>do
  let q←jZ T call env fn n inRound fuel c F s
  some (if q.1 = .x id then .n else q.1,q.2.1,q.2.2)
 | .loop c,F,s=>xp (jZ T call env fn n inRound fuel c) fuel F s
 | .exit id,F,s=>some (.x id,F,s)
 | .ret,F,s=>some (.r,F,s)
 | .rangeFunc g ps a b,F,s=>if inRound then none else do
  let gv←iZ F g
  if isFn gv=false then none else
  let(d,s)←fresh s (.defd false)
  let(l,s)←fresh s (.loop .ready none)
  let q←call ((l,⟨fn,n,F,ps.toList,a,b,d⟩)::env) gv [.y l] { s with dW:=d::s.dW }
  let(e,s)←uz q.2 l
  some (e,F,s)
 | _,_,_=>none
noncomputable def ng:List Nat→St→Option St
 | [],s=>some s
 | d::r,s=>match find s.h d with
  | some (.defd false)=>ng r (wrote s d (.defd true))
  | _=>none
noncomputable def xq(T:Tab)(s:St)(F:Fm):List ResultVar→Option (List AV)
 | []=>some []
 | .tmp t::r=>do some ((←F.get t)::(←xq T s F r))
 | .cell t ty::r=>do match←F.get t with
  | .p n off=>match find s.h n with
   | some (.pt n l _)=>do some ((←part T ty n l off)::(←xq T s F r))
   | _=>none
  | _=>none
noncomputable def ve(n:Nat):List Nat→List AV→Fm→Option Fm
 | [],[],F=>some F
 | p::ps,v::vs,F=>if Nat.blt p n then ve n ps vs (F.set p v)else none
 | _,_,_=>none
noncomputable def pn:Nat→Nat→List AV→Fm
 | 0,_,_=>.e
 | n+1,i,[]=>(pn n (i+1) []).set i .nh
 | n+1,i,v::vs=>(pn n (i+1) vs).set i v
def resV:List AV→AV
 | [v]=>v
 | vs=>.y8 vs
noncomputable def pg(T:Tab)(fuel:Nat):Nat→Env→jw
 | 0,_,_,_,_=>none
 | k+1,env,g,args,s=>match g with
  | .f g fs cs=>do
   let(n,rs,body)←T.fn g
   let vs:=fs++args++cs
   if n<vs.length then none else
   let q←jZ T (pg T fuel k) env g n false fuel body (pn n 0 vs) { s with dW:=[] }
   match q.1 with
   | .x _=>none
   | _=>do
    let s' ←ng q.2.2.dW q.2.2
    let r←xq T s' q.2.1 rs
    some (resV r,{ s' with dW:=s.dW,wr:=s'.wr.filter (Nat.blt · s.nx) })
  | .y l=>do
   let I←ij env l
   match find s.h l with
   | some (.loop .ready _)=>do
    let F←ve I.n I.ps args I.tm
    let q←jZ T (pg T fuel k) env I.fn I.n true fuel I.Ge F { s with dW:=[] }
    match q.1,find q.2.2.h l with
    | .n,some (.loop .ready pd)=>do
     let q' ←jZ T (pg T fuel k) env I.fn I.n true fuel I.body q.2.1 (wrote q.2.2 l (.loop .busy pd))
     match find q'.2.2.h l with
     | some (.loop _ _) =>
      some (.b (o_ q'.1).isNone,{ wrote q'.2.2 l (.loop (if(o_ q'.1).isNone then .ready else .done) (o_ q'.1))with dW:=s.dW })
     | _=>none
    | _,_=>none
   | _=>none
  | _=>none
def BM:Option TypeInfo→Bool
 | some i=>Nat.ble i.bytes 1000000&&(match i.zero with
  | some v=>Nat.beq v.cells.size i.size
  | none=>false)
 | none=>false
noncomputable def fe(p:Program):Tab where
 small:=fun t=>BM (p.info? t)
 nh:=fun t=>p.underlying t
 sz:=fun t=>(p.info? t).map (·.size)
 zero:=fun t=>((p.info? t).bind (·.zero)).bind Gv
 plain:=fun t=>!p.eqGuardType p.depth t && !p.stoodInHeld t
 fn:=fun f=>(p.funcs[f]?).bind fun fn=>if fn.name == "runtime.NumGoroutine" then none else fn.body.map fun b=>(fn.ntmps,fn.results.toList,b)
end Go.Ev
end
section
namespace Go.Ev
open Go.Fw
theorem wD{α:Type}(l:List α):∀ k,vm l k=l[k]?:=by
 induction l with
 | nil=>intro k;simp[vm]
 | cons x l ih =>
  intro k
  have e:vm (x::l) k=(bif Nat.beq k 0 then some x else vm l (k-1)):=rfl
  rw[e]
  cases k with
  | zero=>rfl
  | succ k=>show vm l k=l[k]?; exact ih k
theorem rQ{α:Type}(l:List α):∀ k,lh l k=l.drop k:=by
 induction l with
 | nil=>intro k;simp[lh]
 | cons x l ih =>
  intro k
  have e:lh (x::l) k=(bif Nat.beq k 0 then x::l else lh l (k-1)):=rfl
  rw[e]
  cases k with
  | zero=>rfl
  | succ k=>show lh l k=l.drop k;exact ih k
theorem sO{α:Type}(l:List α):∀ k,lw l k=l.take k:=by
 induction l with
 | nil=>intro k;simp[lw]
 | cons x l ih =>
  intro k
  have e:lw (x::l) k=(bif Nat.beq k 0 then []else x::lw l (k-1)):=rfl
  rw[e]
  cases k with
  | zero=>rfl
  | succ k=>show x::lw l k=x::l.take k;rw[ih k]
theorem zX{α:Type}(l m:List α):yw l m=l++m:=by
 induction l with
 | nil=>rfl
 | cons x l ih =>
  have e:yw (x::l) m=x::yw l m:=rfl
  rw[e,ih];rfl
theorem Wi{α:Type}(l:List α):CS l=l.length:=by
 induction l with
 | nil=>rfl
 | cons x l ih =>
  have e:CS (x::l)=CS l+1:=rfl
  rw[e,ih];rfl
theorem Vj{α:Type}(vs:List α):∀ l:List α,vs.length≤l.length→x5 vs l=vs++l.drop vs.length:=by
 induction vs with
 | nil=>intro l _;rfl
 | cons v vs ih =>
  intro l hl
  have e:x5 (v::vs) l=v::x5 vs l.tail:=rfl
  rw[e]
  cases l with
  | nil=>simp at hl
  | cons x l=>rw[List.tail_cons,ih l (by simpa using hl)];simp
theorem Wv{α:Type}(l:List α)(vs:List α):∀ k,k+vs.length≤l.length→C0 l k vs=put l k vs:=by
 induction l with
 | nil =>
  intro k h
  simp only[abV]at h
  have h1:k=0:=ac_
  have h2:vs = []:=ab9 ac_
  subst h1 h2;rfl
 | cons x l ih =>
  intro k h
  have e:C0 (x::l) k vs=(bif Nat.beq k 0 then x5 vs (x::l)else x::C0 l (k-1) vs):=rfl
  rw[e]
  cases k with
  | zero =>
   simp only[ab_]at h
   have:Nat.beq 0 0=true:=rfl
   rw[this,abw,Vj vs (x::l) h];simp[put]
  | succ k =>
   simp only[abm]at h
   have:Nat.beq (k+1) 0=false:=rfl
   rw[this,abt,Nat.add_sub_cancel,ih k ac_]
   simp only[put,acm,aag]
   congr 2
   rw[show k+1+vs.length=(k+vs.length)+1 by omega];simp
section
variable {α:Type}
theorem Tr.get_e(k:Nat):(Tr.e:Tr α).get k=none:=rfl
theorem xG{β:Type}(a b:Nat)(x y:β):(bif Nat.beq a b then x else y)=if a=b then x else y:=by
 cases h:Nat.beq a b with
 | true=>rw[aay (aaf h)];rfl
 | false=>rw[aaz (fun e=>by subst e;simp at h)];rfl
theorem Tr.get_n(v:Option α)(l r:Tr α)(k:Nat):(Tr.n v l r).get k=if k=0 then v else if k%2=1 then l.get (k/2)else r.get (k/2-1):=by
 rw[←xG,←xG];rfl
theorem Tr.set_e(k:Nat)(x:α):(Tr.e:Tr α).set k x=Tr.path 20 k x:=rfl
theorem Tr.set_n(v:Option α)(l r:Tr α)(k:Nat)(x:α):(Tr.n v l r).set k x=if k=0 then .n (some x) l r else if k%2=1 then .n v (l.set (k/2) x) r else .n v l (r.set (k/2-1) x):=by
 rw[←xG,←xG];rfl
theorem Tr.path_s(d k:Nat)(x:α):Tr.path (d+1) k x=if k=0 then .n (some x) .e .e else if k%2=1 then .n none (Tr.path d (k/2) x) .e else .n none .e (Tr.path d (k/2-1) x):=by
 rw[←xG,←xG];rfl
theorem Tr.get_path(d:Nat):∀ (k m:Nat) (x:α),(m≠k→(Tr.path d k x).get m=none)∧(∀ y,(Tr.path d k x).get k=some y→y=x):=by
 induction d with
 | zero=>intro k m x;exact⟨fun _=>rfl,fun y h=>by simp[Tr.path,Tr.get_e]at h⟩
 | succ d ih =>
  intro k m x
  rw[Tr.path_s]
  by_cases hk:k=0
  ·simp only[aay hk,Tr.get_n,Tr.get_e]
   refine⟨fun h=>?_,fun y h=>by simpa using h.symm⟩
   rw[aaz ac_];simp
  ·by_cases h2:k%2=1
   ·simp only[aaz hk,aay h2,Tr.get_n,Tr.get_e]
    refine⟨fun h=>?_,fun y h=>(ih (k/2) 0 x).2 y h⟩
    by_cases hm:m=0
    ·rw[aay hm]
    ·rw[aaz hm]
     by_cases w9:m%2=1
     ·rw[aay w9];exact(ih _ _ x).1 ac_
     ·rw[aaz w9]
   ·simp only[aaz hk,aaz h2,Tr.get_n,Tr.get_e]
    refine⟨fun h=>?_,fun y h=>(ih (k/2-1) 0 x).2 y h⟩
    by_cases hm:m=0
    ·rw[aay hm]
    ·rw[aaz hm]
     by_cases w9:m%2=1
     ·rw[aay w9]
     ·rw[aaz w9];exact(ih _ _ x).1 ac_
theorem Tr.get_set(t:Tr α):∀ (k m:Nat) (x:α),(m≠k→(t.set k x).get m=t.get m)∧(∀ y,(t.set k x).get k=some y→y=x):=by
 induction t with
 | e=>intro k m x;rw[Tr.set_e];exact⟨fun h=>(Tr.get_path 20 k m x).1 h,(Tr.get_path 20 k m x).2⟩
 | n v l r Gq KA =>
  intro k m x
  rw[Tr.set_n]
  by_cases hk:k=0
  ·simp only[aay hk,Tr.get_n]
   refine⟨fun h=>?_,fun y h=>by simpa using h.symm⟩
   have hm:¬ m=0:=ac_
   rw[aaz hm,aaz hm]
  ·by_cases h2:k%2=1
   ·simp only[aaz hk,aay h2,Tr.get_n]
    refine⟨fun h=>?_,fun y h=>(Gq (k/2) 0 x).2 y h⟩
    by_cases hm:m=0
    ·rw[aay hm,aay hm]
    ·rw[aaz hm,aaz hm]
     by_cases w9:m%2=1
     ·rw[aay w9,aay w9];exact(Gq _ _ x).1 ac_
     ·rw[aaz w9,aaz w9]
   ·simp only[aaz hk,aaz h2,Tr.get_n]
    refine⟨fun h=>?_,fun y h=>(KA (k/2-1) 0 x).2 y h⟩
    by_cases hm:m=0
    ·rw[aay hm,aay hm]
    ·rw[aaz hm,aaz hm]
     by_cases w9:m%2=1
     ·rw[aay w9,aay w9]
     ·rw[aaz w9,aaz w9];exact(KA _ _ x).1 ac_
theorem Tr.set_other{t:Tr α}{k m:Nat}{x:α}(h:m≠k):(t.set k x).get m=t.get m:=(Tr.get_set t k m x).1 h
theorem Tr.set_some{t:Tr α}{k m:Nat}{x y:α}(h:(t.set k x).get m=some y):(m=k∧y=x)∨(m≠k∧t.get m=some y):=by
 by_cases hm:m=k
 ·subst hm;exact .inl ⟨rfl,(Tr.get_set t m 0 x).2 y h⟩
 ·exact .inr ⟨hm,by rw[←Tr.set_other hm];exact h⟩
end
mutual
def ic(ρ:Nat→SV):AV→Value
 | .b x=>.bool x
 | .i k n=>.int k n
 | .s l=>.string ⟨l.toArray⟩
 | .np=>.pointer none
 | .nsl=>.slice none 0 0
 | .nf=>.nilFunc
 | .nm=>.map none
 | .nh=>undef
 | .p n off=>.pointer (some ⟨(ρ n).blk,off,none⟩)
 | .sl n off len cap=>.slice (some ⟨(ρ n).blk,off,none⟩) len cap
 | .row n cuts=>(cuts.foldl (fun s c=>s.cut c.1 c.2.1 c.2.2) (ρ n)).v
 | .mp n=>.map (some (ρ n).blk)
 | .f g fs cs=>.func (.func g) (lG ρ fs).toArray (lG ρ cs).toArray
 | .y n=>.func (.yield (ρ n).blk) #[] #[]
 | .agg _ l=>.agg (lG ρ l).toArray
 | .y8 l=>.tuple (lG ρ l).toArray
def lG(ρ:Nat→SV):List AV→List Value
 | []=>[]
 | v::r=>ic ρ v::lG ρ r
end
theorem fD(ρ:Nat→SV)(l:List AV):lG ρ l=l.map (ic ρ):=by
 induction l with
 | nil=>simp[lG]
 | cons v l ih=>simp[lG,ih]
mutual
def jj(k:Nat):AV→Prop
 | .p n _=>n<k
 | .sl n _ _ _=>n<k
 | .row n _=>n<k
 | .mp n=>n<k
 | .y n=>n<k
 | .f _ a c=>qc k a∧qc k c
 | .agg n l=>l.length=n∧(∀ v∈l,pz v=true)∧qc k l
 | .y8 l=>qc k l
 | _=>True
def qc(k:Nat):List AV→Prop
 | []=>True
 | v::r=>jj k v∧qc k r
end
theorem mO{k:Nat}{l:List AV}:qc k l ↔ ∀ v∈l,jj k v:=by
 induction l with
 | nil=>simp[qc]
 | cons v l ih=>simp[qc,ih]
theorem gG{k n:Nat}{l:List AV}:jj k (.agg n l)↔l.length=n∧(∀ v∈l,pz v=true) ∧ ∀ v∈l,jj k v:=by
 simp only[jj,mO]
mutual
theorem jH{k k':Nat}(h:k≤k'):∀ v,jj k v→jj k' v
 | .p n _,q=>by simp only[jj]at *; omega
 | .sl n _ _ _,q=>by simp only[jj]at *; omega
 | .row n _,q=>by simp only[jj]at *; omega
 | .mp n,q=>by simp only[jj]at *; omega
 | .y n,q=>by simp only[jj]at *; omega
 | .f _ a c,q=>by simp only[jj]at *; exact⟨pF h a q.1,pF h c q.2⟩
 | .agg n l,q=>by simp only[jj]at *; exact⟨q.1,q.2.1,pF h l q.2.2⟩
 | .y8 l,q=>by simp only[jj]at *; exact pF h l q
 | .b _,_=>trivial
 | .i _ _,_=>trivial
 | .s _,_=>trivial
 | .np,_=>trivial
 | .nsl,_=>trivial
 | .nf,_=>trivial
 | .nm,_=>trivial
 | .nh,_=>trivial
theorem pF{k k':Nat}(h:k≤k'):∀ l,qc k l→qc k' l
 | [],_=>trivial
 | v::r,q=>by simp only[qc]at *; exact⟨jH h v q.1,pF h r q.2⟩
end
mutual
theorem O2{k:Nat}{ρ JY:Nat→SV}(h:∀ n,n<k→ρ n=JY n):∀ v,jj k v→ic ρ v=ic JY v
 | .p n _,q=>by simp only[jj]at q;simp only[ic,h n q]
 | .sl n _ _ _,q=>by simp only[jj]at q;simp only[ic,h n q]
 | .row n _,q=>by simp only[jj]at q;simp only[ic,h n q]
 | .mp n,q=>by simp only[jj]at q;simp only[ic,h n q]
 | .y n,q=>by simp only[jj]at q;simp only[ic,h n q]
 | .f _ a c,q=>by simp only[jj]at q;simp only[ic,nQ h a q.1,nQ h c q.2]
 | .agg n l,q=>by simp only[jj]at q;simp only[ic,nQ h l q.2.2]
 | .y8 l,q=>by simp only[jj]at q;simp only[ic,nQ h l q]
 | .b _,_=>rfl
 | .i _ _,_=>rfl
 | .s _,_=>rfl
 | .np,_=>rfl
 | .nsl,_=>rfl
 | .nf,_=>rfl
 | .nm,_=>rfl
 | .nh,_=>rfl
theorem nQ{k:Nat}{ρ JY:Nat→SV}(h:∀ n,n<k→ρ n=JY n):∀ l,qc k l→lG ρ l=lG JY l
 | [],_=>rfl
 | v::r,q=>by simp only[qc]at q;simp only[lG,O2 h v q.1,nQ h r q.2]
end
mutual
theorem F8(ρ:Nat→SV)(f:Nat→Nat):∀ v,ic ρ (ren f v)=ic (fun n=>ρ (f n)) v
 | .f _ a c=>by simp only[ren,ic,rS ρ f a,rS ρ f c]
 | .agg n l=>by simp only[ren,ic,rS ρ f l]
 | .y8 l=>by simp only[ren,ic,rS ρ f l]
 | .p n _=>rfl
 | .sl n _ _ _=>rfl
 | .row n _=>rfl
 | .mp n=>rfl
 | .y n=>rfl
 | .b _=>rfl
 | .i _ _=>rfl
 | .s _=>rfl
 | .np=>rfl
 | .nsl=>rfl
 | .nf=>rfl
 | .nm=>rfl
 | .nh=>rfl
theorem rS(ρ:Nat→SV)(f:Nat→Nat):∀ l,lG ρ (qu f l)=lG (fun n=>ρ (f n)) l
 | []=>rfl
 | v::r=>by simp only[qu,lG,F8 ρ f v,rS ρ f r]
end
mutual
theorem Qd:∀ x y,wt x y=true→x=y
 | .b x,y,h=>by cases y<;>simp[wt]at h;simp[h]
 | .i k x,y,h=>by cases y<;>simp[wt]at h;simp[h]
 | .s x,y,h=>by cases y<;>simp[wt]at h;simp[h]
 | .np,y,h=>by cases y<;>simp[wt]at h;rfl
 | .nsl,y,h=>by cases y<;>simp[wt]at h;rfl
 | .nf,y,h=>by cases y<;>simp[wt]at h;rfl
 | .nm,y,h=>by cases y<;>simp[wt]at h;rfl
 | .nh,y,h=>by cases y<;>simp[wt]at h;rfl
 | .p n o,y,h=>by cases y<;>simp[wt]at h;simp[h]
 | .sl n o l c,y,h=>by cases y<;>simp[wt]at h;simp[h]
 | .row n c,y,h=>by cases y<;>simp[wt]at h;simp[h]
 | .mp n,y,h=>by cases y<;>simp[wt]at h;simp[h]
 | .y n,y,h=>by cases y<;>simp[wt]at h;simp[h]
 | .f g a c,y,h=>by
  cases y<;>simp[wt]at h
  rw[h.1.1,mC a _ h.1.2,mC c _ h.2]
 | .agg n l,y,h=>by
  cases y<;>simp[wt]at h
  rw[h.1,mC l _ h.2]
 | .y8 l,y,h=>by
  cases y<;>simp[wt]at h
  rw[mC l _ h]
theorem mC:∀ l m,rq l m=true→l=m
 | [],m,h=>by cases m<;>simp[rq]at h;rfl
 | x::l,m,h=>by
  cases m<;>simp[rq]at h
  rw[Qd x _ h.1,mC l _ h.2]
end
theorem KT{β:Type}(v:AV)(k:AV→β):force v k=k v:=by
 have hn:∀ {γ:Type} (n:Nat) (q:Nat→γ),uS n q=q n:=fun n q=>by cases n<;>rfl
 cases v<;>simp only[force,AA]
 case b x=>cases x<;>rfl
 case i q n=>cases n<;>simp only[hn]
 case p n off=>simp only[hn]
theorem Qk{v:Value}{u:AV}(h:Gu v=some u)(ρ:Nat→SV)(k:Nat):ic ρ u=v∧jj k u∧pz u=true:=by
 cases v<;>simp only[Gu]at h<;>try (cases h;done)
 case bool b=>cases h;exact⟨rfl,trivial,rfl⟩
 case int q n=>cases h;exact⟨rfl,trivial,rfl⟩
 case string s=>cases h;exact⟨by simp[ic],trivial,rfl⟩
 case pointer a=>cases a<;>simp at h;cases h;exact⟨rfl,trivial,rfl⟩
 case slice a l c => 
  cases a with
  | some a=>simp at h
  | none=>cases l<;>cases c<;>simp at h;cases h;exact⟨rfl,trivial,rfl⟩
 case map r=>cases r<;>simp at h;cases h;exact⟨rfl,trivial,rfl⟩
 case nilFunc=>cases h;exact⟨rfl,trivial,rfl⟩
theorem UU{l:List Value}{us:List AV}(h:l.mapM Gu=some us)(ρ:Nat→SV)(k:Nat):us.map (ic ρ)=l∧(∀ u∈us,jj k u) ∧ ∀ u∈us,pz u=true:=by
 induction l generalizing us with
 | nil=>simp at h;subst h;simp
 | cons v l ih =>
  simp only[aaB,Option.pure_def,acH,acx]at h
  obtain⟨u,hu,us',yA,h⟩:=h
  cases h
  obtain⟨h1,h2,h3⟩:=Qk hu ρ k
  obtain⟨h4,h5,h6⟩:=ih yA
  exact⟨by simp[h1,h4],by simp[h2];exact h5,by simp[h3];exact h6⟩
theorem K9{v:Value}{u:AV}(h:Gv v=some u)(ρ:Nat→SV)(k:Nat):ic ρ u=v∧jj k u∧og u=true:=by
 have key:∀ w:Value,Gu w=some u→ic ρ u=w∧jj k u∧og u=true:=fun w hw=>by
  obtain⟨h1,h2,h3⟩:=Qk hw ρ k
  exact⟨h1,h2,by cases u<;>first|rfl|exact h3⟩
 cases v<;>simp only[Gv]at h<;>first|exact key _ h|skip
 rename_i cs
 simp only[aax]at h
 obtain⟨l,hl,rfl⟩:=h
 obtain⟨h1,h2,h3⟩:=UU hl ρ k
 exact⟨by simp[ic,fD,h1],gG.2 ⟨(Wi l).symm,h3,h2⟩,rfl⟩
theorem jD(ρ:Nat→SV)(v:AV):(ic ρ v).cells=((cellsOf v).map (ic ρ)).toArray:=by
 cases v<;>simp[ic,cellsOf,Value.cells,fD,undef]
theorem KU{k:Nat}{v:AV}(h:jj k v):(cellsOf v).length=lenOf v:=by
 cases v<;>first|rfl|exact(gG.1 h).1
theorem GV{k:Nat}{v:AV}(h:jj k v)(hc:og v=true):(∀ u∈cellsOf v,pz u=true) ∧ ∀ u∈cellsOf v,jj k u:=by
 cases v
 case agg n l=>exact⟨(gG.1 h).2.1,(gG.1 h).2.2⟩
 all_goals exact⟨fun u hu=>(acI.1 hu) ▸ hc,fun u hu=>(acI.1 hu) ▸ h⟩
theorem PH{ρ:Nat→SV}{v:AV}(h:pz v=true):(ic ρ v).oneCell' = true:=by
 cases v<;>first|rfl|cases h
end Go.Ev
end
section
namespace Go.Ev
open Go.Fw
structure Ip where
 sv:Nat→SV
 arr:Nat→Array Value
 fn:Nat→Nat
abbrev Ip.g(I:Ip):AV→Value:=ic I.sv
def nj:Option (Option Nat)→Option Code
 | none=>none
 | some none=>some .ret
 | some (some id)=>some (.exit id)
def lH(I:Ip)(n:Nat)(L:ua)(st:LoopState)(pd:Option (Option Nat)):Obj :=
 .loop { state:=st,pending:=nj pd,fn:=I.fn n,tmps:=I.arr n,params:=L.ps.toArray,assign:=L.Ge,body:=L.body,defers:=(I.sv L.d).blk }
def BR:di:=.gen (fun _=>False) (fun _=>True)
def res(I:Ip)(env:Env)(lo n:Nat):kC→di
 | .pt _ l T=>.obj (I.sv n).blk (.cells (l.map I.g).toArray T (0,0))
 | .fz N l T=>.obj (I.sv n).blk (.cells (l.map I.g).toArray T (N,N+1))
 | .row e z m l=>.row lo (I.sv n).v e z m (l.map I.g)
 | .map es c=>.obj (I.sv n).blk (.map (es.map fun e=>(⟨I.g e.1,I.g e.2.1,e.2.2⟩ : MapEntry)).toArray c)
 | .loop st pd=>match ij env n with
  | some L=>.obj (I.sv n).blk (lH I n L st pd)
  | none=>BR
 | .defd t=>.obj (I.sv n).blk (.deferred (if t then none else some []))
 | .dead=>BR
def okO(k:Nat):kC→Prop
 | .pt n l _=>l.length=n∧(∀ v∈l,pz v=true) ∧ ∀ v∈l,jj k v
 | .fz n l _=>l.length=n∧(∀ v∈l,pz v=true) ∧ ∀ v∈l,jj k v
 | .row _ z m l=>l.length=m*z∧0<z∧(∀ v∈l,pz v=true) ∧ ∀ v∈l,jj k v
 | .map es _=>∀ e∈es,jj k e.1∧jj k e.2.1
 | _=>True
structure GK(I:Ip)(env:Env)(lo k:Nat)(w:World)(g:uf):Prop where
 holds:∀ n o,g n=some o→(res I env lo n o).holds w
 ok:∀ n o,g n=some o→okO k o∧n<k
structure FR(I:Ip)(k n:Nat)(F:Fm)(a:Act)(dd:List Deferred):Prop where
 defers:a.defers=dd
 size:a.tmps.size=n
 get:∀ t v,F.get t=some v→t<n∧jj k v∧a.tmps[t]? = some (I.g v)
section
variable {I:Ip}{env:Env}{lo k n:Nat}{w:World}{g:uf}{F:Fm}{a:Act}{dd:List Deferred}{P:Program}
theorem FR.eval(h:FR I k n F a dd){x:Operand}{v:AV}(hx:iZ F x=some v):a.eval x=I.g v∧jj k v:=by
 cases x with
 | tmp t =>
  obtain⟨h1,h2,h3⟩:=h.get t v hx
  exact⟨by simp[Act.eval,aah,h3],h2⟩
 | const u =>
  obtain⟨h1,h2,_⟩:=K9 hx I.sv k
  exact⟨h1.symm,h2⟩
 | func f =>
  simp only[iZ,ac9]at hx
  subst hx
  exact⟨by simp[Act.eval,ic,lG],by simp[jj,qc]⟩
 | global q=>simp[iZ]at hx
theorem FR.evals(h:FR I k n F a dd){xs:List Operand}{vs:List AV}(hx:qn F xs=some vs):xs.map a.eval=vs.map I.g ∧ ∀ v∈vs,jj k v:=by
 induction xs generalizing vs with
 | nil=>simp[qn]at hx;subst hx;simp
 | cons x xs ih =>
  simp only[qn,acH,acx]at hx
  obtain⟨v,hv,us,yA,hx⟩:=hx
  cases hx
  obtain⟨h1,h2⟩:=h.eval hv
  obtain⟨h3,h4⟩:=ih yA
  exact⟨by simp[h1,h3],by simpa[h2]using h4⟩
theorem FR.set(h:FR I k n F a dd){d:Nat}(hd:d<n){v:AV}(hv:jj k v):FR I k n (F.set d v) (a.put (some d) (I.g v)) dd:=by
 refine⟨h.defers,by simp[Act.put,h.size],fun t u hu=>?_⟩
 rcases Tr.set_some hu with⟨rfl,rfl⟩|⟨hne,hu⟩
 ·exact⟨hd,hv,by simp[Act.put,h.size,hd]⟩
 ·obtain⟨h1,h2,h3⟩:=h.get t u hu
  have M6:¬ d=t:=fun e=>hne e.symm
  exact⟨h1,h2,by simp[Act.put,M6,h3]⟩
theorem FR.oz(h:FR I k n F a dd){d:Option Nat}{v:AV}{F':Fm}(hs:oz n F d v=some F')(hv:jj k v):FR I k n F' (a.put d (I.g v)) dd:=by
 cases d with
 | none=>simp only[Ev.oz]at hs;cases hs;exact h
 | some d =>
  simp only[Ev.oz]at hs
  split at hs
  ·cases hs;exact h.set (aae (by assumption)) hv
  ·cases hs
theorem FR.want(h:FR I k n F a dd){ops:Array Oper}{o:Oper}{b:Bool}(hw:qC ops F o=some b):Region.wanted o (yielded ops a.tmps)=b:=by
 unfold Region.wanted
 unfold qC at hw
 cases hg:o.guard with
 | none=>simp only[hg]at hw;cases hw;rfl
 | some p =>
  obtain⟨j,want⟩:=p
  simp only[hg]at hw
  simp only[yielded]
  cases hd:(ops[j]?).bind (·.dst)with
  | none=>simp only[hd]at hw;cases hw;simp
  | some d =>
   simp only[hd]at hw
   cases hv:F.get d with
   | none=>simp[hv]at hw
   | some v =>
    obtain⟨_,_,h3⟩:=h.get d v hv
    simp only[hv]at hw
    simp only[aaG,h3]
    cases v<;>simp[ic,undef]at hw ⊢ <;> exact hw
theorem vH{t:Nat}{d:TypeDesc}(h:P.underlying t=some d)(w:World):(isAgg t).run P w = .ok (wy d) w:=by
 simp only[isAgg,Sem.run_bind,run_underlying h,Result.andThen_ok]
 cases d<;>rfl
theorem fN{t m:Nat}(h:(P.info? t).map (·.size)=some m)(w:World):(sizeOf t).run P w = .ok m w:=by
 obtain⟨i,hi,rfl⟩:=aax.1 h
 simp[sizeOf,typeInfo,hi]
theorem lF{t:Nat}{z:AV}(h:((P.info? t).bind (·.zero)).bind Gv=some z)(I:Ip)(k:Nat)(w:World):(zeroValue t).run P w = .ok (I.g z) w∧jj k z∧og z=true:=by
 obtain⟨v,hv,hz⟩:=acx.1 h
 obtain⟨i,hi,hv⟩:=acx.1 hv
 obtain⟨h1,h2,h3⟩:=K9 hz I.sv k
 exact⟨by simp[zeroValue,typeInfo,hi,hv,Ip.g,h1],h2,h3⟩
theorem yK{l:List AV}{off m N:Nat}(hN:l.length=N)(h:Nat.ble (off+m) N=true):(lw (lh l off) m).length=m:=by
 have:=aae h
 rw[sO,rQ];simp;omega
theorem pU{l:List AV}{off m:Nat}{v:AV}(h:v∈lw (lh l off) m):v∈l:=by
 rw[sO,rQ]at h;exact acJ (acK h)
theorem U4{l:List AV}{i:Nat}{v:AV}(h:vm l i=some v):v∈l:=by
 rw[wD]at h;exact abj h
theorem nD{t N off:Nat}{l:List AV}{v:AV}(h:Ev.part (fe P) t N l off=some v)(hN:l.length=N)(h1:∀ u∈l,pz u=true)(hk:∀ u∈l,jj k u):jj k v∧og v=true:=by
 simp only[Ev.part,fe,acH,acx]at h
 obtain⟨d,hd,h⟩:=h
 split at h
 ·obtain⟨m,hm,h⟩:=acx.1 h
  cases hb:(Nat.beq off 0&&Nat.beq m N)with
  | true=>simp only[hb,abw,ac9]at h;subst h;exact⟨gG.2 ⟨hN,h1,hk⟩,rfl⟩
  | false =>
   simp only[hb,abt]at h
   cases hc:Nat.ble (off+m) N with
   | true=>simp only[hc,abw,ac9]at h;subst h;exact⟨gG.2 ⟨yK hN hc,fun u hu=>h1 u (pU hu),fun u hu=>hk u (pU hu)⟩,rfl⟩
   | false=>simp[hc]at h
 ·have hm:=U4 h
  exact⟨hk v hm,by have:=h1 v hm;cases v<;>first|exact this|rfl⟩
theorem tC(f:AV→Value)(l:List AV)(off m:Nat):(lw (lh l off) m).map f=((l.map f).drop off).take m:=by
 rw[sO,rQ,acL,acM]
theorem Pe{t N off b base:Nat}{l:List AV}{v:AV}(h:Ev.part (fe P) t N l off=some v)(hN:l.length=N)(hc:i_ w b base (l.map I.g)):(loadVar t ⟨b,base+off,none⟩).run P w = .ok (I.g v) w:=by
 simp only[Ev.part,fe,acH,acx]at h
 obtain⟨d,hd,h⟩:=h
 have ha:=vH hd w
 split at h
 ·rename_i hag
  obtain⟨m,hm,h⟩:=acx.1 h
  have hs:=fN hm w
  cases hb:(Nat.beq off 0&&Nat.beq m N)with
  | true =>
   simp only[hb,abw,ac9]at h;subst h
   simp only[dc,aaE]at hb
   obtain⟨rfl,rfl⟩:=hb
   have:=Fw.run_loadCells (P:=P) w b base (l.map I.g) hc
   simp only[abl,hN]at this
   simp[loadVar,ha,hag,hs,this,ic,fD]
  | false =>
   simp only[hb,abt]at h
   cases hx:Nat.ble (off+m) N with
   | true =>
    simp only[hx,abw,ac9]at h;subst h
    have hle:=aae hx
    have hc':i_ w b (base+off) ((lw (lh l off) m).map I.g):=hc.sub off m (by rw[tC];rfl)
    have:=Fw.run_loadCells (P:=P) w b (base+off) _ hc'
    simp only[abl,yK hN hx]at this
    simp[loadVar,ha,hag,hs,this,ic,fD]
   | false=>simp[hx]at h
 ·rename_i hag
  rw[wD]at h
  have:=hc off (I.g v) (by rw[abE,h];rfl)
  simp[loadVar,ha,hag,this]
theorem tJ{t N off:Nat}{l:List AV}{v:AV}(h:Ev.part (fe P) t N l off=some v)(hN:l.length=N):(Go.part t (l.map I.g).toArray off).run P w = .ok (I.g v) w:=by
 simp only[Ev.part,fe,acH,acx]at h
 obtain⟨d,hd,h⟩:=h
 have ha:=vH hd w
 split at h
 ·rename_i hag
  obtain⟨m,hm,h⟩:=acx.1 h
  have hs:=fN hm w
  cases hb:(Nat.beq off 0&&Nat.beq m N)with
  | true =>
   simp only[hb,abw,ac9]at h;subst h
   simp only[dc,aaE]at hb
   obtain⟨rfl,rfl⟩:=hb
   simp[Go.part,ha,hag,hs,ic,fD,List.extract]
   exact abW (by simp[hN])
  | false =>
   simp only[hb,abt]at h
   cases hx:Nat.ble (off+m) N with
   | true =>
    simp only[hx,abw,ac9]at h;subst h
    simp[Go.part,ha,hag,hs,ic,fD,tC,List.extract]
   | false=>simp[hx]at h
 ·rename_i hag
  rw[wD]at h
  simp[Go.part,ha,hag,h]
theorem Bi{lo e z m:Nat}{s:SV}{xs:List Value}(h:w.ownsRow lo e z s.v m xs):i_ w s.blk 0 xs:=by
 rcases h.2 with⟨h1,h2⟩|⟨q,cap,cur,h1,h3,h4,h5,h6,h7,h8⟩
 ·have:xs = []:=ab9 (by rw[h.1,h2,ab5])
  subst this;intro j v hv;simp at hv
 ·obtain⟨sa,sl,sc⟩:=s
  cases h1
  intro j v hv
  rw[←h8,aav]at hv
  split at hv
  ·simp only[ab_,SV.blk,World.cell?,h4];simpa using hv
  ·cases hv
theorem GK.cellsP(h:GK I env lo k w g){m N T:Nat}{l:List AV}(hg:g m=some (.pt N l T)):i_ w (I.sv m).blk 0 (l.map I.g):=oV (n:=(l.map I.g).length) (h.holds m _ hg) (cG rfl)
theorem GK.cellsF(h:GK I env lo k w g){m N T:Nat}{l:List AV}(hg:g m=some (.fz N l T)):i_ w (I.sv m).blk 0 (l.map I.g):=oV (n:=(l.map I.g).length) (h.holds m _ hg) (cG rfl)
theorem GK.cellsR(h:GK I env lo k w g){m e z c:Nat}{l:List AV}(hg:g m=some (.row e z c l)):i_ w (I.sv m).blk 0 (l.map I.g):=Bi (h.holds m _ hg)
end
end Go.Ev
end
section
namespace Go.Ev
open Go.Fw
structure Ah(w:World)(s:SV)(ln z:Nat)(xs:List Value):Prop where
 len:s.len=ln
 room:s.len≤s.cap
 n:xs.length=ln*z
 cells:match s.a with
  | none=>ln=0∧s.cap=0
  | some ad=>ad.spot=none∧i_ w ad.block ad.off xs
theorem Ah.cut{w:World}{s:SV}{len z i j:Nat}{xs:List Value}(h:Ah w s len z xs)(hij:i≤j)(hj:j≤len):Ah w (s.cut i j z) (j-i) z ((xs.drop (i*z)).take ((j-i)*z)):=by
 have hl:=h.len
 have hr:=h.room
 have hc:=h.cells
 have hn:=h.n
 have e1:i*z+(j-i)*z≤len*z:=by rw[←ab4];exact aca _ ac_
 refine⟨rfl,by simp only[SV.cut];omega,by simp;omega,?_⟩
 obtain⟨sa,sl,sc⟩:=s
 simp only at hl hr
 subst hl
 by_cases h0:sc-i=0
 ·simp only[SV.cut,aay h0]
  have hd:(xs.drop (i*z)).take ((j-i)*z) = []:=by rw[show j-i=0 by omega];simp
  cases sa with
  | none=>exact⟨ac_,h0⟩
  | some ad=>exact⟨hc.1,by rw[hd];intro k v hv;simp at hv⟩
 ·simp only[SV.cut,aaz h0]
  cases sa with
  | none=>exact⟨by simp at hc;omega,by simp at hc;omega⟩
  | some ad =>
   obtain⟨b,off,sp⟩:=ad
   obtain⟨h1,h2⟩:=hc
   simp only at h1;subst h1
   simp only[aaI,eC]
   exact⟨trivial,h2.sub (i*z) ((j-i)*z) rfl⟩
theorem TV{w:World}{z:Nat}:∀ (cuts:List (Nat×Nat×Nat)) {s:SV} {len r:Nat} {l:List AV} {ρ:Nat→SV},kP z len cuts=some r→Ah w s len z (l.map (ic ρ)) →
  Ah w (cuts.foldl (fun s c=>s.cut c.1 c.2.1 c.2.2) s) r z ((qp cuts l).map (ic ρ))∧(∀ v∈qp cuts l,v∈l):=by
 intro cuts
 induction cuts with
 | nil=>intro s len r l ρ h hs;simp only[kP,ac9]at h;subst h;exact⟨hs,fun v hv=>hv⟩
 | cons c cuts ih =>
  intro s len r l ρ h hs
  obtain⟨i,j,z'⟩:=c
  simp only[kP]at h
  split at h
  ·rename_i hc
   obtain⟨h1,h2,rfl⟩:=hc
   have hs':=hs.cut h1 h2
   rw[←tC]at hs'
   obtain⟨h3,h4⟩:=ih h hs'
   exact⟨h3,fun v hv=>pU (h4 v hv)⟩
  ·cases h
theorem Uu{z b:Nat}:∀ (cuts:List (Nat×Nat×Nat)) {s:SV} {len r off:Nat},kP z len cuts=some r→0<r→s.a=some ⟨b,off,none⟩→len≤s.cap →
  ((cuts.foldl (fun s c=>s.cut c.1 c.2.1 c.2.2) s)).a=some ⟨b,off+nX cuts*z,none⟩:=by
 intro cuts
 induction cuts with
 | nil=>intro s len r off _ _ h _;simpa[nX]using h
 | cons c cuts ih =>
  intro s len r off h hr hs hc
  obtain⟨i,j,z'⟩:=c
  simp only[kP]at h
  split at h
  ·rename_i hq
   obtain⟨h1,h2,rfl⟩:=hq
   have mono:∀ (q:List (Nat×Nat×Nat)) (l:Nat),kP z' l q=some r→r≤l:=by
    intro q
    induction q with
    | nil=>intro l h;simp[kP]at h;omega
    | cons c q ih =>
     intro l h
     obtain⟨i,j,z⟩:=c
     simp only[kP]at h
     split at h
     ·have:=ih _ h;omega
     ·cases h
   have hm:=mono _ _ h
   have h0:¬ s.cap-i=0:=ac_
   have:=ih (s:=s.cut i j z') h hr (off:=off+i*z') (by simp[SV.cut,h0,hs,eC]) (by simp only[SV.cut];omega)
   simp only[ack,this,nX,ab4,aaY]
  ·cases h
section
variable {I:Ip}{env:Env}{lo k n:Nat}{w:World}{g:uf}{F:Fm}{a:Act}{dd:List Deferred}{P:Program}
theorem Wq{lo e z m:Nat}{s:SV}{xs:List Value}(h:w.ownsRow lo e z s.v m xs):Ah w s m z xs:=by
 rcases h.2 with⟨h1,h2⟩|⟨q,cap,cur,h1,h3,h4,h5,h6,h7,h8⟩
 ·obtain⟨sa,sl,sc⟩:=s
  cases h1
  exact⟨h2.symm,aal _,h.1,h2,rfl⟩
 ·have hc:=Bi h
  obtain⟨sa,sl,sc⟩:=s
  cases h1
  exact⟨rfl,h5,h.1,rfl,hc⟩
theorem lZ(hg:GK I env lo k w g){z:Nat}{v:AV}{q:Nat×List AV}(h:sliceOf g z v=some q):∃ s:SV,I.g v=s.v∧Ah w s q.1 z (q.2.map I.g)∧(∀ u∈q.2,pz u=true) ∧ ∀ u∈q.2,jj k u:=by
 cases v<;>simp only[sliceOf]at h<;>try (cases h;done)
 case nsl=>cases h;exact⟨SV.nil,rfl,⟨rfl,aal _,by simp,rfl,rfl⟩,by simp,by simp⟩
 case sl m off len cap =>
  have fin:∀ {N:Nat} {l:List AV},l.length=N→(∀ u∈l,pz u=true)→(∀ u∈l,jj k u)→i_ w (I.sv m).blk 0 (l.map I.g)→off+len*z≤N∧len≤cap →
    q=(len,bif Nat.beq off 0&&Nat.beq N (len*z)then l else lw (lh l off) (len*z)) →
    ∃ s:SV,I.g (.sl m off len cap)=s.v∧Ah w s q.1 z (q.2.map I.g)∧(∀ u∈q.2,pz u=true) ∧ ∀ u∈q.2,jj k u:=by
   intro N l h1 h2 h3 hc hle e
   subst e
   refine⟨⟨some ⟨(I.sv m).blk,off,none⟩,len,cap⟩,rfl,?_,?_⟩
   ·cases hb:(Nat.beq off 0&&Nat.beq N (len*z))with
    | true =>
     simp only[dc,aaE]at hb
     obtain⟨rfl,rfl⟩:=hb
     simp only[abw]
     exact⟨rfl,hle.2,by simp[h1],rfl,hc⟩
    | false =>
     simp only[abt]
     refine⟨rfl,hle.2,by rw[abl];exact yK h1 (by rw[Nat.ble_eq];exact hle.1),rfl,?_⟩
     have:=hc.sub off (len*z) (us:=(lw (lh l off) (len*z)).map I.g) (by rw[tC];rfl)
     simpa using this
   ·cases hb:(Nat.beq off 0&&Nat.beq N (len*z))with
    | true=>exact⟨h2,h3⟩
    | false=>exact⟨fun u hu=>h2 u (pU hu),fun u hu=>h3 u (pU hu)⟩
  cases ho:g m with
  | none=>simp[ho]at h
  | some o =>
   cases o<;>simp only[ho]at h<;>try (cases h;done)
   case pt N l T =>
    split at h
    ·rename_i hle
     obtain⟨⟨h1,h2,h3⟩,h4⟩:=hg.ok m _ ho
     exact fin h1 h2 h3 (hg.cellsP ho) hle (ac8 h).symm
    ·cases h
   case fz N l T =>
    split at h
    ·rename_i hle
     obtain⟨⟨h1,h2,h3⟩,h4⟩:=hg.ok m _ ho
     exact fin h1 h2 h3 (hg.cellsF ho) hle (ac8 h).symm
    ·cases h
 case row m cuts =>
  cases ho:g m with
  | none=>simp[ho]at h
  | some o =>
   cases o<;>simp only[ho]at h<;>try (cases h;done)
   rename_i e z' c l
   split at h
   ·rename_i hz
    subst hz
    simp only[acH,acx,ac9]at h
    obtain⟨len,hl,rfl⟩:=h
    obtain⟨⟨h1,h0,h2,h3⟩,h4⟩:=hg.ok m _ ho
    have ru:w.ownsRow lo e z' (I.sv m).v c (l.map I.g):=hg.holds m _ ho
    obtain⟨h5,h6⟩:=TV cuts hl (Wq ru)
    exact⟨_,rfl,h5,fun u hu=>h2 u (h6 u hu),fun u hu=>h3 u (h6 u hu)⟩
   ·cases h
theorem Va(hg:GK I env lo k w g){z m i:Nat}{cuts:List (Nat×Nat×Nat)}{q:Nat×List AV}(h:sliceOf g z (.row m cuts)=some q)(hi:i<q.1) :
  ∃ cap,I.g (.row m cuts) = .slice (some ⟨(I.sv m).blk,nX cuts*z,none⟩) q.1 cap:=by
 obtain⟨s,hs,hsl,_⟩:=lZ hg h
 simp only[sliceOf]at h
 cases ho:g m with
 | none=>simp[ho]at h
 | some o =>
  cases o<;>simp only[ho]at h<;>try (cases h;done)
  rename_i e z' c l
  split at h
  ·rename_i hz
   subst hz
   simp only[acH,acx,ac9]at h
   obtain⟨len,hl,rfl⟩:=h
   have ru:w.ownsRow lo e z' (I.sv m).v c (l.map I.g):=hg.holds m _ ho
   have hpos:0<len:=by simp only at hi;omega
   have hc:0<c:=by
    have mono:∀ (q:List (Nat×Nat×Nat)) (l:Nat),kP z' l q=some len→len≤l:=by
     intro q
     induction q with
     | nil=>intro l h;simp[kP]at h;omega
     | cons c q ih =>
      intro l h
      obtain⟨i,j,z⟩:=c
      simp only[kP]at h
      split at h
      ·have:=ih _ h;omega
      ·cases h
    have:=mono _ _ hl;omega
   rcases ru.2 with⟨h1,h2⟩|⟨b,cap,cur,h1,h3,h4,h5,_⟩
   ·omega
   ·have Nj:I.sv m=⟨some ⟨b,0,none⟩,c,cap⟩:=by
     cases hx:I.sv m;rw[hx]at h1;cases h1;rfl
    have ha:=Uu cuts (s:=I.sv m) (b:=b) (off:=0) hl hpos (by rw[Nj]) (by rw[Nj];exact h5)
    have hl':=hsl.len
    have hb:(I.sv m).blk=b:=by rw[Nj];rfl
    refine⟨s.cap,?_⟩
    have Ky:s=cuts.foldl (fun s c=>s.cut c.1 c.2.1 c.2.2) (I.sv m):=by
     have:s.v=(cuts.foldl (fun s c=>s.cut c.1 c.2.1 c.2.2) (I.sv m)).v:=hs.symm.trans rfl
     obtain⟨x,y,z⟩:=s
     generalize (cuts.foldl (fun s c=>s.cut c.1 c.2.1 c.2.2) (I.sv m))=t at this
     obtain⟨x',y',z'⟩:=t
     cases this;rfl
    rw[hs,hb]
    have ha':s.a=some ⟨b,0+nX cuts*z',none⟩:=by rw[Ky];exact ha
    obtain⟨x,y,zz⟩:=s
    simp only at ha' hl'
    subst ha' hl'
    simp
  ·cases h
abbrev Good(P:Program)(I:Ip)(k:Nat)(w:World)(a:Act)(o:Oper)(v:AV):Prop:=(execOp a.eval o).run P w = .ok (.value (I.g v)) w∧jj k v
theorem Xl(hF:FR I k n F a dd){o:Oper}{x:Operand}{v:AV}(ho:o.op = .move x)(h:iZ F x=some v):Good P I k w a o v:=by
 obtain⟨h1,h2⟩:=hF.eval h
 exact⟨by simp[execOp,ho,h1],h2⟩
theorem VH(hF:FR I k n F a dd){o:Oper}{x:Operand}{v:AV}(ho:o.op = .assign x)(h:iZ F x=some v):Good P I k w a o v:=by
 obtain⟨h1,h2⟩:=hF.eval h
 exact⟨by simp[execOp,ho,h1],h2⟩
theorem Xm(hF:FR I k n F a dd){o:Oper}{c x y:Operand}{v:AV}(ho:o.op = .pick c x y)(h:jd (fe P) g F o.op=some v):Good P I k w a o v:=by
 rw[ho]at h
 simp only[jd,acH,acx]at h
 obtain⟨u,hu,h⟩:=h
 obtain⟨h1,h2⟩:=hF.eval hu
 cases u<;>simp only at h<;>try (cases h;done)
 rename_i b
 cases b
 ·simp only[abq,if_false]at h
  obtain⟨h3,h4⟩:=hF.eval h
  exact⟨by simp[execOp,ho,h1,ic,asBool,h3],h4⟩
 ·simp only[if_true]at h
  obtain⟨h3,h4⟩:=hF.eval h
  exact⟨by simp[execOp,ho,h1,ic,asBool,h3],h4⟩
theorem Xn(hF:FR I k n F a dd){o:Oper}{q:UnOp}{t:Nat}{x:Operand}{v:AV}(ho:o.op = .unOp q t x)(h:jd (fe P) g F o.op=some v):Good P I k w a o v:=by
 rw[ho]at h
 simp only[jd,acH,acx]at h
 obtain⟨u,hu,h⟩:=h
 obtain⟨h1,h2⟩:=hF.eval hu
 cases q<;>cases u<;>simp only at h<;>try (cases h;done)
 ·cases h;exact⟨by simp[execOp,ho,h1,ic,Op.unary,Op.intArith],trivial⟩
 ·cases h;exact⟨by simp[execOp,ho,h1,ic,Op.unary],trivial⟩
theorem UE(hF:FR I k n F a dd){o:Oper}{i:Nat}{x:Operand}{v:AV}(ho:o.op = .extract x i)(h:jd (fe P) g F o.op=some v):Good P I k w a o v:=by
 rw[ho]at h
 simp only[jd,acH,acx]at h
 obtain⟨u,hu,h⟩:=h
 obtain⟨h1,h2⟩:=hF.eval hu
 cases u<;>simp only at h<;>try (cases h;done)
 rename_i l
 rw[wD]at h
 refine⟨?_,mO.1 h2 v (abj h)⟩
 simp[execOp,ho,h1,ic,fD,Instr.extract,h]
theorem TR(hF:FR I k n F a dd){o:Oper}{x:Operand}{v:AV}(ho:o.op = .nilCheck x)(h:jd (fe P) g F o.op=some v):Good P I k w a o v:=by
 rw[ho]at h
 simp only[jd,acH,acx]at h
 obtain⟨u,hu,h⟩:=h
 obtain⟨h1,h2⟩:=hF.eval hu
 cases u<;>simp only at h<;>try (cases h;done)
 ·cases h;exact⟨by simp[execOp,ho,h1,ic],h2⟩
 ·cases h;exact⟨by simp[execOp,ho,h1,ic],h2⟩
theorem TQ(hF:FR I k n F a dd){o:Oper}{q:Fn}{fs cs:Array Operand}{v:AV}(ho:o.op = .makeFunc q fs cs)(h:jd (fe P) g F o.op=some v):Good P I k w a o v:=by
 rw[ho]at h
 cases q<;>simp only[jd]at h<;>try (cases h;done)
 simp only[acH,acx,ac9]at h
 obtain⟨x,hx,y,hy,rfl⟩:=h
 obtain⟨h1,h2⟩:=hF.evals hx
 obtain⟨h3,h4⟩:=hF.evals hy
 refine⟨?_,by simp only[jj,mO];exact⟨h2,h4⟩⟩
 have e1:fs.map a.eval=(x.map I.g).toArray:=by rw[←h1,←ab0,acs]
 have e2:cs.map a.eval=(y.map I.g).toArray:=by rw[←h3,←ab0,acs]
 simp[execOp,ho,Instr.makeFunc,e1,e2,ic,fD]
theorem Xk(hg:GK I env lo k w g)(hF:FR I k n F a dd){o:Oper}{t:Nat}{x:Operand}{v:AV}(ho:o.op = .load t x)(h:jd (fe P) g F o.op=some v):Good P I k w a o v:=by
 rw[ho]at h
 simp only[jd,acH,acx]at h
 obtain⟨u,hu,h⟩:=h
 obtain⟨h1,h2⟩:=hF.eval hu
 cases u<;>simp only at h<;>try (cases h;done)
 rename_i m off
 have fin:∀ {N:Nat} {l:List AV},Ev.part (fe P) t N l off=some v→l.length=N→(∀ u∈l,pz u=true)→(∀ u∈l,jj k u)→i_ w (I.sv m).blk 0 (l.map I.g)→Good P I k w a o v:=by
  intro N l hp hN h3 h4 hc
  have:=Pe (P:=P) hp hN hc
  rw[ab_]at this
  refine⟨?_,(nD hp hN h3 h4).1⟩
  simp[execOp,ho,h1,ic,Instr.loadAt,Instr.sureAddr,this]
 cases hq:g m with
 | none=>simp[hq]at h
 | some ob =>
  cases ob<;>simp only[hq]at h<;>try (cases h;done)
  ·obtain⟨⟨q1,q2,q3⟩,_⟩:=hg.ok m _ hq
   exact fin h q1 q2 q3 (hg.cellsP hq)
  ·obtain⟨⟨q1,_,q2,q3⟩,_⟩:=hg.ok m _ hq
   exact fin h q1 q2 q3 (hg.cellsR hq)
theorem He(hF:FR I k n F a dd){o:Oper}{t f:Nat}{x:Operand}{v:AV}(ho:o.op = .fieldAddr t x f)(h:jd (fe P) g F o.op=some v):Good P I k w a o v:=by
 rw[ho]at h
 simp only[jd,fe,acH,acx]at h
 obtain⟨d,hd,u,hu,h⟩:=h
 obtain⟨h1,h2⟩:=hF.eval hu
 cases d<;>cases u<;>simp only at h<;>try (cases h;done)
 rename_i fs m off
 obtain⟨fl,hf,h⟩:=acx.1 h
 obtain⟨z,hz,h⟩:=acx.1 h
 split at h
 ·cases h
 ·rename_i hz0
  cases h
  obtain⟨i,hi,rfl⟩:=aax.1 hz
  refine⟨?_,h2⟩
  simp[execOp,ho,h1,ic,Instr.fieldAt,run_underlying hd,hf,Instr.sureAddr,fieldPlace,sizeOf,typeInfo,hi,hz0,eC]
theorem WR(hF:FR I k n F a dd){o:Oper}{t f:Nat}{x:Operand}{v:AV}(ho:o.op = .field t x f)(h:jd (fe P) g F o.op=some v):Good P I k w a o v:=by
 rw[ho]at h
 simp only[jd,acH,acx]at h
 obtain⟨d,hd,u,hu,h⟩:=h
 obtain⟨h1,h2⟩:=hF.eval hu
 cases d<;>cases u<;>simp only at h<;>try (cases h;done)
 rename_i fs m l
 obtain⟨fl,hf,h⟩:=acx.1 h
 obtain⟨q1,q2,q3⟩:=gG.1 h2
 refine⟨?_,(nD h q1 q2 q3).1⟩
 have:=tJ (P:=P) (w:=w) (I:=I) h q1
 simp[execOp,ho,h1,ic,fD,Instr.field,run_underlying (P:=P) (show P.underlying t=_ from hd),hf,asAgg,this]
end
end Go.Ev
end
section
namespace Go.Ev
open Go.Fw
section
variable {I:Ip}{env:Env}{lo k n:Nat}{w:World}{g:uf}{F:Fm}{a:Act}{dd:List Deferred}{P:Program}
theorem KX{v:AV}{i:Nat}(h:asNat v=some i):∃ q,I.g v = .int q (i:Int):=by
 cases v<;>simp only[asNat]at h<;>try (cases h;done)
 rename_i q m
 split at h
 ·cases h;exact⟨q,by simp only[ic,Ip.g];congr 1;omega⟩
 ·cases h
theorem J5(hg:GK I env lo k w g)(hF:FR I k n F a dd){o:Oper}{t:Nat}{x y:Operand}{v:AV}(ho:o.op = .indexAddr t x y)(h:jd (fe P) g F o.op=some v):Good P I k w a o v:=by
 rw[ho]at h
 simp only[jd,acH,acx]at h
 obtain⟨u,hu,i,hi,d,(hd:P.underlying t=some d),ux,hx,h⟩:=h
 obtain⟨h1,h2⟩:=hF.eval hu
 obtain⟨h3,h4⟩:=hF.eval hx
 obtain⟨q,hq⟩:=KX (I:=I) hi
 have fin:∀ {base ln e z:Nat} {ad:Addr} {off':Nat},P.underlying t=some (.slice e)→(P.info? e).map (·.size)=some z→(∃ cap,I.g ux = .slice (some ad) ln cap)→i<ln→ad.add (i*z)=⟨(I.sv base).blk,off',none⟩→base<k →
   Good P I k w a o (.p base off'):=by
  intro base ln e z ad off' hd hz ⟨cap,hs⟩ hlt had hb
  refine⟨?_,hb⟩
  have xd:=fN (P:=P) hz w
  have vo:(0:Int)≤(i:Int)∧(i:Int)<(ln:Int):=ac_
  simp[execOp,ho,h1,h3,hq,hs,Instr.indexAt,asIntOf,run_underlying hd,hlt,xd,had,ic]
 cases d<;>cases ux<;>simp only at h<;>try (cases h;done)
 case array.p len e m off =>
  obtain⟨z,hz,h⟩:=acx.1 h
  split at h
  ·rename_i hlt
   cases h
   refine⟨?_,h4⟩
   have xd:=fN (P:=P) hz w
   have vo:(0:Int)≤(i:Int)∧(i:Int)<(len:Int):=ac_
   simp[execOp,ho,h1,h3,hq,ic,Instr.indexAt,asIntOf,run_underlying hd,Instr.sureAddr,hlt,xd,eC]
  ·cases h
 case slice.sl e m off len cap =>
  obtain⟨z,hz,h⟩:=acx.1 h
  split at h
  ·rename_i hlt
   cases h
   exact fin (ad:=⟨(I.sv m).blk,off,none⟩) hd hz ⟨cap,rfl⟩ hlt (eC _ _ _) h4
  ·cases h
 case slice.row e m cuts =>
  obtain⟨z,hz,h⟩:=acx.1 h
  obtain⟨l,hl,h⟩:=acx.1 h
  split at h
  ·rename_i hlt
   cases h
   exact fin (ad:=⟨(I.sv m).blk,nX cuts*z,none⟩) hd hz (Va hg hl hlt) hlt (by rw[eC,ab4]) h4
  ·cases h
theorem WS(hF:FR I k n F a dd){o:Oper}{t:Nat}{x y:Operand}{v:AV}(ho:o.op = .index t x y)(h:jd (fe P) g F o.op=some v):Good P I k w a o v:=by
 rw[ho]at h
 simp only[jd,acH,acx]at h
 obtain⟨u,hu,i,hi,d,(hd:P.underlying t=some d),ux,hx,h⟩:=h
 obtain⟨h1,h2⟩:=hF.eval hu
 obtain⟨h3,h4⟩:=hF.eval hx
 obtain⟨q,hq⟩:=KX (I:=I) hi
 cases d<;>cases ux<;>simp only at h<;>try (cases h;done)
 case string.s l =>
  obtain⟨b,hb,h⟩:=acx.1 h
  cases h
  refine⟨?_,trivial⟩
  have:(⟨l.toArray⟩ : ByteArray)[i]? = some b:=by
   have:=aap.1 hb
   obtain⟨hlt,hb⟩:=this
   rw[getElem?_pos (⟨l.toArray⟩ : ByteArray) i (by show i<l.toArray.size;simpa using hlt)]
   exact congrArg some hb
  simp[execOp,ho,h1,h3,hq,ic,Instr.index,asIntOf,run_underlying hd,this]
 case array.agg len e m l =>
  obtain⟨z,hz,h⟩:=acx.1 h
  split at h
  ·rename_i hlt
   obtain⟨q1,q2,q3⟩:=gG.1 h4
   refine⟨?_,(nD h q1 q2 q3).1⟩
   have xd:=fN (P:=P) hz w
   have vo:(0:Int)≤(i:Int)∧(i:Int)<(len:Int):=ac_
   have hp:=tJ (P:=P) (w:=w) (I:=I) h q1
   simp[execOp,ho,h1,h3,hq,ic,fD,Instr.index,asIntOf,run_underlying hd,hlt,xd,hp]
  ·cases h
theorem Wj{l:List AV}{r:List UInt8}(h:(l.mapM fun c=>match c with | .i .u8 n=>if 0≤n∧n<256 then some (UInt8.ofNat n.toNat)else none|_=>none)=some r):l=r.map fun b=>AV.i .u8 (b.toNat:Int):=by
 induction l generalizing r with
 | nil=>simp at h;subst h;rfl
 | cons x l ih =>
  simp only[aaB,Option.pure_def,acH,acx]at h
  obtain⟨u,hu,us,yA,h⟩:=h
  cases h
  have h1:=ih yA
  cases x<;>(try simp only at hu)<;>try (cases hu;done)
  rename_i q m
  cases q<;>(try simp only at hu)<;>try (cases hu;done)
  split at hu
  ·rename_i hm
   cases hu
   have:((UInt8.ofNat m.toNat).toNat:Int)=m:=by rw[UInt8.toNat_ofNat'];omega
   rw[h1,aa4,this]
  ·cases hu
theorem GY{s:SV}{t t' e:Nat}{r:List UInt8}(hs:Ah w s r.length 1 (r.map fun b=>Value.int .u8 (b.toNat:Int)))(h1:P.underlying t=some (.slice e))(h2:P.underlying e=some (.int .u8))(h3:P.underlying t' = some .string) :
  (convert t t' s.v).run P w = .ok (.string ⟨r.toArray⟩) w:=by
 have hl:=hs.len
 have hc:=hs.cells
 obtain⟨sa,sl,sc⟩:=s
 simp only at hl;subst hl
 cases sa with
 | none =>
  have:r = []:=ab9 hc.1
  subst this
  rw[show SV.v ⟨none,([]:List UInt8).length,sc⟩ = .slice none 0 sc from rfl,run_convert_bytes_string w t t' e none 0 sc h1 h2 h3]
  simp[Conv.bytesToString]
  rfl
 | some ad =>
  obtain⟨b,off,sp⟩:=ad
  obtain⟨h4,h5⟩:=hc
  simp only at h4;subst h4
  refine run_convert_bytes_back (P:=P) w t t' e ⟨b,off,none⟩ sc r h1 h2 h3 fun j hj=>?_
  rw[eC]
  exact h5 j _ (by simp[hj])
theorem UD(hg:GK I env lo k w g)(hF:FR I k n F a dd){o:Oper}{t t':Nat}{x:Operand}{v:AV}(ho:o.op = .convert t t' x)(h:jd (fe P) g F o.op=some v):Good P I k w a o v:=by
 rw[ho]at h
 simp only[jd,acH,acx]at h
 obtain⟨d,(hd:P.underlying t=some d),d',(hd':P.underlying t' = some d'),u,hu,h⟩:=h
 obtain⟨h1,h2⟩:=hF.eval hu
 have hint:∀ {q q':IntKind} {m:Int},d' = .int q→u = .i q' m→v = .i q (q.wrap m)→Good P I k w a o v:=by
  intro q q' m e1 e2 e3
  subst e1 e2 e3
  refine⟨?_,trivial⟩
  simp[execOp,ho,h1,ic,convert,run_underlying hd,run_underlying hd',Conv.intToInt]
 have Ni:∀ {e:Nat},d = .slice e→d' = .string→((fe P).nh e).bind (fun d=>match d with
   | .int .u8=>(sliceOf g 1 u).bind fun l=>(l.2.mapM fun(c:AV)=>match c with | .i .u8 n=>if 0≤n∧n<256 then some (UInt8.ofNat n.toNat)else none|_=>none).bind fun r=>some (AV.s r)
   | _=>none)=some v→Good P I k w a o v:=by
  intro e e1 e2 hh
  subst e1 e2
  obtain⟨de,(hde:P.underlying e=some de),hh⟩:=acx.1 hh
  split at hh
  ·obtain⟨l,hl,hh⟩:=acx.1 hh
   obtain⟨r,hr,hh⟩:=acx.1 hh
   cases hh
   obtain⟨s,hs,hsl,_⟩:=lZ hg hl
   have hn1:=Wj hr
   refine⟨?_,trivial⟩
   rw[hn1]at hsl
   have e3:l.1=r.length:=by have:=hsl.n;simp at this;omega
   rw[e3,acN]at hsl
   have e5:=GY (P:=P) (t:=t) (t':=t') (e:=e) (w:=w) (s:=s) (r:=r) hsl hd hde hd'
   rw[←hs]at e5
   simp only[execOp,ho,h1,Sem.run_bind,e5,Result.andThen_ok,Sem.run_pure]
   rfl
  ·cases hh
 split at h
 ·exact hint rfl rfl (ac8 h).symm
 ·exact Ni rfl rfl h
 ·cases h
end
end Go.Ev
end
section
namespace Go.Ev
open Go.Fw
section
variable {I:Ip}{env:Env}{lo k n:Nat}{w:World}{g:uf}{F:Fm}{a:Act}{dd:List Deferred}{P:Program}
theorem FR.parts(h:FR I k n F a dd){xs:List (Nat×Operand)}{vs:List (Nat×AV)}(hx:ri F xs=some vs):xs.map (fun p=>(p.1,a.eval p.2))=vs.map (fun p=>(p.1,I.g p.2)) ∧ ∀ p∈vs,jj k p.2:=by
 induction xs generalizing vs with
 | nil=>simp[ri]at hx;subst hx;simp
 | cons x xs ih =>
  obtain⟨i,x⟩:=x
  simp only[ri,acH,acx]at hx
  obtain⟨v,hv,us,yA,hx⟩:=hx
  cases hx
  obtain⟨h1,h2⟩:=h.eval hv
  obtain⟨h3,h4⟩:=ih yA
  refine⟨by simp[h1];exact h3,?_⟩
  intro p hp
  rcases aaM.1 hp with rfl|hp
  ·exact h2
  ·exact h4 p hp
structure Row(k N:Nat)(l:List AV):Prop where
 n:l.length=N
 one:∀ u∈l,pz u=true
 ok:∀ u∈l,jj k u
theorem tF{l vs:List AV}{off:Nat}{u:AV}(h:u∈put l off vs):u∈l∨u∈vs:=by
 simp only[put,aaF]at h
 rcases h with(h|h)|h
 ·exact .inl (acK h)
 ·exact .inr h
 ·exact .inl (acJ h)
theorem PW{N off m:Nat}{l vs r:List AV}(h:CZ N l off m vs=some r)(hl:Row k N l)(hv:vs.length=m)(h1:∀ u∈vs,pz u=true)(h2:∀ u∈vs,jj k u):r=put l off vs∧Row k N r∧off+m≤N:=by
 unfold CZ at h
 cases hb:(Nat.beq off 0&&Nat.beq N m)with
 | true =>
  simp only[hb,abw,ac9]at h
  simp only[dc,aaE]at hb
  obtain⟨rfl,rfl⟩:=hb
  subst h
  exact⟨by have:=hl.n;simp[put];omega,⟨hv,h1,h2⟩,ac_⟩
 | false =>
  simp only[hb,abt]at h
  cases hc:Nat.ble (off+m) N with
  | true =>
   simp only[hc,abw,ac9]at h
   have hle:=aae hc
   have hn:=hl.n
   rw[Wv l vs off ac_]at h
   subst h
   refine⟨rfl,⟨by simp[put];omega,fun u hu=>?_,fun u hu=>?_⟩,hle⟩
   ·exact(tF hu).elim (hl.one u) (h1 u)
   ·exact(tF hu).elim (hl.ok u) (h2 u)
  | false=>simp[hc]at h
theorem PU(f:AV→Value)(l vs:List AV)(off:Nat):(put l off vs).map f=put (l.map f) off (vs.map f):=by
 simp[put,acL,acM]
theorem KY{place:Nat→Option (Nat×Nat)}{N:Nat}:∀ (vs:List (Nat×AV)) {l r:List AV},uR place N l vs=some r→Row k N l→(∀ p∈vs,jj k p.2) →
  Row k N r∧Instr.fill place (l.map I.g).toArray (vs.map fun p=>(p.1,I.g p.2))=some (r.map I.g).toArray:=by
 intro vs
 induction vs with
 | nil=>intro l r h hl _;simp only[uR,ac9]at h;subst h;exact⟨hl,rfl⟩
 | cons p vs ih =>
  intro l r h hl hk
  obtain⟨i,v⟩:=p
  simp only[uR,acH,acx]at h
  obtain⟨⟨off,size⟩,hp,h⟩:=h
  simp only at h
  split at h
  ·cases h
  ·rename_i hc
   simp only[not_or,ne_eq,Decidable.not_not,acO]at hc
   obtain⟨hc1,qg⟩:=hc
   obtain⟨l',hl',h⟩:=acx.1 h
   have hv:=hk (i,v) (by simp)
   obtain⟨q1,q2⟩:=GV hv qg
   obtain⟨e1,h3,hle⟩:=PW hl' hl (by rw[KU hv,hc1]) q1 q2
   obtain⟨h4,h5⟩:=ih h h3 (fun p hp=>hk p (by simp[hp]))
   refine⟨h4,?_⟩
   have hlen:((cellsOf v).map I.g).length=size:=by rw[abl,KU hv,hc1]
   have hf:=pA ((cellsOf v).map I.g) 0 off (l.map I.g) (by simp only[abl,hl.n]at *; omega)
   simp only[abX]at hf
   simp only[aa4,Instr.fill,hp]
   have hcells:(I.g v).cells=((cellsOf v).map I.g).toArray:=jD I.sv v
   rw[hcells]
   simp only[abY,hlen,ne_eq,not_true_eq_false,decide_false,acn,aad,abl,hl.n]
   rw[aaz ac_,←aco,acp]
   simp only[hf]
   rw[←PU,←e1]
   exact h5
theorem zU{fs:Array Field}(h:∀ f∈fs,∃ z,(P.info? f.type).map (·.size)=some z):∃ pl:Array (Nat×Nat),(∀ w,(fs.mapM fun f=>do pure (f.offset,←sizeOf f.type):Sem (Array (Nat×Nat))).run P w = .ok pl w) ∧
  ∀ i:Nat,pl[i]? = (fs[i]?).bind fun(f:Field)=>((P.info? f.type).map (·.size)).map fun z=>(f.offset,z):=by
 obtain⟨l⟩:=fs
 simp only[List.mem_toArray]at h
 have key:∀ l:List Field,(∀ f∈l,∃ z,(P.info? f.type).map (·.size)=some z) → ∃ pl:List (Nat×Nat),(∀ w,(l.mapM fun f=>do pure (f.offset,←sizeOf f.type):Sem (List (Nat×Nat))).run P w = .ok pl w) ∧
   ∀ i:Nat,pl[i]? = (l[i]?).bind fun(f:Field)=>((P.info? f.type).map (·.size)).map fun z=>(f.offset,z):=by
  intro l
  induction l with
  | nil=>intro _;exact⟨[],fun w=>by simp,fun i=>by simp⟩
  | cons f l ih =>
   intro h
   obtain⟨pl,h1,h2⟩:=ih (fun f hf=>h f (by simp[hf]))
   obtain⟨z,hz⟩:=h f (by simp)
   refine⟨(f.offset,z)::pl,fun w=>?_,fun i=>?_⟩
   ·simp only[aaB,Sem.run_bind,fN hz,Result.andThen_ok,Sem.run_pure,h1]
   ·cases i with
    | zero=>simp only[acP,aaG,hz,aaI]
    | succ i=>simpa using h2 i
 obtain⟨pl,h1,h2⟩:=key l h
 refine⟨pl.toArray,fun w=>?_,fun i=>by simpa using h2 i⟩
 rw[List.mapM_toArray,Sem.run_map,h1 w];rfl
theorem WQ(hF:FR I k n F a dd){o:Oper}{t:Nat}{ps:Array (Nat×Operand)}{v:AV}(ho:o.op = .build t ps)(h:jd (fe P) g F o.op=some v):Good P I k w a o v:=by
 rw[ho]at h
 simp only[jd,acH,acx]at h
 obtain⟨vs,hvs,d,(hd:P.underlying t=some d),z,hz,h⟩:=h
 obtain⟨h1,h2⟩:=hF.parts hvs
 obtain⟨hz1,hz2,hz3⟩:=lF (P:=P) hz I k w
 have hps:(ps.map fun(i,x)=>(i,a.eval x)).toList=vs.map fun p=>(p.1,I.g p.2):=by rw[←h1];simp
 cases d<;>cases z<;>simp only at h<;>try (cases h;done)
 case struct.agg fs m l =>
  split at h
  ·cases h
  ·rename_i hall
   obtain⟨r,hr,h⟩:=acx.1 h
   cases h
   obtain⟨q1,q2,q3⟩:=gG.1 hz2
   have AK:∀ f∈fs,∃ z,(P.info? f.type).map (·.size)=some z:=by
    intro f hf
    simp only[aar,acO,aac]at hall
    have:=hall f (by simpa using hf)
    exact abr.1 this
   obtain⟨pl,M_,hp2⟩:=zU AK
   have ym:(fun i:Nat=>(fs[i]?).bind fun(f:Field)=>((fe P).sz f.type).bind fun z=>some (f.offset,z))=(pl[·]?):=by
    funext i
    rw[hp2 i]
    cases fs[i]? with
    | none=>rfl
    | some f =>
     simp only[aaG,fe]
     cases P.info? f.type<;>rfl
   obtain⟨h3,h4⟩:=KY (I:=I) vs hr ⟨q1,q2,q3⟩ h2
   rw[ym]at h4
   refine⟨?_,gG.2 ⟨h3.n,h3.one,h3.ok⟩⟩
   have IU:(I.g (.agg m l)).cells=(l.map I.g).toArray:=jD I.sv (.agg m l)
   simp only[execOp,ho,Instr.build,Sem.run_bind,hz1,Result.andThen_ok,IU,run_underlying hd,M_,hps,h4,Sem.run_pure]
   simp[ic,fD]
 case array.agg len e m l =>
  obtain⟨sz,hsz,h⟩:=acx.1 h
  obtain⟨r,hr,h⟩:=acx.1 h
  cases h
  obtain⟨q1,q2,q3⟩:=gG.1 hz2
  obtain⟨h3,h4⟩:=KY (I:=I) vs hr ⟨q1,q2,q3⟩ h2
  refine⟨?_,gG.2 ⟨h3.n,h3.one,h3.ok⟩⟩
  have IU:(I.g (.agg m l)).cells=(l.map I.g).toArray:=jD I.sv (.agg m l)
  have hs:=fN (P:=P) hsz
  simp only[execOp,ho,Instr.build,Sem.run_bind,hz1,Result.andThen_ok,IU,run_underlying hd,hs,hps,h4,Sem.run_pure]
  simp[ic,fD]
theorem FR.evalO(h:FR I k n F a dd){x:Option Operand}{v:Option AV}(hx:xo F x=some v):x.map a.eval=v.map I.g:=by
 cases x with
 | none=>simp[xo]at hx;subst hx;rfl
 | some x =>
  simp only[xo,aax]at hx
  obtain⟨u,hu,rfl⟩:=hx
  simp[(h.eval hu).1]
theorem tQ{v:AV}{i c:Nat}{bc:BoundsCode}(h:asNat v=some i)(hc:i≤c):(Instr.sliceBound (I.g v) c bc).run P w = .ok i w:=by
 obtain⟨q,hq⟩:=KX (I:=I) h
 have w_:(0:Int)≤(i:Int)∧(i:Int)≤(c:Int):=ac_
 simp only[Instr.sliceBound,hq,asIntOf,Sem.run_bind,Sem.run_pure,Result.andThen_ok,aay w_,abe]
theorem OQ{sl:Bool}{ln cap i j:Nat}{l r:Option AV}(hi:rj 0 l=some i)(hj:rj ln r=some j)(hij:i≤j)(hjl:j≤ln)(hc:ln≤cap) :
  (Instr.sliceBounds sl ln cap (l.map I.g) (r.map I.g) none).run P w = .ok (i,j,cap) w:=by
 cases l<;>cases r<;>simp only[rj]at hi hj
 ·cases hi;cases hj;simp[Instr.sliceBounds]
 ·cases hi;rename_i v;simp[Instr.sliceBounds,tQ (P:=P) (I:=I) (w:=w) hj (show j≤cap by omega)]
 ·cases hj;rename_i v;simp[Instr.sliceBounds,tQ (P:=P) (I:=I) (w:=w) hi hij]
 ·rename_i u v;simp[Instr.sliceBounds,tQ (P:=P) (I:=I) (w:=w) hj (show j≤cap by omega),tQ (P:=P) (I:=I) (w:=w) hi hij]
theorem WT(hg:GK I env lo k w g)(hF:FR I k n F a dd){o:Oper}{t:Nat}{x:Operand}{ol oh:Option Operand}{v:AV}(ho:o.op = .slice t x ol oh none)(h:jd (fe P) g F o.op=some v):Good P I k w a o v:=by
 rw[ho]at h
 simp only[jd,acH,acx]at h
 obtain⟨l,hl,r,hr,i,hi,d,(hd:P.underlying t=some d),u,hu,h⟩:=h
 have e1:=hF.evalO hl
 have e2:=hF.evalO hr
 obtain⟨h1,h2⟩:=hF.eval hu
 split at h
 ·rename_i e
  rw[acx]at h
  obtain⟨z,hz,h⟩:=h
  rw[acx]at h
  obtain⟨q,hq,h⟩:=h
  rw[acx]at h
  obtain⟨j,hj,h⟩:=h
  have xd:=fN (P:=P) hz
  split at h
  ·rename_i hij
   obtain⟨s,hs,hsl,_⟩:=lZ hg hq
   have hb:=OQ (P:=P) (I:=I) (w:=w) (sl:=true) (cap:=s.cap) hi hj hij.1 hij.2 (by rw[←hsl.len];exact hsl.room)
   have key:(execOp a.eval o).run P w = .ok (.value (s.cut i j z).v) w:=by
    have vn:=hsl.len
    obtain⟨sa,sl,sc⟩:=s
    simp only at vn;subst vn
    by_cases hc:sc=i
    ·subst hc
     simp only at hb
     simp[execOp,ho,h1,hs,e1,e2,Instr.sliceAt,Instr.slice,run_underlying hd,hb,xd,SV.cut,SV.v]
    ·have hc':¬ sc-i=0:=by have:=hsl.room;simp only at this;omega
     simp[execOp,ho,h1,hs,e1,e2,Instr.sliceAt,Instr.slice,run_underlying hd,hb,xd,SV.cut,SV.v,hc,hc']
   cases u<;>simp only at h<;>try (cases h;done)
   case nsl =>
    simp only[ac9]at h;subst h
    simp only[sliceOf,ac9]at hq
    subst hq
    refine⟨?_,trivial⟩
    rw[key]
    have:s=SV.nil:=by obtain⟨x,y,z⟩:=s;simp only[ic]at hs;cases hs;rfl
    subst this
    simp only at hij
    have:j=0:=ac_
    subst this
    have:i=0:=ac_
    subst this
    rfl
   case sl m off len cap =>
    simp only[ac9]at h;subst h
    refine⟨?_,h2⟩
    rw[key]
    have:s=⟨some ⟨(I.sv m).blk,off,none⟩,len,cap⟩:=by obtain⟨x,y,z⟩:=s;simp only[ic]at hs;cases hs;rfl
    subst this
    have hr2:=hsl.room
    have hl2:=hsl.len
    simp only at hr2 hl2
    by_cases hc:cap=i
    ·simp[SV.cut,ic,hc]
    ·have hc':¬ cap-i=0:=ac_
     simp[SV.cut,ic,hc,hc',eC]
   case row m cuts =>
    simp only[ac9]at h;subst h
    refine⟨?_,h2⟩
    rw[key]
    have:s=cuts.foldl (fun s c=>s.cut c.1 c.2.1 c.2.2) (I.sv m):=by
     have:s.v=(cuts.foldl (fun s c=>s.cut c.1 c.2.1 c.2.2) (I.sv m)).v:=hs.symm.trans rfl
     obtain⟨x,y,z⟩:=s
     generalize (cuts.foldl (fun s c=>s.cut c.1 c.2.1 c.2.2) (I.sv m))=t at this
     obtain⟨x',y',z'⟩:=t
     cases this;rfl
    rw[this]
    simp[ic]
  ·cases h
 ·rename_i len e m off
  rw[acx]at h
  obtain⟨z,hz,h⟩:=h
  rw[acx]at h
  obtain⟨j,hj,h⟩:=h
  have xd:=fN (P:=P) hz
  split at h
  ·rename_i hij
   obtain⟨h3,h4,h5,h6⟩:=hij
   simp only[ac9]at h;subst h h5
   have hb:=OQ (P:=P) (I:=I) (w:=w) (sl:=false) (cap:=len) hi hj h3 h4 (aal _)
   refine⟨?_,h2⟩
   have h0:¬ len=0:=ac_
   simp[execOp,ho,h1,ic,e1,e2,Instr.sliceAt,Instr.sureAddr,run_underlying hd,hb,xd,eC]
  ·cases h
 ·cases h
theorem UC(hg:GK I env lo k w g)(hF:FR I k n F a dd){o:Oper}{b:Builtin}{xs:Array Operand}{ts:Array TypeId}{v:AV}(ho:o.op = .call { callee:=.builtin b,args:=xs,argTypes:=ts })(h:jd (fe P) g F o.op=some v):Good P I k w a o v:=by
 rw[ho]at h
 simp only[jd,acH,acx]at h
 obtain⟨vs,hvs,h⟩:=h
 obtain⟨h1,h2⟩:=hF.evals hvs
 have EB:xs.map a.eval=(vs.map I.g).toArray:=by rw[←h1,←ab0,acs]
 have fin:∀ (u:Value),(∀ c ty,(builtin b ts ty c (vs.map I.g).toArray).run P w = .ok (.value u) w)→(execOp a.eval o).run P w = .ok (.value u) w:=by
  intro u hu
  simp only[execOp,ho,resolve,invoke,Sem.run_bind,Sem.run_pure,Result.andThen_ok,EB,hu]
 split at h
 ·rename_i u t r Kz
  rw[acx]at h
  obtain⟨d,(ht:P.underlying t=some d),h⟩:=h
  have QZ:ts[0]? = some t:=by
   obtain⟨l⟩:=ts
   simp only at Kz;subst Kz;rfl
  split at h
  ·simp only[ac9]at h;subst h
   refine⟨fin _ fun c ty=>?_,trivial⟩
   simp[builtin,Builtin.len_,QZ,run_underlying ht,ic,goInt]
   rfl
  ·rename_i e
   rw[acx]at h
   obtain⟨z,hz,h⟩:=h
   rw[acx]at h
   obtain⟨q,hq,h⟩:=h
   simp only[ac9]at h;subst h
   obtain⟨s,hs,hsl,_⟩:=lZ hg hq
   refine⟨fin _ fun c ty=>?_,trivial⟩
   simp[builtin,Builtin.len_,QZ,run_underlying ht,hs,goInt,ic,hsl.len]
  ·cases h
 ·simp only[ac9]at h;subst h
  refine⟨fin _ fun c ty=>?_,trivial⟩
  simp[builtin,Builtin.min_,Builtin.min2,ic]
 ·simp only[ac9]at h;subst h
  refine⟨fin _ fun c ty=>?_,trivial⟩
  simp[builtin,Builtin.max_,Builtin.max2,ic]
 ·cases h
theorem OV{key:AV}:∀ {es:List (AV×AV×Nat)} {r:Option AV} (kd:IntKind) (i:Nat),mD key es=some r →
  (∃ q x,key = .i q x) → ∃ r':Option (Nat×Value),Instr.findNow (.int kd) (I.g key) (es.map fun e=>(⟨I.g e.1,I.g e.2.1,e.2.2⟩ : MapEntry)) i=some r' ∧ r'.map (·.2)=r.map I.g:=by
 intro es
 induction es with
 | nil=>intro r kd i h _;simp only[mD,ac9]at h;subst h;exact⟨none,rfl,rfl⟩
 | cons e es ih =>
  intro r kd i h hk
  obtain⟨k',v,c⟩:=e
  obtain⟨q,x,rfl⟩:=hk
  simp only[mD]at h
  cases k' <;> simp only at h<;>try (cases h;done)
  rename_i q' y
  split at h
  ·rename_i hq
   subst hq
   simp only[aa4,Instr.findNow,ic,Ip.g,Instr.sameNow,if_true]
   split at h
   ·rename_i hx
    subst hx
    simp only[ac9]at h;subst h
    simp
   ·rename_i hx
    have hb:(x==y)=false:=by simp[hx]
    rw[hb]
    exact ih kd (i+1) h ⟨q,x,rfl⟩
  ·cases h
theorem SX{key:AV}:∀ {es:List (AV×AV×Nat)} {v:AV},mD key es=some (some v) → ∃ e∈es,e.2.1=v:=by
 intro es
 induction es with
 | nil=>intro v h;simp[mD]at h
 | cons e es ih =>
  intro v h
  obtain⟨k',u,c⟩:=e
  cases key<;>simp only[mD]at h<;>try (cases h;done)
  cases k' <;> simp only at h<;>try (cases h;done)
  split at h
  ·split at h
   ·simp only[ac9]at h;subst h;exact⟨_,aaR,rfl⟩
   ·obtain⟨e,he,h⟩:=ih h;exact⟨e,by simp[he],h⟩
  ·cases h
theorem UW(hg:GK I env lo k w g){m:AV}{es:List (AV×AV×Nat)}(h:mapOf g m=some es):(∀ e∈es,jj k e.2.1) ∧
  ((I.g m = .map none∧es = []) ∨ ∃ r c,I.g m = .map (some r)∧w.heap[r]? = some (.map (es.map fun e=>(⟨I.g e.1,I.g e.2.1,e.2.2⟩ : MapEntry)).toArray c)):=by
 cases m<;>simp only[mapOf]at h<;>try (cases h;done)
 ·cases h;exact⟨by simp,.inl ⟨rfl,rfl⟩⟩
 ·rename_i n
  cases hn:g n with
  | none=>simp[hn]at h
  | some o =>
   cases o<;>simp only[hn]at h<;>try (cases h;done)
   cases h
   exact⟨fun e he=>((hg.ok n _ hn).1 e he).2,.inr ⟨_,_,rfl,hg.holds n _ hn⟩⟩
theorem yD{kt:Nat}{kd:IntKind}(h:P.underlying kt=some (.int kd))(b:Bool)(n:Nat)(q:IntKind)(x:Int):(Instr.checkKey b (n+1) kt (.int q x)).run P w = .ok () w:=by
 unfold Instr.checkKey
 simp[run_underlying h]
theorem iy{kt:Nat}{kd:IntKind}(h:P.underlying kt=some (.int kd))(b:Bool)(q:IntKind)(x:Int):(Instr.checkKey b 10000 kt (.int q x)).run P w = .ok () w:=yD h b 9999 q x
theorem VI(hg:GK I env lo k w g)(hF:FR I k n F a dd){o:Oper}{t:Nat}{x y:Operand}{ok:Bool}{v:AV}(ho:o.op = .lookup t x y ok)(h:jd (fe P) g F o.op=some v):Good P I k w a o v:=by
 rw[ho]at h
 simp only[jd,acH,acx]at h
 obtain⟨key,hkey,d,(hd:P.underlying t=some d),m,hm,h⟩:=h
 obtain⟨h1,h2⟩:=hF.eval hkey
 obtain⟨h3,h4⟩:=hF.eval hm
 split at h
 ·rename_i kt e
  rw[acx]at h
  obtain⟨dk,(hdk:P.underlying kt=some dk),h⟩:=h
  split at h
  ·rename_i kd es q y hes
   rw[acx]at h
   obtain⟨r,hr,h⟩:=h
   rw[acx]at h
   obtain⟨z,hz,h⟩:=h
   simp only[ac9]at h
   obtain⟨r',hf,hv⟩:=OV (I:=I) kd 0 hr ⟨q,y,rfl⟩
   obtain⟨hz1,hz2,_⟩:=lF (P:=P) hz I k w
   obtain⟨hok,hmap⟩:=UW hg hes
   have tf:(Instr.findKey kt (I.g (.i q y)) (es.map fun e=>(⟨I.g e.1,I.g e.2.1,e.2.2⟩ : MapEntry))).run P w = .ok r' w:=by
    simp[Instr.findKey,run_underlying hdk,hf]
   have yl:∀ b,(Instr.checkKey b 10000 kt (I.g (.i q y))).run P w = .ok () w:=fun b=>iy hdk b q y
   have hv':jj k v:=by
    subst h
    cases r with
    | none=>cases ok<;>simp[xN,jj,qc,hz2]
    | some u =>
     have hu:jj k u:=by obtain⟨e,he,rfl⟩:=SX hr;exact hok e he
     cases ok<;>simp[xN,jj,qc,hu]
   refine⟨?_,hv'⟩
   have hl:(Instr.lookup t (I.g m) (I.g (.i q y)) ok).run P w = .ok (I.g v) w:=by
    have hstep:(Instr.lookup t (I.g m) (I.g (.i q y)) ok).run P w=(do
      let(v,Ab)←match r' with
       | some (_,v)=>pure (v,true)
       | none=>pure (←zeroValue e,false)
      pure (if ok then .tuple #[v,.bool Ab]else v):Sem Value).run P w:=by
     rcases hmap with⟨e1,rfl⟩|⟨b,c,e1,e2⟩
     ·simp only[Instr.lookup,Sem.run_bind,run_underlying hd,Result.andThen_ok,e1,Sem.run_pure,yl]
      simp only[aa5]at tf
      rw[tf];rfl
     ·simp only[Instr.lookup,Sem.run_bind,run_underlying hd,Result.andThen_ok,e1,Sem.run_pure,yl,MapKept.run_getObj_map e2]
      rw[tf];rfl
    rw[hstep]
    subst h
    cases r' with
    | none =>
     cases r with
     | some u=>simp at hv
     | none=>cases ok<;>simp[hz1,xN,ic,lG]
    | some p =>
     cases r with
     | none=>simp at hv
     | some u =>
      simp only[aaI,ac9]at hv
      cases ok<;>simp[xN,ic,lG,hv]
   simp only[execOp,ho,h1,h3,Sem.run_bind,hl,Result.andThen_ok,Sem.run_pure]
  ·cases h
 ·cases h
end
end Go.Ev
end
section
namespace Go.Ev
open Go.Fw
section
variable {I:Ip}{env:Env}{lo k n:Nat}{w:World}{g:uf}{F:Fm}{a:Act}{dd:List Deferred}{P:Program}
theorem Qb:∀ (d:Nat) {t:Nat} {x y:AV} {r:Bool},Cf (fe P) d t x y=some r→jj k x→jj k y → ∀ D,d≤D → ∀ w:World,(Op.equalIn D t (I.g x) (I.g y)).run P w = .ok r w:=by
 intro d
 induction d with
 | zero=>intro t x y r h;simp[Cf]at h
 | succ d ih =>
  intro t x y r h hkx QL D hD w
  obtain⟨D,rfl⟩ : ∃ D',D=D' + 1:=⟨D-1,ac_⟩
  have LK:d≤D:=ac_
  simp only[Cf,acH]at h
  rw[acx]at h
  obtain⟨td,(ht:P.underlying t=some td),h⟩:=h
  split at h
  ·simp only[ac9]at h;subst h
   exact Fw.run_equalIn_bool D ht
  ·split at h
   ·rename_i hk
    subst hk
    simp only[ac9]at h;subst h
    exact run_equalIn_int w D t _ _ _ _ ht
   ·cases h
  ·rename_i fs n xs m ys
   split at h
   ·cases h
   ·rename_i ym
    simp only[fe,aar,acO,dc]at ym
    have hfs:P.fieldsOf t=fs:=by simp[Program.fieldsOf,ht]
    have e1:=run_equalIn_struct (P:=P) w D t (xs.map I.g).toArray (ys.map I.g).toArray (by rw[hfs];exact ht) ym.2
    have g1:I.g (.agg n xs) = .agg (xs.map I.g).toArray:=by simp[ic,fD]
    have g2:I.g (.agg m ys) = .agg (ys.map I.g).toArray:=by simp[ic,fD]
    rw[g1,g2,e1,hfs]
    generalize fs.toList=l at h
    clear e1
    obtain⟨N1,N2,KI⟩:=gG.1 hkx
    obtain⟨N3,N4,KJ⟩:=gG.1 QL
    induction l generalizing r with
    | nil=>simp only[yv,ac9]at h;subst h;exact iC
    | cons f l Gq =>
     simp only[yv,acH]at h
     rw[acx]at h
     obtain⟨b,hb,h⟩:=h
     split at hb
     ·cases hb
     ·rename_i hname
      rw[acx]at hb
      obtain⟨px,Gl,hb⟩:=hb
      rw[acx]at hb
      obtain⟨py,Gm,hb⟩:=hb
      have he:=ih hb (nD Gl N1 N2 KI).1 (nD Gm N3 N4 KJ).1 D LK w
      have hn:f.name ≠ "_" := by simpa using hname
      have p1:(Go.part f.type (xs.map I.g).toArray f.offset).run P w = .ok (I.g px) w:=by
       exact tJ Gl N1
      have p2:(Go.part f.type (ys.map I.g).toArray f.offset).run P w = .ok (I.g py) w:=by
       exact tJ Gm N3
      simp only[Op.eqFields,aay hn,Sem.run_bind,p1,p2,Result.andThen_ok,he]
      cases b
      ·simp only[abq,if_false,ac9]at h;subst h;simp
      ·simp only[if_true]at h
       simpa using Gq h
  ·rename_i len e n xs m ys
   rw[acx]at h
   obtain⟨z,hz,h⟩:=h
   have xd:=fN (P:=P) hz
   cases hc:(Nat.beq n (len*z)&&Nat.beq m (len*z))with
   | false=>simp[hc]at h
   | true =>
    simp only[hc,abw]at h
    rw[acx]at h
    obtain⟨de,(hde:P.underlying e=some de),h⟩:=h
    have hag:=vH hde
    have e1:=Fw.run_equalIn_array (P:=P) w D (xs.map I.g).toArray (ys.map I.g).toArray ht xd
    have g1:I.g (.agg n xs) = .agg (xs.map I.g).toArray:=by simp[ic,fD]
    have g2:I.g (.agg m ys) = .agg (ys.map I.g).toArray:=by simp[ic,fD]
    rw[g1,g2,e1]
    obtain⟨N1,N2,KI⟩:=gG.1 hkx
    obtain⟨N3,N4,KJ⟩:=gG.1 QL
    simp only[dc,aaE]at hc
    obtain⟨hc1,qg⟩:=hc
    split at h
    ·rename_i hA
     rw[hA]at hag
     have key:∀ (rem s:Nat) (r:Bool),s+rem=len→Ak (fun a b=>Cf (fe P) d e (.agg z a) (.agg z b)) z rem (xs.drop (s*z)) (ys.drop (s*z))=some r →
       (Op.eqElems D e z (xs.map I.g).toArray (ys.map I.g).toArray (List.range' s rem)).run P w = .ok r w:=by
      intro rem
      induction rem with
      | zero=>intro s r hs h;simp only[Ak,ac9]at h;subst h;simp[Op.eqElems]
      | succ rem KA =>
       intro s r hs h
       simp only[Ak,acH]at h
       rw[acx]at h
       obtain⟨b,hb,h⟩:=h
       rw[sO,sO]at hb
       have hle:s*z+z≤len*z:=by rw[←Nat.succ_mul];exact aca _ ac_
       have o1:jj k (.agg z ((xs.drop (s*z)).take z)):=gG.2 ⟨by simp;omega,fun v hv=>N2 v (acJ (acK hv)),fun v hv=>KI v (acJ (acK hv))⟩
       have o2:jj k (.agg z ((ys.drop (s*z)).take z)):=gG.2 ⟨by simp;omega,fun v hv=>N4 v (acJ (acK hv)),fun v hv=>KJ v (acJ (acK hv))⟩
       have he:=ih hb o1 o2 D LK w
       have p1:=gN (P:=P) w hag xd (cs:=xs.map I.g) (off:=s*z) (vs:=((xs.drop (s*z)).take z).map I.g) (by simp[cut,acL,acM])
       have p2:=gN (P:=P) w hag xd (cs:=ys.map I.g) (off:=s*z) (vs:=((ys.drop (s*z)).take z).map I.g) (by simp[cut,acL,acM])
       have MU:(Op.equalIn D e (.agg (((xs.drop (s*z)).take z).map I.g).toArray) (.agg (((ys.drop (s*z)).take z).map I.g).toArray)).run P w = .ok b w:=by
        have:=he
        simpa[ic,fD]using this
       simp only[List.range'_succ,Op.eqElems,Sem.run_bind,p1,p2,Result.andThen_ok,MU]
       cases b
       ·simp only[abq,if_false,ac9]at h;subst h;simp
       ·simp only[if_true]at h
        rw[rQ,rQ,List.drop_drop,List.drop_drop]at h
        rw[show s*z+z=(s+1)*z by rw[ab4,acr]]at h
        simpa using KA (s+1) r ac_ h
     have:=key len 0 r ac_ (by simpa using h)
     rwa [←ach]at this
    ·rename_i hA
     have hA':wy de=false:=by simpa using hA
     rw[hA']at hag
     generalize List.range len=is at h
     induction is generalizing r with
     | nil=>simp only[yv,ac9]at h;subst h;simp[Op.eqElems]
     | cons i is Gq =>
      simp only[yv,acH]at h
      rw[acx]at h
      obtain⟨b,hb,h⟩:=h
      rw[acx]at hb
      obtain⟨px,Gl,hb⟩:=hb
      rw[acx]at hb
      obtain⟨py,Gm,hb⟩:=hb
      rw[wD]at Gl Gm
      have he:=ih hb (KI _ (abj Gl)) (KJ _ (abj Gm)) D LK w
      have p1:=gO (P:=P) w hag (cs:=xs.map I.g) (off:=i*z) (v:=I.g px) (by rw[abE,Gl];rfl)
      have p2:=gO (P:=P) w hag (cs:=ys.map I.g) (off:=i*z) (v:=I.g py) (by rw[abE,Gm];rfl)
      simp only[Op.eqElems,Sem.run_bind,p1,p2,Result.andThen_ok,he]
      cases b
      ·simp only[abq,if_false,ac9]at h;subst h;simp
      ·simp only[if_true]at h
       simpa using Gq h
  ·cases h
theorem Uf {q:BinOp} {kd:IntKind} {x y:Int} {v:AV} (h:yM q kd x y = some v):(match q with
    | .add | .sub | .mul=>Op.intArith q kd x y
    | .quo | .rem=>Op.intDiv q kd x y
    | .and | .or | .xor | .andNot=>Op.intBits q kd x y
    | _=>Op.intCmp q x y:Sem Value).run P w = .ok (I.g v) w ∧ jj k v:=by
  cases q <;> simp only [yM] at h <;> try (cases h; done)
  all_goals first
    | (simp only [ac9] at h; subst h; refine ⟨?_,trivial⟩; simp [Op.intArith,Op.intBits,Op.intCmp,ic,iP,uu,rm,rV]; try rfl; done)
    | (split at h
       · cases h
       · rename_i hy
         simp only [ac9] at h; subst h; refine ⟨?_,trivial⟩; simp [Op.intDiv,hy,ic])
theorem Qe{q:BinOp}{t:Nat}{x y:Operand}{A B:Bool}:(eqGuard q t x y (.bool A) (.bool B)).run P w = .ok () w:=by
 unfold eqGuard;cases q<;>simp
theorem La{q:BinOp}{t:Nat}{x y:Operand}{c d:IntKind}{A B:Int}:(eqGuard q t x y (.int c A) (.int d B)).run P w = .ok () w:=by
 unfold eqGuard;cases q<;>simp
theorem Qu{q:BinOp}{t:Nat}{x y:Operand}{A B:ByteArray}:(eqGuard q t x y (.string A) (.string B)).run P w = .ok () w:=by
 unfold eqGuard;cases q<;>simp
theorem Ei{q:BinOp}{t:Nat}{x y:Operand}{A B:Option Addr}{c d e f:Nat}:(eqGuard q t x y (.slice A c d) (.slice B e f)).run P w = .ok () w:=by
 unfold eqGuard;cases q<;>simp
theorem WO(hg:GK I env lo k w g)(hF:FR I k n F a dd){o:Oper}{q:BinOp}{t t':Nat}{x y:Operand}{v:AV}(ho:o.op = .binOp q t x y t')(h:jd (fe P) g F o.op=some v):Good P I k w a o v:=by
 rw[ho]at h
 simp only[jd,acH]at h
 rw[acx]at h
 obtain⟨u,hu,h⟩:=h
 rw[acx]at h
 obtain⟨u',hu',h⟩:=h
 obtain⟨h1,h2⟩:=hF.eval hu
 obtain⟨h3,h4⟩:=hF.eval hu'
 have fin:∀ {r:Value},(eqGuard q t x y (I.g u) (I.g u')).run P w = .ok () w→(binOp q t (I.g u) (I.g u')).run P w = .ok r w→(execOp a.eval o).run P w = .ok (.value r) w:=by
  intro r e1 e2
  simp only[execOp,ho,h1,h3,Sem.run_bind,e1,Result.andThen_ok,e2,Sem.run_pure]
 cases u<;>cases u' <;> simp only[Ho,acH]at h<;>try (cases h;done)
 case b.b x y =>
  rw[show(I.g (AV.b x)) = .bool x from rfl,show(I.g (AV.b y)) = .bool y from rfl]at fin
  rw[acx]at h
  obtain⟨d,(hd:P.underlying t=some d),h⟩:=h
  split at h
  ·simp only[ac9]at h;subst h
   exact⟨fin Qe (by simp[binOp,Fw.run_equal_bool hd,ic]),trivial⟩
  ·simp only[ac9]at h;subst h
   exact⟨fin Qe (by simp[binOp,Fw.run_equal_bool hd,ic]),trivial⟩
  ·cases h
 case i.i kd x kd' y =>
  rw[show(I.g (AV.i kd x)) = .int kd x from rfl,show(I.g (AV.i kd' y)) = .int kd' y from rfl]at fin
  split at h
  ·split at h
   ·cases h
   ·rename_i hy
    simp only[ac9]at h;subst h
    exact⟨fin La (by simp[binOp,Op.shift,hy,shl,ic]),trivial⟩
  ·split at h
   ·cases h
   ·rename_i hy
    simp only[ac9]at h;subst h
    exact⟨fin La (by simp[binOp,Op.shift,hy,shr,ic]),trivial⟩
  ·rename_i hn1 QP
   split at h
   ·rename_i hk
    subst hk
    obtain⟨e1,e2⟩:=Uf (P:=P) (I:=I) (k:=k) (w:=w) h
    refine⟨fin La ?_,e2⟩
    cases q<;>simp only[binOp,ne_eq,not_true_eq_false,if_false]<;>first|exact e1|exact absurd rfl hn1|exact absurd rfl QP|skip
   ·cases h
 case s.s x y =>
  rw[show(I.g (AV.s x)) = .string ⟨x.toArray⟩from rfl,show(I.g (AV.s y)) = .string ⟨y.toArray⟩from rfl]at fin
  split at h
  ·simp only[ac9]at h;subst h
   refine⟨fin Qu ?_,trivial⟩
   by_cases hxy:x=y<;>simp[binOp,Op.stringOp,ic,hxy]
  ·simp only[ac9]at h;subst h
   refine⟨fin Qu ?_,trivial⟩
   by_cases hxy:x=y<;>simp[binOp,Op.stringOp,ic,hxy]
  ·cases h
 case agg.agg m xs m' ys =>
  have g1:I.g (.agg m xs) = .agg (xs.map I.g).toArray:=by simp[ic,fD]
  have g2:I.g (.agg m' ys) = .agg (ys.map I.g).toArray:=by simp[ic,fD]
  split at h
  ·split at h
   ·cases h
   ·rename_i ym
    simp only[fe,aar,acO,dc]at ym
    rw[acx]at h
    obtain⟨b,hb,h⟩:=h
    simp only[ac9]at h;subst h
    have he:=Qb (I:=I) 20 hb h2 h4 10000 ac_ w
    rw[g1,g2]at fin he
    exact⟨fin (run_eqGuard_agg w _ t x y _ _ ym.1) (by rw[run_eql_struct,he];rfl),trivial⟩
  ·split at h
   ·cases h
   ·rename_i ym
    simp only[fe,aar,acO,dc]at ym
    rw[acx]at h
    obtain⟨b,hb,h⟩:=h
    simp only[ac9]at h;subst h
    have he:=Qb (I:=I) 20 hb h2 h4 10000 ac_ w
    rw[g1,g2]at fin he
    exact⟨fin (run_eqGuard_agg w _ t x y _ _ ym.1) (by rw[run_neq_struct,he];rfl),trivial⟩
  ·cases h
 case nsl.nsl =>
  rw[show(I.g AV.nsl) = .slice none 0 0 from rfl]at fin
  rw[acx]at h
  obtain⟨d,(hd:P.underlying t=some d),h⟩:=h
  split at h
  ·simp only[ac9]at h;subst h
   refine⟨fin Ei ?_,trivial⟩
   simp only[binOp,Sem.run_bind,run_equal_slice_nil w t _ _ _ _ hd,Result.andThen_ok,Sem.run_pure];rfl
  ·cases h
 case sl.nsl m off len cap =>
  rw[show(I.g AV.nsl) = .slice none 0 0 from rfl,show I.g (.sl m off len cap) = .slice (some ⟨(I.sv m).blk,off,none⟩) len cap from rfl]at fin
  rw[acx]at h
  obtain⟨d,(hd:P.underlying t=some d),h⟩:=h
  split at h
  ·simp only[ac9]at h;subst h
   refine⟨fin Ei ?_,trivial⟩
   simp only[binOp,Sem.run_bind,run_equal_slice_nil w t _ _ _ _ hd,Result.andThen_ok,Sem.run_pure];rfl
  ·cases h
 case row.nsl m cuts =>
  rw[acx]at h
  obtain⟨d,(hd:P.underlying t=some d),h⟩:=h
  split at h
  ·rename_i e e' z c l hm
   split at h
   ·cases h
   ·rename_i hc
    simp only[ac9]at h;subst h
    have ru:w.ownsRow lo e' z (I.sv m).v c (l.map I.g):=hg.holds m _ hm
    have hsome:∃ ad,(I.sv m).a=some ad:=by
     rcases ru.2 with⟨q1,q2⟩|⟨b,cap,cur,q1,_⟩
     ·exact absurd q2 hc
     ·cases hx:I.sv m;rw[hx]at q1;cases q1;exact⟨_,rfl⟩
    have key:∀ (cuts:List (Nat×Nat×Nat)) (s:SV),(∃ ad,s.a=some ad) → ∃ ad,(cuts.foldl (fun s c=>s.cut c.1 c.2.1 c.2.2) s).a=some ad:=by
     intro cuts
     induction cuts with
     | nil=>intro s h;exact h
     | cons c cuts ih =>
      intro s ⟨ad,h⟩
      refine ih _ ?_
      simp only[SV.cut]
      split
      ·exact⟨ad,h⟩
      ·exact⟨_,by rw[h];rfl⟩
    obtain⟨ad,had⟩:=key cuts _ hsome
    have hrow:I.g (.row m cuts)=(cuts.foldl (fun s c=>s.cut c.1 c.2.1 c.2.2) (I.sv m)).v:=rfl
    rw[show(I.g AV.nsl) = .slice none 0 0 from rfl,hrow]at fin
    refine⟨fin Ei ?_,trivial⟩
    simp only[binOp,Sem.run_bind,run_equal_slice_nil w t _ _ _ _ hd,Result.andThen_ok,Sem.run_pure,had];rfl
  ·cases h
end
end Go.Ev
end
section
namespace Go.Ev
open Go.Fw
section
variable {I:Ip}{env:Env}{lo k n:Nat}{w:World}{g:uf}{F:Fm}{a:Act}{dd:List Deferred}{P:Program}
theorem zY(hg:GK I env lo k w g)(hF:FR I k n F a dd){o:Oper}{v:AV}(h:jd (fe P) g F o.op=some v):Good P I k w a o v:=by
 have h0:=h
 cases ho:o.op with
 | move x=>rw[ho]at h;exact Xl hF ho (by simpa[jd]using h)
 | assign x=>rw[ho]at h;exact VH hF ho (by simpa[jd]using h)
 | pick c x y=>exact Xm hF ho h
 | binOp q t x y t'=>exact WO hg hF ho h
 | unOp q t x=>exact Xn hF ho h
 | convert t t' x=>exact UD hg hF ho h
 | fieldAddr t x f=>exact He hF ho h
 | field t x f=>exact WR hF ho h
 | indexAddr t x y=>exact J5 hg hF ho h
 | index t x y=>exact WS hF ho h
 | load t x=>exact Xk hg hF ho h
 | extract x i=>exact UE hF ho h
 | nilCheck x=>exact TR hF ho h
 | makeFunc q fs cs=>exact TQ hF ho h
 | build t ps=>exact WQ hF ho h
 | slice t x l r m =>
  cases m with
  | none=>exact WT hg hF ho h
  | some m=>rw[ho]at h;simp[jd]at h
 | lookup t x y ok=>exact VI hg hF ho h
 | call c =>
  obtain⟨callee,xs,ts⟩:=c
  cases callee with
  | builtin b=>exact UC hg hF ho h
  | _=>rw[ho]at h;simp[jd]at h
 | _=>rw[ho]at h;simp[jd]at h
end
structure Agree(k:Nat)(I I':Ip):Prop where
 sv:∀ n,n<k→I.sv n=I'.sv n
 arr:∀ n,n<k→I.arr n=I'.arr n
 fn:∀ n,n<k→I.fn n=I'.fn n
theorem Agree.refl(k:Nat)(I:Ip):Agree k I I:=⟨fun _ _=>rfl,fun _ _=>rfl,fun _ _=>rfl⟩
theorem Agree.trans{k k':Nat}{I I' OI:Ip}(h:Agree k I I')(h':Agree k' I' OI)(hk:k≤k'):Agree k I OI :=
 ⟨fun n hn=>(h.sv n hn).trans (h'.sv n ac_),fun n hn=>(h.arr n hn).trans (h'.arr n ac_),fun n hn=>(h.fn n hn).trans (h'.fn n ac_)⟩
theorem Agree.v{k:Nat}{I I':Ip}(h:Agree k I I'){v:AV}(hv:jj k v):I'.g v=I.g v:=(O2 h.sv v hv).symm
theorem Agree.map{k:Nat}{I I':Ip}(h:Agree k I I'){l:List AV}(hv:∀ v∈l,jj k v):l.map I'.g=l.map I.g:=acQ fun v hm=>h.v (hv v hm)
structure vr(I:Ip)(env:Env)(k:Nat):Prop where
 name:∀ l L,ij env l=some L→l<k∧L.d<k
 fr:∀ l L,ij env l=some L→FR I k L.n L.tm { tmps:=I.arr l,defers:=[] } []
theorem FR.agree{k k' n:Nat}{I I':Ip}{F:Fm}{a:Act}{dd:List Deferred}(hF:FR I k n F a dd)(h:Agree k I I')(hk:k≤k'):FR I' k' n F a dd :=
 ⟨hF.defers,hF.size,fun t v e=>by obtain⟨h1,h2,h3⟩:=hF.get t v e;exact⟨h1,jH hk v h2,by rw[h3,h.v h2]⟩⟩
theorem vr.agree{k k':Nat}{I I':Ip}{env:Env}(hE:vr I env k)(h:Agree k I I')(hk:k≤k'):vr I' env k' :=
 ⟨fun l L e=>by have:=hE.name l L e;omega,fun l L e=>by rw[←h.arr l (hE.name l L e).1];exact(hE.fr l L e).agree h hk⟩
theorem Vi{k k':Nat}(hk:k≤k'){o:kC}(h:okO k o):okO k' o:=by
 cases o<;>simp only[okO]at h ⊢
 case pt=>exact⟨h.1,h.2.1,fun v hv=>jH hk v (h.2.2 v hv)⟩
 case fz=>exact⟨h.1,h.2.1,fun v hv=>jH hk v (h.2.2 v hv)⟩
 case row=>exact⟨h.1,h.2.1,h.2.2.1,fun v hv=>jH hk v (h.2.2.2 v hv)⟩
 case map=>exact fun e he=>⟨jH hk _ (h e he).1,jH hk _ (h e he).2⟩
theorem yC{k lo n:Nat}{I I':Ip}{env s6:Env}(h:Agree k I I')(hE:∀ L,ij env n=some L→L.d<k)(he:ij s6 n=ij env n){o:kC}(ho:okO k o)(hn:n<k):res I' s6 lo n o=res I env lo n o:=by
 cases o<;>simp only[okO]at ho<;>simp only[res,←h.sv n hn]
 case pt=>rw[h.map ho.2.2]
 case fz=>rw[h.map ho.2.2]
 case row=>rw[h.map ho.2.2.2]
 case map es c =>
  congr 3
  exact acQ fun e hm=>by rw[h.v (ho e hm).1,h.v (ho e hm).2]
 case loop st pd =>
  rw[he]
  cases hL:ij env n with
  | none=>rfl
  | some L=>simp only[lH,←h.arr n hn,←h.fn n hn,←h.sv L.d (hE L hL)]
structure SR(I:Ip)(env:Env)(w0:World)(s:St)(w:World):Prop where
 old:Same 0 [] w0 w
 io:Io w0 w
 ok:∀ n o,find s.h n=some o→n<s.nx∧okO s.nx o
 holds:∀ n o,find s.h n=some o→(res I env w0.heap.size n o).holds w
 low:∀ n o,find s.h n=some o → ∀ b,(res I env w0.heap.size n o).fp b→w0.heap.size≤b
 apart:∀ n m o o',find s.h n=some o→find s.h m=some o' → n≠m → ∀ b,(res I env w0.heap.size n o).fp b → ¬ (res I env w0.heap.size m o').fp b
 dW:∀ n,n∈s.dW→n<s.nx
 env:vr I env s.nx
theorem SR.gk{I:Ip}{env:Env}{w0 w:World}{s:St}(h:SR I env w0 s w):GK I env w0.heap.size s.nx w (find s.h):=⟨h.holds,fun n o e=>⟨(h.ok n o e).2,(h.ok n o e).1⟩⟩
theorem SR.size{I:Ip}{env:Env}{w0 w:World}{s:St}(h:SR I env w0 s w):w0.heap.size≤w.heap.size:=h.old.size
theorem SR.turn{I I':Ip}{env s6:Env}{w0 w w':World}{s s':St}{t:Nat→Prop}{b:Nat}(h:SR I env w0 s w)(ag:Agree s.nx I I')(EO:s.nx≤s'.nx)(henv:∀ m,m<s.nx→m≠b→ij s6 m=ij env m)
  (io:Io w w') (size:w.heap.size≤w'.heap.size) (block:∀ j,j<w.heap.size → ¬ t j→w'.heap[j]? = w.heap[j]?) (Jm:∀ j,t j→w0.heap.size≤j)
  (old:∀ n o,n≠b→find s'.h n=some o→(o = .dead∧n<s'.nx)∨(find s.h n=some o ∧ ∀ j,(res I env w0.heap.size n o).fp j → ¬ t j))
  (new:∀ o,find s'.h b=some o→b<s'.nx∧okO s'.nx o∧(res I' s6 w0.heap.size b o).holds w' ∧ ∀ j,(res I' s6 w0.heap.size b o).fp j→t j∨w.heap.size≤j)
  (hm:∀ n,n∈s'.dW→n<s'.nx) (hE:vr I' s6 s'.nx):SR I' s6 w0 s' w':=by
 have hs:=h.size
 have same:∀ n o,n≠b→find s.h n=some o→res I' s6 w0.heap.size n o=res I env w0.heap.size n o:=fun n o hn e =>
  yC ag (fun L hL=>(h.env.name n L hL).2) (henv n (h.ok n o e).1 hn) (h.ok n o e).2 (h.ok n o e).1
 have blk0:∀ j,j<w.heap.size → ¬ w0.heap.size≤j→w'.heap[j]? = w.heap[j]?:=fun j hj hn=>block j hj fun ht=>hn (Jm j ht)
 have dead:∀ n,res I' s6 w0.heap.size n .dead=BR:=fun n=>rfl
 refine⟨⟨ac_,fun j h1 h2 h3=>?_⟩,h.io.trans io,fun n o e=>?_,fun n o e=>?_,fun n o e j hj=>?_,?_,hm,hE⟩
 ·rw[blk0 j ac_ ac_];exact h.old.block j h1 h2 h3
 ·by_cases hn:n=b
  ·subst hn;exact⟨(new o e).1,(new o e).2.1⟩
  ·rcases old n o hn e with⟨rfl,h1⟩|⟨h1,_⟩
   ·exact⟨h1,trivial⟩
   ·have:=h.ok n o h1;exact⟨ac_,Vi EO this.2⟩
 ·by_cases hn:n=b
  ·subst hn;exact(new o e).2.2.1
  ·rcases old n o hn e with⟨rfl,h1⟩|⟨h1,h2⟩
   ·rw[dead];exact⟨fun _ hk=>hk.elim,fun _ _ _ _=>trivial⟩
   ·rw[same n o hn h1]
    exact di.keep (h.holds n o h1) io size fun j hj=>block j (di.fp_lt (h.holds n o h1) hj) (h2 j hj)
 ·by_cases hn:n=b
  ·subst hn
   rcases(new o e).2.2.2 j hj with h1|h1
   ·exact Jm j h1
   ·omega
  ·rcases old n o hn e with⟨rfl,h1⟩|⟨h1,h2⟩
   ·rw[dead]at hj;exact hj.elim
   ·rw[same n o hn h1]at hj;exact h.low n o h1 j hj
 ·have key:∀ n m o o',find s'.h n=some o→find s'.h m=some o' → n≠m→m≠b → ∀ j,(res I' s6 w0.heap.size n o).fp j→(res I' s6 w0.heap.size m o').fp j→False:=by
   intro n m o o' e e' hnm Kx j hj hj'
   rcases old m o' Kx e' with⟨rfl,_⟩|⟨h1,h2⟩
   ·rw[dead]at hj'; exact hj'
   ·rw[same m o' Kx h1]at hj'
    have hlt:=di.fp_lt (h.holds m o' h1) hj'
    by_cases hn:n=b
    ·subst hn
     rcases(new o e).2.2.2 j hj with h3|h3
     ·exact h2 j hj' h3
     ·omega
    ·rcases old n o hn e with⟨rfl,_⟩|⟨h3,h4⟩
     ·rw[dead]at hj;exact hj
     ·rw[same n o hn h3]at hj
      exact h.apart n m o o' h3 h1 hnm j hj hj'
  intro n m o o' e e' hnm j hj hj'
  by_cases Kx:m=b
  ·exact key m n o' o e' e (fun x=>hnm x.symm) ac_ j hj' hj
  ·exact key n m o o' e e' hnm Kx j hj hj'
structure Step(s s':St):Prop where
 nx:s.nx≤s'.nx
 mono:∀ n,n<s.nx→n∈s.wr→n∈s'.wr
 wU:∀ n,n<s.nx→n∉s'.wr→find s'.h n=find s.h n
theorem Step.refl(s:St):Step s s:=⟨aal _,fun _ _ h=>h,fun _ _ _=>rfl⟩
theorem Step.trans{a b c:St}(h:Step a b)(k:Step b c):Step a c :=
  ⟨aam h.nx k.nx,fun n hn hm=>k.mono n (by have:=h.nx;omega) (h.mono n hn hm),
   fun n hn hm=>(k.wU n (by have:=h.nx;omega) hm).trans (h.wU n hn fun hb=>hm (k.mono n (by have:=h.nx;omega) hb))⟩
theorem jF{h:Heap}{n m:Nat}{o x:kC}(e:find (upd h n o) m=some x):(m=n∧x=o)∨(m≠n∧find h m=some x):=Tr.set_some e
theorem OP{h:Heap}{n m:Nat}{o:kC}(e:m≠n):find (upd h n o) m=find h m:=Tr.set_other e
theorem Step.wrote(s:St)(n:Nat)(o:kC):Step s (wrote s n o):=by
 refine⟨aal _,fun m hm h=>?_,fun m hm h=>?_⟩
 ·simp only[Ev.wrote];cases ji n s.wr<;>simp[h]
 ·refine OP fun e=>?_
  subst e
  simp only[Ev.wrote]at h
  cases hb:ji m s.wr with
  | true=>rw[hb]at h;exact h (fG.1 hb)
  | false=>simp[hb]at h
theorem Vs(s:St)(n:Nat)(o:kC):(wrote s n o).nx=s.nx:=rfl
theorem Hg(s:St)(n:Nat)(o:kC):(wrote s n o).dW=s.dW:=rfl
theorem gU{s s':St}{o:kC}{n:Nat}(h:fresh s o=some (n,s')):n=s.nx∧s' = { s with h:=upd s.h s.nx o,nx:=s.nx+1 }:=by
 simp only[fresh]at h
 split at h
 ·cases h
 ·cases h;exact⟨rfl,rfl⟩
theorem Step.fresh{s s':St}{o:kC}{n:Nat}(h:fresh s o=some (n,s')):Step s s':=by
 obtain⟨_,rfl⟩:=gU h
 exact⟨abL _,fun _ _ h=>h,fun m hm _=>OP ac_⟩
def Ip.with(I:Ip)(k:Nat)(s:SV)(ar:Array Value):Ip:=⟨fun n=>if n=k then s else I.sv n,fun n=>if n=k then ar else I.arr n,I.fn⟩
theorem Agree.with(I:Ip)(k:Nat)(s:SV)(ar:Array Value):Agree k I (I.with k s ar) :=
 ⟨fun n hn=>by simp[Ip.with,acR hn],fun n hn=>by simp[Ip.with,acR hn],fun n hn=>rfl⟩
theorem mE(I:Ip)(k:Nat)(s:SV)(ar:Array Value):(I.with k s ar).sv k=s:=by simp[Ip.with]
theorem SR.add{I:Ip}{env:Env}{w0 w w':World}{s s':St}{o:kC}{n:Nat}(h:SR I env w0 s w)(hf:fresh s o=some (n,s'))(sv:SV)(ho:okO (s.nx+1) o)
  (hA:iz (res (I.with s.nx sv #[]) env w0.heap.size s.nx o) w w'):SR (I.with s.nx sv #[]) env w0 s' w':=by
 obtain⟨rfl,rfl⟩:=gU hf
 refine h.turn (t:=fun _=>False) (b:=s.nx) (Agree.with _ _ _ _) (abL _) (fun _ _ _=>rfl) hA.keeps.io hA.keeps.size (fun j hj _=>hA.keeps.block j hj (by simp)) (fun _ hj=>hj.elim) (fun n o' hn e=>?_) (fun o' e=>?_) (fun n hn=>?_) (h.env.agree (Agree.with _ _ _ _) (abL _))
 ·rcases jF e with⟨h1,_⟩|⟨_,h2⟩
  ·exact absurd h1 hn
  ·exact .inr ⟨h2,fun _ _ hj=>hj⟩
 ·rcases jF e with⟨_,rfl⟩|⟨h1,_⟩
  ·exact⟨acz _,ho,hA.holds,fun j hj=>.inr (hA.fp j hj)⟩
  ·exact absurd rfl h1
 ·have:=h.dW n hn;exact Nat.lt_succ_of_lt this
theorem SR.chg{I:Ip}{env:Env}{w0 w w':World}{s:St}{o o':kC}{n:Nat}(h:SR I env w0 s w)(hf:find s.h n=some o)(ho:okO s.nx o')(hU:oa (res I env w0.heap.size n o) (res I env w0.heap.size n o') w w'):SR I env w0 (wrote s n o') w':=by
 refine h.turn (t:=(res I env w0.heap.size n o).fp) (b:=n) (Agree.refl _ _) (aal _) (fun _ _ _=>rfl) hU.io hU.size hU.block (h.low n o hf) (fun m x hn e=>?_) (fun x e=>?_) h.dW h.env
 ·rcases jF e with⟨h1,_⟩|⟨_,h2⟩
  ·exact absurd h1 hn
  ·exact .inr ⟨h2,fun j hj hj'=>h.apart n m o x hf h2 (fun e=>hn e.symm) j hj' hj⟩
 ·rcases jF e with⟨_,rfl⟩|⟨h1,_⟩
  ·exact⟨(h.ok n o hf).1,ho,hU.holds,hU.fp⟩
  ·exact absurd rfl h1
theorem SR.move{I:Ip}{env:Env}{w0 w w':World}{s s':St}{o o':kC}{n n':Nat}(h:SR I env w0 s w)(hf:find s.h n=some o)(hfr:fresh (wrote s n .dead) o' = some (n',s'))(sv:SV)(ho:okO (s.nx+1) o')
  (hU:oa (res I env w0.heap.size n o) (res (I.with s.nx sv #[]) env w0.heap.size s.nx o') w w'):SR (I.with s.nx sv #[]) env w0 s' w':=by
 obtain⟨rfl,rfl⟩:=gU hfr
 refine h.turn (t:=(res I env w0.heap.size n o).fp) (b:=s.nx) (Agree.with _ _ _ _) (abL _) (fun _ _ _=>rfl) hU.io hU.size hU.block (h.low n o hf) (fun m x hn e=>?_) (fun x e=>?_) (fun m hm=>?_) (h.env.agree (Agree.with _ _ _ _) (abL _))
 ·rcases jF e with⟨h1,_⟩|⟨_,h2⟩
  ·exact absurd h1 hn
  ·rcases jF h2 with⟨h3,rfl⟩|⟨h3,h4⟩
   ·subst h3;exact .inl ⟨rfl,by have:=(h.ok m o hf).1;simp only[Vs];omega⟩
   ·exact .inr ⟨h4,fun j hj hj'=>h.apart n m o x hf h4 (fun e=>h3 e.symm) j hj' hj⟩
 ·rcases jF e with⟨_,rfl⟩|⟨h1,_⟩
  ·exact⟨acz _,ho,hU.holds,hU.fp⟩
  ·exact absurd rfl h1
 ·have:=h.dW m hm;exact Nat.lt_succ_of_lt this
theorem SR.keep{I:Ip}{env:Env}{w0 w w':World}{s:St}(h:SR I env w0 s w)(hk:gw [] w w'):SR I env w0 s w' :=
 h.turn (t:=fun _=>False) (b:=s.nx) (Agree.refl _ _) (aal _) (fun _ _ _=>rfl) hk.io hk.size (fun j hj _=>hk.block j hj (by simp)) (fun _ hj=>hj.elim) (fun n o' _ e=>.inr ⟨e,fun _ _ hj=>hj⟩)
  (fun o' e=>absurd (h.ok _ _ e).1 (abJ _)) h.dW h.env
end Go.Ev
end
section
namespace Go.Ev
open Go.Fw
structure Sv(I:Ip)(env:Env)(w0:World)(s s':St)(v:AV)(u:Value)(w':World)(I':Ip):Prop where
 ag:Agree s.nx I I'
 sr:SR I' env w0 s' w'
 val:u=I'.g v
 NW:jj s'.nx v
 step:Step s s'
 dW:s'.dW=s.dW
def Left(I:Ip)(env:Env)(w0:World)(s s':St)(v:AV)(u:Value)(w':World):Prop:=∃ I',Sv I env w0 s s' v u w' I'
section
variable {I:Ip}{env:Env}{n:Nat}{w0 w:World}{s s':St}{F:Fm}{a:Act}{dd:List Deferred}{P:Program}
theorem SR.newPt(h:SR I env w0 s w){m N T:Nat}{l:List AV}(hf:fresh s (.pt N l T)=some (m,s'))(hr:Row s.nx N l){v:AV}{u:Value}(hv:jj (s.nx+1) v)(hg:∀ I':Ip,(I'.sv m).blk=w.heap.size→u=ic I'.sv v) :
  Left I env w0 s s' v u (w.alloc (.cells (l.map I.g).toArray T (0,0))):=by
 have hst:=Step.fresh hf
 obtain⟨e1,e2⟩:=gU hf
 refine⟨I.with s.nx ⟨some ⟨w.heap.size,0,none⟩,0,0⟩ #[],?_⟩
 have hb:((I.with s.nx ⟨some ⟨w.heap.size,0,none⟩,0,0⟩ #[]).sv m).blk=w.heap.size:=by rw[e1,mE];rfl
 refine⟨Agree.with _ _ _ _,?_,hg _ hb,by rw[e2];exact hv,hst,by rw[e2]⟩
 refine h.add hf _ ⟨hr.n,hr.one,fun v hv=>jH (abL _) v (hr.ok v hv)⟩ ?_
 have:=iz.alloc w (.cells (l.map I.g).toArray T (0,0))
 simp only[res]
 rw[(Agree.with I s.nx _ _).map hr.ok,mE]
 exact this
theorem Dj{k:Nat}{v:AV}(h:jj k v)(hc:og v=true):Row k (lenOf v) (cellsOf v):=by
 obtain⟨h1,h2⟩:=GV h hc
 exact⟨KU h,h1,h2⟩
theorem Yd.Ab{P:Program}{o:Oper}{ρ:Operand→Value}{w w':World}{v:Value}{J:Value→World→Prop}(hr:(execOp ρ o).run P w = .ok (.value v) w')(h:J v w'):Yd P o ρ w J:=by
 unfold Yd;rw[hr];exact h
theorem Yd.skip'{P:Program}{o:Oper}{ρ:Operand→Value}{w w':World}{J:Value→World→Prop}(hr:(execOp ρ o).run P w = .ok .skip w')(h:J undef w'):Yd P o ρ w J:=by
 unfold Yd;rw[hr];exact h
theorem VR(h:SR I env w0 s w)(hF:FR I s.nx n F a dd){call:jw}{o:Oper}{e:Nat}{v:AV}(ho:o.op = .alloc e)(hh:lz (fe P) call s F o.op=some (v,s')):Yd P o a.eval w (Left I env w0 s s' v):=by
 rw[ho]at hh
 simp only[lz,acH,acx]at hh
 obtain⟨z,hz,⟨m,s1⟩,hf,hh⟩:=hh
 simp only[ac9,Prod.mk.injEq]at hh
 obtain⟨rfl,rfl⟩:=hh
 obtain⟨h1,h2,h3⟩:=lF (P:=P) hz I s.nx w
 have hm:=(gU hf).1
 refine Yd.Ab (v:=.pointer (some ⟨w.heap.size,0,none⟩)) (w':=w.alloc (.cells ((cellsOf z).map I.g).toArray e (0,0))) ?_ (h.newPt hf (Dj h2 h3) (by simp only[jj];omega) (fun I' hb=>by simp only[ic,hb]))
 simp only[execOp,ho,Instr.alloc,newVar,newRow,Sem.run_bind,h1,Result.andThen_ok,run_newObj,Sem.run_pure]
 rw[show(I.g z).cells=_ from jD I.sv z];rfl
theorem XJ(h:SR I env w0 s w)(hF:FR I s.nx n F a dd){call:jw}{o:Oper}{e:Nat}{x:Operand}{v:AV}(ho:o.op = .box e x)(hh:lz (fe P) call s F o.op=some (v,s')):Yd P o a.eval w (Left I env w0 s s' v):=by
 rw[ho]at hh
 simp only[lz,acH,acx]at hh
 obtain⟨z,hz,hh⟩:=hh
 split at hh
 ·cases hh
 ·rename_i hc
  rw[acx]at hh
  obtain⟨⟨m,s1⟩,hf,hh⟩:=hh
  simp only[ac9,Prod.mk.injEq]at hh
  obtain⟨rfl,rfl⟩:=hh
  obtain⟨h1,h2⟩:=hF.eval hz
  have h3:og z=true:=by simpa using hc
  have hm:=(gU hf).1
  refine Yd.Ab (v:=.pointer (some ⟨w.heap.size,0,none⟩)) (w':=w.alloc (.cells ((cellsOf z).map I.g).toArray e (0,0))) ?_ (h.newPt hf (Dj h2 h3) (by simp only[jj];omega) (fun I' hb=>by simp only[ic,hb]))
  simp only[execOp,ho,h1,Instr.box,newVar,newRow,Sem.run_bind,Result.andThen_ok,run_newObj,Sem.run_pure]
  rw[show(I.g z).cells=_ from jD I.sv z];rfl
theorem SR.left(h:SR I env w0 s w){w':World}{o o':kC}{m:Nat}(hf:find s.h m=some o)(ho:okO s.nx o')(hU:oa (res I env w0.heap.size m o) (res I env w0.heap.size m o') w w'){v:AV}(hv:jj s.nx v):Left I env w0 s (wrote s m o') v (I.g v) w' :=
 ⟨I,Agree.refl _ _,h.chg hf ho hU,rfl,hv,Step.wrote _ _ _,rfl⟩
theorem VT(h:SR I env w0 s w)(hF:FR I s.nx n F a dd){call:jw}{o:Oper}{t:Nat}{x y:Operand}{v:AV}(ho:o.op = .store t x y)(hh:lz (fe P) call s F o.op=some (v,s')):Yd P o a.eval w (Left I env w0 s s' v):=by
 rw[ho]at hh
 simp only[lz,acH,acx]at hh
 obtain⟨u,hu,p,hp,hh⟩:=hh
 obtain⟨h1,h2⟩:=hF.eval hu
 obtain⟨h3,h4⟩:=hF.eval hp
 cases p<;>simp only at hh<;>try (cases hh;done)
 rename_i m off
 rw[acx]at hh
 obtain⟨z,hz,hh⟩:=hh
 split at hh
 ·cases hh
 ·rename_i hc
  simp only[not_or,ne_eq,Decidable.not_not,acO]at hc
  obtain⟨hc1,qg⟩:=hc
  rw[acx]at hh
  obtain⟨s1,hs1,hh⟩:=hh
  simp only[ac9,Prod.mk.injEq]at hh
  obtain⟨rfl,rfl⟩:=hh
  have hsz:=fN (P:=P) hz w
  cases ru:find s.h m with
  | none=>simp[yW,ru]at hs1
  | some ob =>
   cases ob<;>simp only[yW,ru]at hs1<;>try (cases hs1;done)
   rename_i N l T
   rw[acH,acx]at hs1
   obtain⟨r,hr,hs1⟩:=hs1
   simp only[ac9]at hs1
   subst hs1
   obtain⟨hk,hok⟩:=h.ok m _ ru
   have hrow:Row s.nx N l:=⟨hok.1,hok.2.1,hok.2.2⟩
   have hv:=Dj h2 qg
   obtain⟨e1,h5,hle⟩:=PW hr hrow hv.n hv.one hv.ok
   have hb:=h.holds m _ ru
   have hU:=oa.setRow (cs':=(r.map I.g)) hb
   have hlen:((cellsOf u).map I.g).length=z:=by rw[abl,hv.n,hc1]
   have hst:=run_storeCells_at P (I.sv m).blk off T ((cellsOf u).map I.g) 0 (l.map I.g).toArray w hb (by have:=hrow.n;rw[abY,abl,abl,hv.n];omega) (fun q hq=>by
    obtain⟨q',w_,rfl⟩:=aaK.1 hq
    exact PH (hv.one q' w_))
   refine Yd.skip' (w':=w.setRow (I.sv m).blk (r.map I.g).toArray) ?_ (h.left (v:=.nh) (o':=.pt N r T) ru ⟨h5.n,h5.one,h5.ok⟩ hU trivial)
   rw[e1,PU]
   simp only[abX]at hst
   simp only[execOp,ho,h1,h3,Instr.storeAt,Instr.sureAddr,storeVar,Sem.run_bind,Sem.run_pure,Result.andThen_ok,hsz,show(I.g u).cells=_ from jD I.sv u,abY,hlen,ne_eq,not_true_eq_false,if_false,ic,hst]
   have hz2:(cellsOf u).length=z:=by rw[hv.n,hc1]
   simp[put,hz2]
theorem T9(h:SR I env w0 s w){call:jw}{o:Oper}{t:Nat}{v:AV}(ho:o.op = .makeMap t none)(hh:lz (fe P) call s F o.op=some (v,s')):Yd P o a.eval w (Left I env w0 s s' v):=by
 rw[ho]at hh
 simp only[lz,acH,acx]at hh
 obtain⟨⟨m,s1⟩,hf,hh⟩:=hh
 simp only[ac9,Prod.mk.injEq]at hh
 obtain⟨rfl,rfl⟩:=hh
 have hst:=Step.fresh hf
 obtain⟨e1,e2⟩:=gU hf
 refine Yd.Ab (v:=.map (some w.heap.size)) (w':=w.alloc (.map #[] 0)) ?_ ⟨I.with s.nx ⟨some ⟨w.heap.size,0,none⟩,0,0⟩ #[],Agree.with _ _ _ _,h.add hf _ (by simp[okO]) ?_,?_,by rw[e2,e1];exact acz _,hst,by rw[e2]⟩
 ·simp only[execOp,ho,acu,Sem.run_bind,show(Instr.makeMap t none).run P w = .ok (.map (some w.heap.size)) (w.alloc (.map #[] 0))from rfl,Result.andThen_ok,Sem.run_pure]
 ·simp only[res,mE];exact iz.alloc w _
 ·simp only[Ip.g,ic,e1,mE];rfl
theorem Vw{zs:List Value}{sz:Nat}(hz:zs.length=sz):∀ len:Nat,(List.range (len*sz)).map (fun i=>zs.toArray[i%sz]!)=(List.range len).flatMap fun _=>zs:=by
 intro len
 induction len with
 | zero=>simp
 | succ len ih =>
  rw[ab4,acr,List.range_add,aa3,ih,aa2,acS,acN]
  congr 1
  simp only[List.flatMap_cons,List.flatMap_nil,acT]
  apply abk (by simp[hz])
  intro i h1 h2
  simp at h1
  have e:(len*sz+i)%sz=i:=by rw[Nat.mul_comm,Nat.mul_add_mod,acU h1]
  simp[e,h2,getElem!_pos]
theorem fF{α:Type}(zs:List α)(len:Nat):((List.range len).flatMap fun _=>zs).length=len*zs.length:=by
 induction len with
 | zero=>simp
 | succ n ih=>rw[aa2,acS,abT,ih];simp[ab4]
theorem FO(h:SR I env w0 s w)(hF:FR I s.nx n F a dd){call:jw}{o:Oper}{t len:Nat}{ps:Array (Nat×Operand)}{v:AV}(ho:o.op = .buildSlice t len ps)(hh:lz (fe P) call s F o.op=some (v,s')):Yd P o a.eval w (Left I env w0 s s' v):=by
 rw[ho]at hh
 simp only[lz,acH,acx]at hh
 obtain⟨d,(hd:P.underlying t=some d),hh⟩:=hh
 cases d<;>simp only at hh<;>try (cases hh;done)
 rename_i e
 rw[acx]at hh
 obtain⟨sz,hsz,hh⟩:=hh
 rw[acx]at hh
 obtain⟨z,hz,hh⟩:=hh
 obtain⟨z1,z2,z3⟩:=lF (P:=P) hz I s.nx w
 obtain⟨ie,hie,EW⟩:=aax.1 (show(P.info? e).map (·.size)=some sz from hsz)
 split at hh
 ·split at hh
  ·rename_i hc
   obtain⟨rfl,hps⟩:=hc
   rw[acx]at hh
   obtain⟨⟨m,s1⟩,hf,hh⟩:=hh
   simp only[ac9,Prod.mk.injEq]at hh
   obtain⟨rfl,rfl⟩:=hh
   have hm:=(gU hf).1
   have Nb:ps = #[]:=by
    have:ps.toList = []:=List.isEmpty_iff.1 hps
    exact Array.toList_eq_nil_iff.1 this
   subst Nb
   refine Yd.Ab (v:=.slice (some ⟨w.heap.size,0,none⟩) 0 0) (w':=w.alloc (.cells ((([]:List AV)).map I.g).toArray e (0,0))) ?_ (h.newPt hf ⟨rfl,by simp,by simp⟩ (by simp only[jj];omega) (fun I' hb=>by simp only[ic,hb]))
   have hr:(Instr.buildSlice t 0 #[]).run P w = .ok (SV.v ⟨some ⟨w.heap.size,0,none⟩,0,0⟩) (w.alloc (.cells #[] e (0,0))):=by
    have e1:∀ w,(sizeOf e).run P w = .ok ie.size w:=fun w=>by simp[sizeOf,typeInfo,hie]
    simp only[Instr.buildSlice,Sem.run_bind,run_underlying hd,Result.andThen_ok,e1,ab5]
    have e0:Array.range 0 = #[]:=by simp
    simp[Instr.fill,newRow]
    rw[e0,acv]
   simp only[execOp,ho,Sem.run_bind,ab0,aa5,acv,hr,Result.andThen_ok,Sem.run_pure]
  ·cases hh
 ·rename_i hc
  simp only[not_or,ne_eq,Decidable.not_not]at hc
  obtain⟨hc1,qg,hc3⟩:=hc
  rw[acx]at hh
  obtain⟨vs,hvs,hh⟩:=hh
  rw[acx]at hh
  obtain⟨cs,hcs,hh⟩:=hh
  rw[acx]at hh
  obtain⟨⟨m,s1⟩,hf,hh⟩:=hh
  simp only[ac9,Prod.mk.injEq]at hh
  obtain⟨rfl,rfl⟩:=hh
  have hm:=(gU hf).1
  obtain⟨p1,p2⟩:=hF.parts hvs
  have NF:=Dj z2 z3
  have Gp:(cellsOf z).length=sz:=by rw[NF.n,hc3]
  have hrow:Row s.nx (len*sz) ((List.range len).flatMap fun _=>cellsOf z):=by
   refine⟨by rw[fF,Gp],fun u hu=>?_,fun u hu=>?_⟩
   ·obtain⟨_,_,hu⟩:=aaT.1 hu;exact NF.one u hu
   ·obtain⟨_,_,hu⟩:=aaT.1 hu;exact NF.ok u hu
  obtain⟨h5,h6⟩:=KY (I:=I) vs hcs hrow p2
  obtain⟨zv,B0,Ze⟩:=acx.1 (show((P.info? e).bind (·.zero)).bind Gv=some z from hz)
  rw[hie,aaG]at B0
  have Zd:I.g z=zv:=(K9 Ze I.sv s.nx).1
  have IU:zv.cells=((cellsOf z).map I.g).toArray:=by rw[←Zd];exact jD I.sv z
  have po:Instr.fill (fun i=>some (i*ie.size,ie.size)) ((Array.range (len*ie.size)).map (zv.cells[· % zv.cells.size]!)) (ps.map fun(i,x)=>(i,a.eval x)).toList=some (cs.map I.g).toArray:=by
   rw[EW,IU]
   have e2:(Array.range (len*sz)).map (fun i=>((cellsOf z).map I.g).toArray[i%((cellsOf z).map I.g).toArray.size]!)=(((List.range len).flatMap fun _=>cellsOf z).map I.g).toArray:=by
    have e3:((cellsOf z).map I.g).toArray.size=sz:=by simp[Gp]
    rw[e3,←acV]
    simp only[acB,acC]
    rw[Vw (by simp[Gp]) len,List.map_flatMap]
   rw[e2]
   rw[acB]
   rw[show(ps.toList.map fun(x:Nat×Operand)=>(x.1,a.eval x.2))=_ from p1]
   exact h6
  have hr:=run_buildSlice (P:=P) w t e len (ps.map fun(i,x)=>(i,a.eval x)) (cs.map I.g).toArray ie zv hd hie B0 (by rw[EW];omega) (by rw[EW];exact hc1) po
  refine Yd.Ab (v:=.slice (some ⟨w.heap.size,0,none⟩) len len) (w':=w.alloc (.cells (cs.map I.g).toArray e (0,0))) ?_ (h.newPt hf h5 (by simp only[jj];omega) (fun I' hb=>by simp only[ic,hb]))
  simp only[execOp,ho,Sem.run_bind,hr,Result.andThen_ok,Sem.run_pure]
end
end Go.Ev
end
