/- Ground for the claim TraceSends. -/
import Derived.WalkKit
import Derived.RangeFuncLeaves
import Derived.TacticsIn
import Derived.OrdersIn
set_option linter.unusedVariables false
set_option linter.unusedSimpArgs false
section
namespace Go
abbrev dc:=@Bool.and_eq_true
abbrev aac:=@List.all_eq_true
abbrev aad:=@decide_eq_true_eq
abbrev aae:=@Nat.le_of_ble_eq_true
abbrev aaf:=@Nat.eq_of_beq_eq_true
abbrev aag:=@List.cons_append
abbrev aah:=@Array.getD_eq_getD_getElem?
abbrev aai:=@Nat.lt_or_ge
abbrev aaj:=@List.getElem?_eq_none
abbrev aak:=@Array.getElem?_append
abbrev aal:=@Nat.le_refl
abbrev aam:=@Nat.le_trans
abbrev aan:=@Nat.lt_of_lt_of_le
abbrev aao:=@Array.getElem?_eq_some_iff
abbrev aap:=@List.getElem?_eq_some_iff
abbrev aaq:=@List.getElem?_set_ne
abbrev aar:=@Bool.not_eq_true'
abbrev aas:=@List.contains_eq_mem
abbrev aat:=@decide_eq_false_iff_not
abbrev aau:=@Nat.zero_le
abbrev aav:=@List.getElem?_take
abbrev aaw:=@List.getElem?_drop
abbrev aax:=@Option.map_eq_some_iff
abbrev aay:=@if_pos
abbrev aaz:=@if_neg
abbrev aaA:=@Bool.false_ne_true
abbrev aaB:=@List.mapM_cons
abbrev aaC:=@List.mem_range
abbrev aaD:=@Bool.or_eq_true
abbrev aaE:=@Nat.beq_eq
abbrev aaF:=@List.mem_append
abbrev aaG:=@Option.bind_some
abbrev aaH:=@List.mem_filter
abbrev aaI:=@Option.map_some
abbrev aaJ:=@Option.getD_some
abbrev aaK:=@List.mem_map
abbrev aaL:=@Array.getElem?_setIfInBounds
abbrev aaM:=@List.mem_cons
abbrev aaN:=@List.mem_cons_of_mem
abbrev aaO:=@List.pairwise_iff_getElem
abbrev aaP:=@List.getElem_of_mem
abbrev aaQ:=@Array.getElem?_eq_none
abbrev aaR:=@List.mem_cons_self
abbrev aaS:=@List.pairwise_cons
abbrev aaT:=@List.mem_flatMap
abbrev aaU:=@Array.getElem?_modify
abbrev aaV:=@decide_eq_true
abbrev aaW:=@decide_eq_false
abbrev aaX:=@of_decide_eq_true
abbrev aaY:=@Nat.add_assoc
abbrev aaZ:=@List.getElem?_append_left
abbrev aa0:=@List.getElem?_append_right
abbrev aa1:=@List.getElem?_eq_getElem
abbrev aa2:=@List.range_succ
abbrev aa3:=@List.map_append
abbrev aa4:=@List.map_cons
abbrev aa5:=@List.map_nil
abbrev aa6:=@List.ext_getElem?
abbrev aa7:=@List.mem_append_left
abbrev aa8:=@List.mem_append_right
abbrev aa9:=@List.take_add_one
abbrev aa_:=@List.pairwise_append
abbrev abb:=@List.pairwise_singleton
abbrev abd:=@List.getElem_mem
abbrev abe:=@Int.toNat_natCast
abbrev abf:=@List.length_singleton
abbrev abg:=@Nat.sub_self
abbrev abh:=@List.length_drop
abbrev abj:=@List.mem_of_getElem?
abbrev abk:=@List.ext_getElem
abbrev abl:=@List.length_map
abbrev abm:=@List.length_cons
abbrev abn:=@List.length_take
abbrev abo:=@List.take_append_drop
abbrev abp:=@Nat.mul_le_mul_left
abbrev abq:=@Bool.false_eq_true
abbrev abr:=@Option.isSome_iff_exists
abbrev abt:=@cond_false
abbrev abu:=@List.length_replicate
abbrev abv:=@List.length_set
abbrev abw:=@cond_true
abbrev abx:=@Bool.not_eq_false'
abbrev aby:=@List.take_length
abbrev abz:=@List.mem_or_eq_of_mem_set
abbrev abA:=@List.nil_append
abbrev abB:=@Int.tdiv_eq_ediv_of_nonneg
abbrev abC:=@Int.tmod_eq_emod_of_nonneg
abbrev abD:=@Int.mul_le_mul_of_nonneg_right
abbrev abE:=@List.getElem?_map
abbrev abG:=@List.getElem?_set
abbrev abH:=@List.mem_iff_getElem
abbrev abI:=@List.eq_of_mem_replicate
abbrev abJ:=@Nat.lt_irrefl
abbrev abK:=@Bool.not_true
abbrev abL:=@Nat.le_succ
abbrev abM:=@Nat.not_lt_zero
abbrev abN:=@List.not_mem_nil
abbrev abO:=@Int.le_refl
abbrev abP:=@Option.map_map
abbrev abQ:=@List.take_take
abbrev abR:=@Nat.min_eq_left
abbrev abS:=@List.drop_length
abbrev abT:=@List.length_append
abbrev abU:=@List.length_pos_iff
abbrev abV:=@List.length_nil
abbrev abW:=@List.take_of_length_le
abbrev abX:=@Nat.add_zero
abbrev abY:=@List.size_toArray
abbrev abZ:=@List.set_eq_take_append_cons_drop
abbrev ab0:=@List.map_toArray
abbrev ab1:=@Array.empty_append
abbrev ab2:=@Array.append_empty
abbrev ab3:=@List.append_toArray
abbrev ab4:=@Nat.add_mul
abbrev ab5:=@Nat.zero_mul
abbrev ab6:=@List.drop_zero
abbrev ab7:=@List.take_append_of_le_length
abbrev ab8:=@List.drop_length_add_append
abbrev ab9:=@List.eq_nil_of_length_eq_zero
abbrev ab_:=@Nat.zero_add
abbrev aca:=@Nat.mul_le_mul_right
abbrev acb:=@List.drop_append_of_le_length
abbrev acd:=@Nat.add_right_comm
abbrev ace:=@List.set_cons_succ
abbrev acf:=@List.forall_mem_cons
abbrev acg:=@List.forall_mem_append
abbrev ach:=@List.range_eq_range'
abbrev aci:=@List.drop_eq_nil_of_le
abbrev acj:=@List.drop_eq_getElem_cons
abbrev ack:=@List.foldl_cons
abbrev acm:=@List.take_succ_cons
abbrev acn:=@Bool.false_or
abbrev aco:=@Array.foldl_toList
abbrev acp:=@Array.toList_zipIdx
abbrev acr:=@Nat.one_mul
abbrev acs:=@Array.toArray_toList
abbrev acu:=@Option.map_none
abbrev acv:=@Array.map_empty
abbrev acw:=@List.take_left'
abbrev acx:=@Option.bind_eq_some_iff
abbrev acy:=@List.getElem?_append
abbrev acz:=@Nat.lt_succ_self
abbrev acA:=@List.replicate_succ
abbrev acB:=@Array.toList_map
abbrev acC:=@Array.toList_range
abbrev acD:=@List.getElem?_range'
abbrev acE:=@List.getElem?_replicate
abbrev acF:=@Nat.mul_one
abbrev acG:=@Nat.le_of_eq
abbrev acH:=@Option.bind_eq_bind
abbrev acI:=@List.mem_singleton
abbrev acJ:=@List.mem_of_mem_drop
abbrev acK:=@List.mem_of_mem_take
abbrev acL:=@List.map_take
abbrev acM:=@List.map_drop
abbrev acN:=@List.map_map
abbrev acO:=@Bool.not_eq_false
abbrev acP:=@List.getElem?_cons_zero
abbrev acQ:=@List.map_congr_left
abbrev acR:=@Nat.ne_of_lt
abbrev acS:=@List.flatMap_append
abbrev acT:=@List.append_nil
abbrev acU:=@Nat.mod_eq_of_lt
abbrev acV:=@Array.toList_inj
abbrev acW:=@List.append_assoc
abbrev acX:=@List.modify_toArray
abbrev acY:=@Option.getD_none
abbrev acZ:=@List.mem_iff_getElem?
abbrev ac0:=@List.getElem?_zipWith
abbrev ac1:=@List.foldl_nil
abbrev ac2:=@List.getElem?_range
abbrev ac3:=@Nat.blt_eq
abbrev ac4:=@List.foldl_append
abbrev ac5:=@List.getD_eq_getElem?_getD
abbrev ac6:=@Nat.pow_le_pow_right
abbrev ac7:=@Bool.not_false
abbrev ac8:=@Option.some.inj
abbrev ac9:=@Option.some.injEq
theorem ac_{A:Prop}(h:A:=by omega):A:=h
theorem ada{A:Prop}(h:A:=by kernel_rfl):A:=h
end Go
end
section
namespace Go.Fw
def look:List (Nat×Value)→Nat→Option Value
 | [],_=>none
 | (j,v)::r,i=>bif Nat.beq j i then some v else look r i
structure Fr(n:Nat)(F:List (Nat×Value))(a:Act)(dd:List Deferred:=[]):Prop where
 defers:a.defers=dd
 size:a.tmps.size=n
 get:∀ i v,look F i=some v→a.tmps[i]? = some v
theorem Fr.put{dd:List Deferred}{n F a d v}(h:Fr n F a dd)(hd:Nat.blt d n=true):Fr n ((d,v)::F) (a.put (some d) v) dd:=by
 have hd':d<n:=aae hd
 refine⟨h.defers,by simp[Act.put,h.size],?_⟩
 intro i u hu
 simp only[look]at hu
 cases hb:Nat.beq d i with
 | true =>
  have:d=i:=aaf hb
  subst this
  simp at hu
  subst hu
  simp[Act.put,h.size,hd']
 | false =>
  have hne:d≠i:=fun e=>by subst e;simp at hb
  simp[hb]at hu
  have:=h.get i u hu
  simp[Act.put,hne,this]
theorem Fr.weaken{dd:List Deferred}{n F G a}(h:Fr n F a dd)(hg:∀ i v,look G i=some v→look F i=some v):Fr n G a dd :=
 ⟨h.defers,h.size,fun i v e=>h.get i v (hg i v e)⟩
def qd(F:List (Nat×Value)):List Nat→List (Nat×Value)
 | []=>[]
 | k::ks=>match look F k with
  | some v=>(k,v)::qd F ks
  | none=>qd F ks
theorem SB(F:List (Nat×Value))(ks:List Nat)(i:Nat)(v:Value)(h:look (qd F ks) i=some v):look F i=some v:=by
 induction ks with
 | nil=>simp[qd,look]at h
 | cons k ks ih =>
  simp only[qd]at h
  split at h
  ·rename_i u hu
   simp only[look]at h
   cases hb:Nat.beq k i with
   | true =>
    have:k=i:=aaf hb
    subst this
    simp at h
    subst h
    exact hu
   | false=>simp[hb]at h;exact ih h
  ·exact ih h
theorem zA(F G:List (Nat×Value))(i:Nat)(v:Value)(h:look (F++G) i=some v) :
  look F i=some v∨(look F i=none∧look G i=some v):=by
 induction F with
 | nil=>exact .inr ⟨rfl,h⟩
 | cons p F ih =>
  obtain⟨j,u⟩:=p
  simp only[aag,look]at h ⊢
  cases hb:Nat.beq j i with
  | true=>simp[hb]at h ⊢; exact h
  | false=>simp[hb]at h ⊢; exact ih h
theorem Fr.head{dd:List Deferred}{n F a}(h:Fr n F a dd)(G:List (Nat×Value))(ks:List Nat)
  (hG:∀ i v,look G i=some v→look F i=some v):Fr n (G++qd F ks) a dd:=by
 refine h.weaken fun i v e=>?_
 rcases zA _ _ _ _ e with e|⟨_,e⟩
 ·exact hG i v e
 ·exact SB _ _ _ _ e
def allIn(F:List (Nat×Value)):List (Nat×Value)→Prop
 | []=>True
 | (i,v)::r=>look F i=some v∧allIn F r
theorem qE{F G:List (Nat×Value)}(h:allIn F G)(i:Nat)(v:Value)(e:look G i=some v):look F i=some v:=by
 induction G with
 | nil=>simp[look]at e
 | cons p G ih =>
  obtain⟨j,u⟩:=p
  simp only[look]at e
  cases hb:Nat.beq j i with
  | true =>
   have:j=i:=aaf hb
   subst this
   simp at e
   subst e
   exact h.1
  | false=>simp[hb]at e;exact ih h.2 e
theorem Fr.to{dd:List Deferred}{n F a}(h:Fr n F a dd){G:List (Nat×Value)}(hG:allIn F G):Fr n G a dd:=h.weaken (qE hG)
theorem Fr.again{dd:List Deferred}{n F F' a}(h:Fr n F' a dd){G:List (Nat×Value)}{ks:List Nat}(hG:allIn F' G)(hk:allIn F' (qd F ks)):Fr n (G++qd F ks) a dd:=by
 refine h.weaken fun i v e=>?_
 rcases zA _ _ _ _ e with e|⟨_,e⟩
 ·exact qE hG i v e
 ·exact qE hk i v e
def ev(F:List (Nat×Value)):Operand→Option Value
 | .tmp t=>look F t
 | .const v=>some v
 | .global g=>some (.pointer (some ⟨g,0,none⟩))
 | .func f=>some (.func (.func f) #[] #[])
theorem Fr.eval{dd:List Deferred}{n F a x v}(h:Fr n F a dd)(he:ev F x=some v):a.eval x=v:=by
 cases x with
 | tmp t =>
  have:=h.get t v he
  simp[Act.eval,aah,this]
 | const u=>simpa[ev,Act.eval]using he
 | global g=>simpa[ev,Act.eval]using he
 | func f=>simpa[ev,Act.eval]using he
def evs(F:List (Nat×Value)):List Operand→Option (List Value)
 | []=>some []
 | x::xs=>match ev F x with
  | some v=>match evs F xs with
   | some vs=>some (v::vs)
   | none=>none
  | none=>none
theorem Fr.evals{dd:List Deferred}{n F a}(h:Fr n F a dd){xs:List Operand}{vs:List Value}(he:evs F xs=some vs):xs.map a.eval=vs:=by
 induction xs generalizing vs with
 | nil=>simp[evs]at he;simp[he]
 | cons x xs ih =>
  simp only[evs]at he
  cases hx:ev F x with
  | none=>simp[hx]at he
  | some v =>
   cases hxs:evs F xs with
   | none=>simp[hx,hxs]at he
   | some us =>
    simp[hx,hxs]at he
    subst he
    simp[h.eval hx,ih hxs]
def wu(F:List (Nat×Value)):List (Nat×Operand)→Option (List (Nat×Value))
 | []=>some []
 | (i,x)::xs=>match ev F x with
  | some v=>match wu F xs with
   | some vs=>some ((i,v)::vs)
   | none=>none
  | none=>none
theorem Fr.evalps{dd:List Deferred}{n F a}(h:Fr n F a dd){xs:List (Nat×Operand)}{vs:List (Nat×Value)}(he:wu F xs=some vs) :
  xs.map (fun p=>(p.1,a.eval p.2))=vs:=by
 induction xs generalizing vs with
 | nil=>simp[wu]at he;simp[he]
 | cons p xs ih =>
  obtain⟨i,x⟩:=p
  simp only[wu]at he
  cases hx:ev F x with
  | none=>simp[hx]at he
  | some v =>
   cases hxs:wu F xs with
   | none=>simp[hx,hxs]at he
   | some us =>
    simp[hx,hxs]at he
    subst he
    simp[h.eval hx,ih hxs]
theorem Fr.yield{dd:List Deferred}{n F a}(h:Fr n F a dd){ops:Array Oper}{j t:Nat}{b:Bool}(hj:(ops[j]?).bind (·.dst)=some t)(hb:look F t=some (.bool b)) :
  yielded ops a.tmps j=some b:=by
 have:=h.get t _ hb
 simp[yielded,hj,this]
def idx:Nat→List Value→List (Nat×Value)
 | _,[]=>[]
 | i,v::vs=>(i,v)::idx (i+1) vs
theorem UT(vs:List Value):∀ (s i:Nat) (v:Value),look (idx s vs) i=some v→s≤i∧vs[i-s]? = some v:=by
 induction vs with
 | nil=>intro s i v h;simp[idx,look]at h
 | cons u vs ih =>
  intro s i v h
  simp only[idx,look]at h
  cases hb:Nat.beq s i with
  | true =>
   have:s=i:=aaf hb
   subst this
   simp at h
   simp[h]
  | false =>
   simp[hb]at h
   obtain⟨h1,h2⟩:=ih _ _ _ h
   refine⟨ac_,?_⟩
   rw[show i-s=(i-(s+1))+1 by omega]
   simpa using h2
theorem Fr.enter(vs:List Value)(n:Nat)(hn:Nat.ble vs.length n=true) :
  Fr n (idx 0 vs) { tmps:=vs.toArray++Array.replicate (n-vs.toArray.size) undef,defers:=[] }:=by
 have hn':vs.length≤n:=aae hn
 refine⟨rfl,by simp;omega,?_⟩
 intro i v h
 obtain⟨_,h2⟩:=UT vs 0 i v h
 have hi:i<vs.length:=by
  rcases aai i vs.length with h' | h'
  ·exact h'
  ·simp[aaj h']at h2
 simp only[Nat.sub_zero]at h2
 simpa[aak,hi]using h2
structure Same(lo:Nat)(S:List Nat)(w1 w:World):Prop where
 size:w1.heap.size≤w.heap.size
 block:∀ k,lo≤k→k<w1.heap.size→k∉S→w.heap[k]? = w1.heap[k]?
structure Io(w1 w:World):Prop where
 os:w.os=w1.os
 tape:w.tape=w1.tape
 output:w.output=w1.output
theorem Io.refl(w:World):Io w w:=⟨rfl,rfl,rfl⟩
theorem Io.trans{a b c:World}(h:Io a b)(k:Io b c):Io a c:=⟨k.os.trans h.os,k.tape.trans h.tape,k.output.trans h.output⟩
structure gw(S:List Nat)(w w':World):Prop where
 io:Io w w'
 size:w.heap.size≤w'.heap.size
 block:∀ k,k<w.heap.size→k∉S→w'.heap[k]? = w.heap[k]?
theorem gw.refl(w:World):gw [] w w:=⟨Io.refl w,aal _,fun _ _ _=>rfl⟩
theorem gw.trans{S}{a b c:World}(h:gw S a b)(k:gw S b c):gw S a c :=
 ⟨h.io.trans k.io,aam h.size k.size,fun i hi hs=>(k.block i (aan hi h.size) hs).trans (h.block i hi hs)⟩
inductive di where
 | obj (b:Nat) (o:Obj)
 | same (w1:World) (lo:Nat) (S:List Nat)
 | io (w1:World)
 | row (lo:Nat) (v:Value) (e sz n:Nat) (xs:List Value)
 | gen (f:Nat→Prop) (Q:World→Prop)
abbrev pt(b:Nat)(cs:List Value)(T:TypeId):di:=.obj b (.cells cs.toArray T (0,0))
def di.fp:di→Nat→Prop
 | .obj b _,k=>k=b
 | .same w1 lo S,k=>lo≤k∧k<w1.heap.size∧k∉S
 | .io _,_=>False
 | .row _ v _ _ _ _,k=>v.ownBlock=some k
 | .gen f _,k=>f k
def di.holds(w:World):di→Prop
 | .obj b o=>w.heap[b]? = some o
 | .same w1 lo S=>Same lo S w1 w
 | .io w1=>Io w1 w
 | .row lo v e sz n xs=>w.ownsRow lo e sz v n xs
 | .gen f Q=>(∀ k,f k→k<w.heap.size) ∧ ∀ w',Io w w' → w.heap.size≤w'.heap.size→(∀ k,f k→w'.heap[k]? = w.heap[k]?)→Q w'
abbrev di.holds'(r:di)(w:World):Prop:=r.holds w
structure au(w:World)(L:List di):Prop where
 hold:∀ (i:Nat) (r:di),L[i]? = some r→r.holds w
 apart:∀ (i j:Nat) (r s:di),L[i]? = some r→L[j]? = some s→i≠j → ∀ k,r.fp k → ¬ s.fp k
theorem di.fp_lt{w:World}{r:di}(h:r.holds w){k:Nat}(hk:r.fp k):k<w.heap.size:=by
 cases r with
 | obj b o =>
  simp only[di.fp]at hk;subst hk
  exact(aao.1 h).1
 | same w1 lo S=>exact aan hk.2.1 h.size
 | io w1=>exact hk.elim
 | row lo v e sz n xs=>exact(World.ownsRow.lt h k hk).2
 | gen f Q=>exact h.1 k hk
theorem di.keep{w w':World}{r:di}(h:r.holds w)(BZ:Io w w')(hs:w.heap.size≤w'.heap.size)
  (hk:∀ k,r.fp k→w'.heap[k]? = w.heap[k]?):r.holds w':=by
 cases r with
 | obj b o=>exact(hk b rfl).trans h
 | same w1 lo S=>exact⟨aam h.size hs,fun k h1 h2 h3=>(hk k ⟨h1,h2,h3⟩).trans (h.block k h1 h2 h3)⟩
 | io w1=>exact Io.trans h BZ
 | row lo v e sz n xs =>
  obtain⟨h1,h2⟩:=h
  refine⟨h1,?_⟩
  rcases h2 with h2|⟨g,cap,cur,hv,hg,hh,r⟩
  ·exact .inl h2
  ·refine .inr ⟨g,cap,cur,hv,hg,?_,r⟩
   rw[hk g (by simp[di.fp,hv,Value.ownBlock]),hh]
 | gen f Q=>exact⟨fun k h1=>aan (h.1 k h1) hs,fun w2 i2 s2 k2=>h.2 w2 (BZ.trans i2) (aam hs s2) fun k h1=>(k2 k h1).trans (hk k h1)⟩
section
variable {w w':World}{L:List di}
theorem au.keep(h:au w L)(k:gw [] w w'):au w' L :=
 ⟨fun i r hi=>di.keep (h.hold i r hi) k.io k.size fun j hj=>k.block j (di.fp_lt (h.hold i r hi) hj) (by simp),h.apart⟩
theorem au.add(h:au w L)(k:gw [] w w'){r:di}(hr:r.holds w')(hf:∀ j,r.fp j→w.heap.size≤j):au w' (r::L):=by
 have hk:=h.keep k
 constructor
 ·intro i s hi
  cases i with
  | zero=>simp at hi;subst hi;exact hr
  | succ i=>simp at hi;exact hk.hold i s hi
 ·intro i j s t hi hj hij k' hs ht
  cases i with
  | zero =>
   cases j with
   | zero=>exact hij rfl
   | succ j =>
    simp at hi hj;subst hi
    have h1:=hf k' hs
    have h2:=di.fp_lt (h.hold j t hj) ht
    omega
  | succ i =>
   cases j with
   | zero =>
    simp at hi hj;subst hj
    have h1:=hf k' ht
    have h2:=di.fp_lt (h.hold i s hi) hs
    omega
   | succ j =>
    simp at hi hj
    exact h.apart i j s t hi hj ac_ k' hs ht
theorem au.upd(h:au w L)(i:Nat){r r':di}(hi:L[i]? = some r)(BZ:Io w w')(hs:w.heap.size≤w'.heap.size)
  (hk:∀ k,k<w.heap.size → ¬ r.fp k→w'.heap[k]? = w.heap[k]?) (hr:r'.holds w') (hf:∀ k,r'.fp k→r.fp k∨w.heap.size≤k):au w' (L.set i r'):=by
 have hlt:i<L.length:=(aap.1 hi).1
 constructor
 ·intro j s hj
  by_cases hij:i=j
  ·subst hij
   simp[hlt]at hj
   subst hj
   exact hr
  ·rw[aaq hij]at hj
   exact di.keep (h.hold j s hj) BZ hs fun k Dx=>hk k (di.fp_lt (h.hold j s hj) Dx) fun YY=>h.apart i j r s hi hj hij k YY Dx
 ·intro a b s t ha hb hab k hs' ht'
  by_cases hia:i=a
  ·subst hia
   simp[hlt]at ha
   subst ha
   rw[aaq hab]at hb
   rcases hf k hs' with h1|h1
   ·exact h.apart i b r t hi hb hab k h1 ht'
   ·have:=di.fp_lt (h.hold b t hb) ht'; omega
  ·rw[aaq hia]at ha
   by_cases hib:i=b
   ·subst hib
    simp[hlt]at hb
    subst hb
    rcases hf k ht' with h1|h1
    ·exact h.apart a i s r ha hi hab k hs' h1
    ·have:=di.fp_lt (h.hold a s ha) hs'; omega
   ·rw[aaq hib]at hb
    exact h.apart a b s t ha hb hab k hs' ht'
def yn(L:List di):List Nat→List di
 | []=>[]
 | i::is=>match L[i]? with
  | some r=>r::yn L is
  | none=>yn L is
def ni:List Nat→Bool
 | []=>true
 | i::is=>!is.contains i&&ni is
theorem wW(L:List di):∀ (is:List Nat) (j:Nat) (r:di),(yn L is)[j]? = some r → ∃ i∈is,L[i]? = some r:=by
 intro is
 induction is with
 | nil=>intro j r h;simp[yn]at h
 | cons i is ih =>
  intro j r h
  simp only[yn]at h
  split at h
  ·rename_i s hs
   cases j with
   | zero=>simp at h;subst h;exact⟨i,by simp,hs⟩
   | succ j=>simp at h;obtain⟨k,hk,e⟩:=ih j r h;exact⟨k,by simp[hk],e⟩
  ·obtain⟨k,hk,e⟩:=ih j r h;exact⟨k,by simp[hk],e⟩
theorem au.yn(h:au w L)(is:List Nat)(hn:ni is=true):au w (yn L is):=by
 constructor
 ·intro j r hj
  obtain⟨i,_,e⟩:=wW L is j r hj
  exact h.hold i r e
 ·induction is with
  | nil=>intro i j r s hi;simp[Fw.yn]at hi
  | cons i is ih =>
   simp only[ni,dc,aar,aas,aat]at hn
   intro a b r s ha hb hab k hr hs
   simp only[Fw.yn]at ha hb
   split at ha
   ·rename_i t ht
    rw[ht]at hb
    cases a with
    | zero =>
     cases b with
     | zero=>exact hab rfl
     | succ b =>
      simp at ha hb;subst ha
      obtain⟨m,hm,e⟩:=wW L is b s hb
      exact h.apart i m t s ht e (fun x=>hn.1 (x ▸ hm)) k hr hs
    | succ a =>
     cases b with
     | zero =>
      simp at ha hb;subst hb
      obtain⟨m,hm,e⟩:=wW L is a r ha
      exact h.apart m i r t e ht (fun x=>hn.1 (x ▸ hm)) k hr hs
     | succ b=>simp at ha hb;exact ih hn.2 a b r s ha hb ac_ k hr hs
   ·rename_i hnone
    rw[hnone]at hb
    exact ih hn.2 a b r s ha hb hab k hr hs
theorem au.obj(h:au w L){i b:Nat}{o:Obj}(hi:L[i]? = some (.obj b o)):w.heap[b]? = some o:=h.hold i _ hi
theorem au.same(h:au w L){i:Nat}{w1:World}{lo:Nat}{S:List Nat}(hi:L[i]? = some (.same w1 lo S)):Same lo S w1 w:=h.hold i _ hi
theorem au.io(h:au w L){i:Nat}{w1:World}(hi:L[i]? = some (.io w1)):Io w1 w:=h.hold i _ hi
theorem au.row(h:au w L){i lo e sz n:Nat}{v:Value}{xs:List Value}(hi:L[i]? = some (.row lo v e sz n xs)):w.ownsRow lo e sz v n xs:=h.hold i _ hi
theorem au.gen(h:au w L){i:Nat}{f:Nat→Prop}{Q:World→Prop}(hi:L[i]? = some (.gen f Q)):Q w :=
 (h.hold i _ hi).2 w (Io.refl w) (aal _) fun _ _=>rfl
theorem au.freeze{r:di}(h:au w (r::L)):au w (.gen r.fp r.holds' :: L):=by
 have h0:=h.hold 0 r rfl
 constructor
 ·intro i s hi
  cases i with
  | zero =>
   simp at hi;subst hi
   exact⟨fun k hk=>di.fp_lt h0 hk,fun w' i' s' k'=>di.keep h0 i' s' k'⟩
  | succ i=>exact h.hold (i+1) s (by simpa using hi)
 ·intro i j s t hi hj hij k hs ht
  cases i with
  | zero =>
   cases j with
   | zero=>exact hij rfl
   | succ j=>simp at hi;subst hi;exact h.apart 0 (j+1) r t rfl (by simpa using hj) hij k hs ht
  | succ i =>
   cases j with
   | zero=>simp at hj;subst hj;exact h.apart (i+1) 0 s r (by simpa using hi) rfl hij k hs ht
   | succ j=>exact h.apart (i+1) (j+1) s t (by simpa using hi) (by simpa using hj) hij k hs ht
theorem au.both{r s:di}(h:au w (r::s::L)):au w (.gen (fun k=>r.fp k∨s.fp k) (fun w=>r.holds' w∧s.holds' w)::L):=by
 have h0:=h.hold 0 r rfl
 have h1:=h.hold 1 s rfl
 constructor
 ·intro i t hi
  cases i with
  | zero =>
   simp at hi;subst hi
   exact⟨fun k hk=>hk.elim (di.fp_lt h0) (di.fp_lt h1),fun w' i' s' k'=>⟨di.keep h0 i' s' fun k hk=>k' k (.inl hk),di.keep h1 i' s' fun k hk=>k' k (.inr hk)⟩⟩
  | succ i=>exact h.hold (i+2) t (by simpa using hi)
 ·have key:∀ (i:Nat) (t:di),L[i]? = some t → ∀ k,(r.fp k∨s.fp k) → ¬ t.fp k:=fun i t hi k hk ht=>hk.elim (fun hk=>h.apart 0 (i+2) r t rfl (by simpa using hi) ac_ k hk ht) fun hk=>h.apart 1 (i+2) s t rfl (by simpa using hi) ac_ k hk ht
  intro i j a b hi hj hij k ha hb
  cases i with
  | zero =>
   cases j with
   | zero=>exact hij rfl
   | succ j=>simp at hi;subst hi;exact key j b (by simpa using hj) k ha hb
  | succ i =>
   cases j with
   | zero=>simp at hj;subst hj;exact key i a (by simpa using hi) k hb ha
   | succ j=>exact h.apart (i+2) (j+2) a b (by simpa using hi) (by simpa using hj) ac_ k ha hb
theorem au.void(h:au w L){Q:World→Prop}(hq:∀ w,Q w):au w (.gen (fun _=>False) Q::L) :=
 h.add (gw.refl w) ⟨fun _ hk=>hk.elim,fun w' _ _ _=>hq w'⟩ fun _ hk=>hk.elim
theorem au.start(w:World):au w [.same w 0 [],.io w]:=by
 constructor
 ·intro i r hi
  match i,hi with
  | 0,hi=>simp at hi;subst hi;exact⟨aal _,fun _ _ _ _=>rfl⟩
  | 1,hi=>simp at hi;subst hi;exact Io.refl w
 ·intro i j r s hi hj hij k hr hs
  match i,j,hi,hj with
  | 0,0,_,_=>exact hij rfl
  | 0,1,hi,hj=>simp at hj;subst hj;exact hs
  | 1,0,hi,hj=>simp at hi;subst hi;exact hr
  | 1,1,_,_=>exact hij rfl
theorem au.keeps{w0:World}{S:List Nat}(h:au w L){i j:Nat}(hi:L[i]? = some (.same w0 0 S))(hj:L[j]? = some (.io w0)):gw S w0 w :=
 ⟨h.io hj,(h.same hi).size,fun k hk hs=>(h.same hi).block k (aau _) hk hs⟩
end
end Go.Fw
end
section
namespace Go.Fw
open Go.RowKit
structure SV where
 a:Option Addr
 len:Nat
 cap:Nat
deriving DecidableEq
abbrev SV.v(s:SV):Value:=.slice s.a s.len s.cap
abbrev SV.nil:SV:=⟨none,0,0⟩
def i_(w:World)(b off:Nat)(vs:List Value):Prop:=∀ j v,vs[j]? = some v→w.cell? ⟨b,off+j,none⟩=some v
def cut{α:Type}(l:List α)(off n:Nat):List α:=(l.drop off).take n
theorem oC{α:Type}(l:List α)(off n j:Nat)(v:α)(h:(cut l off n)[j]? = some v):j<n∧l[off+j]? = some v:=by
 unfold cut at h
 rw[aav]at h
 split at h
 ·exact⟨by assumption,by rw[aaw]at h;exact h⟩
 ·cases h
theorem FD{w:World}{b off:Nat}{cs:List Value}{T:TypeId}{fz:Nat×Nat}{v:Value}(hb:w.heap[b]? = some (.cells cs.toArray T fz))(h:cs[off]? = some v) :
  w.cell? ⟨b,off,none⟩=some v:=by
 simp[World.cell?,hb,h]
theorem oV{w:World}{b off n:Nat}{cs vs:List Value}{T:TypeId}{fz:Nat×Nat}(hb:w.heap[b]? = some (.cells cs.toArray T fz))(h:cut cs off n=vs):i_ w b off vs:=by
 intro j v hv
 subst h
 exact FD hb (oC _ _ _ _ _ hv).2
section
variable {L:List di}{w:World}
theorem au.cell(h:au w L){i b off:Nat}{cs:List Value}{T:TypeId}{v:Value}(hi:L[i]? = some (pt b cs T))(hv:cs[off]? = some v) :
  w.cell? ⟨b,off,none⟩=some v:=FD (h.obj hi) hv
theorem au.cells(h:au w L){i b off n:Nat}{cs vs:List Value}{T:TypeId}(hi:L[i]? = some (pt b cs T))(hv:cut cs off n=vs):i_ w b off vs:=oV (h.obj hi) hv
theorem Same.cell{lo:Nat}{S:List Nat}{w1:World}(h:Same lo S w1 w){a:Addr}{v:Value}(hc:w1.cell? a=some v)(hlo:lo≤a.block)(hS:a.block∉S):w.cell? a=some v:=by
 have hlt:a.block<w1.heap.size:=World.block_lt_of_cell? w1 a hc
 rw[World.cell?_of_block (h.block a.block hlo hlt hS)]
 exact hc
theorem Same.cells{lo:Nat}{S:List Nat}{w1:World}(h:Same lo S w1 w){b off:Nat}{vs:List Value}(hc:i_ w1 b off vs)(hlo:lo≤b)(hS:b∉S):i_ w b off vs :=
 fun j v hv=>h.cell (hc j v hv) hlo hS
end
section
variable {P:Program}{n:Nat}{F:List (Nat×Value)}{a:Act}{dd:List Deferred}{w:World}{o:Oper}
theorem aE{x:Operand}{v:Value}(hF:Fr n F a dd)(ho:o.op = .move x)(hx:ev F x=some v):(execOp a.eval o).run P w = .ok (.value v) w:=by
 simp[execOp,ho,hF.eval hx]
theorem aI{x:Operand}{v:Value}(hF:Fr n F a dd)(ho:o.op = .assign x)(hx:ev F x=some v):(execOp a.eval o).run P w = .ok (.value v) w:=by
 simp[execOp,ho,hF.eval hx]
theorem bR{c x y:Operand}{b:Bool}{v:Value}(hF:Fr n F a dd)(ho:o.op = .pick c x y)(hc:ev F c=some (.bool b))(hb:b=true)(hx:ev F x=some v):(execOp a.eval o).run P w = .ok (.value v) w:=by
 simp[execOp,ho,hF.eval hc,hF.eval hx,hb,asBool]
theorem bU{c x y:Operand}{b:Bool}{v:Value}(hF:Fr n F a dd)(ho:o.op = .pick c x y)(hc:ev F c=some (.bool b))(hb:b=false)(hx:ev F y=some v):(execOp a.eval o).run P w = .ok (.value v) w:=by
 simp[execOp,ho,hF.eval hc,hF.eval hx,hb,asBool]
theorem nM{x:Int}(h : -9223372036854775808≤x∧x≤9223372036854775807):IntKind.i64.wrap x=x:=IntWalk.i64_in x h
theorem dF{t yt:TypeId}{x y:Operand}{k:IntKind}{i j:Int}(hF:Fr n F a dd)(ho:o.op = .binOp .add t x y yt)(hx:ev F x=some (.int k i))(hy:ev F y=some (.int k j)) :
  (execOp a.eval o).run P w = .ok (.value (.int k (k.wrap (i+j)))) w:=by
 simp[execOp,ho,hF.eval hx,hF.eval hy,eqGuard,binOp,Op.intArith]
theorem iX{t yt:TypeId}{x y:Operand}{k:IntKind}{i j:Int}(hF:Fr n F a dd)(ho:o.op = .binOp .sub t x y yt)(hx:ev F x=some (.int k i))(hy:ev F y=some (.int k j)) :
  (execOp a.eval o).run P w = .ok (.value (.int k (k.wrap (i-j)))) w:=by
 simp[execOp,ho,hF.eval hx,hF.eval hy,eqGuard,binOp,Op.intArith]
theorem Ek{t yt:TypeId}{x y:Operand}{k:IntKind}{i j:Int}(hF:Fr n F a dd)(ho:o.op = .binOp .mul t x y yt)(hx:ev F x=some (.int k i))(hy:ev F y=some (.int k j)) :
  (execOp a.eval o).run P w = .ok (.value (.int k (k.wrap (i*j)))) w:=by
 simp[execOp,ho,hF.eval hx,hF.eval hy,eqGuard,binOp,Op.intArith]
theorem eD{t yt:TypeId}{x y:Operand}{k:IntKind}{i j:Int}(hF:Fr n F a dd)(ho:o.op = .binOp .lss t x y yt)(hx:ev F x=some (.int k i))(hy:ev F y=some (.int k j)) :
  (execOp a.eval o).run P w = .ok (.value (.bool (decide (i<j)))) w:=by
 simp[execOp,ho,hF.eval hx,hF.eval hy,eqGuard,binOp,Op.intCmp]
theorem G3{t yt:TypeId}{x y:Operand}{k:IntKind}{i j:Int}(hF:Fr n F a dd)(ho:o.op = .binOp .leq t x y yt)(hx:ev F x=some (.int k i))(hy:ev F y=some (.int k j)) :
  (execOp a.eval o).run P w = .ok (.value (.bool (decide (i≤j)))) w:=by
 simp[execOp,ho,hF.eval hx,hF.eval hy,eqGuard,binOp,Op.intCmp]
theorem iV{t yt:TypeId}{x y:Operand}{k:IntKind}{i j:Int}(hF:Fr n F a dd)(ho:o.op = .binOp .gtr t x y yt)(hx:ev F x=some (.int k i))(hy:ev F y=some (.int k j)) :
  (execOp a.eval o).run P w = .ok (.value (.bool (decide (j<i)))) w:=by
 simp[execOp,ho,hF.eval hx,hF.eval hy,eqGuard,binOp,Op.intCmp]
theorem Ha{t yt:TypeId}{x y:Operand}{k:IntKind}{i j:Int}(hF:Fr n F a dd)(ho:o.op = .binOp .geq t x y yt)(hx:ev F x=some (.int k i))(hy:ev F y=some (.int k j)) :
  (execOp a.eval o).run P w = .ok (.value (.bool (decide (j≤i)))) w:=by
 simp[execOp,ho,hF.eval hx,hF.eval hy,eqGuard,binOp,Op.intCmp]
theorem dR{t yt:TypeId}{x y:Operand}{k:IntKind}{i j:Int}(hF:Fr n F a dd)(ho:o.op = .binOp .eql t x y yt)(hx:ev F x=some (.int k i))(hy:ev F y=some (.int k j)) :
  (execOp a.eval o).run P w = .ok (.value (.bool (decide (i=j)))) w:=by
 simp[execOp,ho,hF.eval hx,hF.eval hy,eqGuard,binOp,Op.intCmp]
 rfl
theorem fW{t yt:TypeId}{x y:Operand}{k:IntKind}{i j:Int}(hF:Fr n F a dd)(ho:o.op = .binOp .neq t x y yt)(hx:ev F x=some (.int k i))(hy:ev F y=some (.int k j)) :
  (execOp a.eval o).run P w = .ok (.value (.bool (!decide (i=j)))) w:=by
 simp[execOp,ho,hF.eval hx,hF.eval hy,eqGuard,binOp,Op.intCmp]
 rfl
theorem run_equalIn_bool(d:Nat){t:TypeId}{i j:Bool}(hu:P.underlying t=some .bool):(Op.equalIn (d+1) t (.bool i) (.bool j)).run P w = .ok (decide (i=j)) w:=by
 simp[Op.equalIn,run_underlying hu]
 cases i<;>cases j<;>rfl
theorem run_equal_bool{t:TypeId}{i j:Bool}(hu:P.underlying t=some .bool):(Op.equal t (.bool i) (.bool j)).run P w = .ok (decide (i=j)) w :=
 run_equalIn_bool 9999 hu
theorem Pm{t yt:TypeId}{x y:Operand}{i j:Bool}(hu:P.underlying t=some .bool)(hF:Fr n F a dd)(ho:o.op = .binOp .eql t x y yt)(hx:ev F x=some (.bool i))(hy:ev F y=some (.bool j)) :
  (execOp a.eval o).run P w = .ok (.value (.bool (decide (i=j)))) w:=by
 simp only[execOp,ho,hF.eval hx,hF.eval hy,eqGuard,binOp]
 simp[run_equal_bool hu]
theorem sF{t yt:TypeId}{x y:Operand}{k:IntKind}{i j:Int}(hF:Fr n F a dd)(ho:o.op = .binOp .quo t x y yt)(hx:ev F x=some (.int k i))(hy:ev F y=some (.int k j))(hj:j≠0) :
  (execOp a.eval o).run P w = .ok (.value (.int k (k.wrap (i.tdiv j)))) w:=by
 simp[execOp,ho,hF.eval hx,hF.eval hy,eqGuard,binOp,Op.intDiv,hj]
theorem nU{t yt:TypeId}{x y:Operand}{k:IntKind}{i j:Int}(hF:Fr n F a dd)(ho:o.op = .binOp .rem t x y yt)(hx:ev F x=some (.int k i))(hy:ev F y=some (.int k j))(hj:j≠0) :
  (execOp a.eval o).run P w = .ok (.value (.int k (i.tmod j))) w:=by
 simp[execOp,ho,hF.eval hx,hF.eval hy,eqGuard,binOp,Op.intDiv,hj]
def iP(k:IntKind)(x y:Int):Int:=k.wrap ((BitVec.ofInt k.bits x &&& BitVec.ofInt k.bits y).toNat:Int)
def uu(k:IntKind)(x y:Int):Int:=k.wrap ((BitVec.ofInt k.bits x ||| BitVec.ofInt k.bits y).toNat:Int)
def rm(k:IntKind)(x y:Int):Int:=k.wrap ((BitVec.ofInt k.bits x ^^^ BitVec.ofInt k.bits y).toNat:Int)
def rV(k:IntKind)(x y:Int):Int:=k.wrap ((BitVec.ofInt k.bits x &&& ~~~ BitVec.ofInt k.bits y).toNat:Int)
def shl(k:IntKind)(x:Int)(y:Nat):Int:=k.wrap (x*2^min y k.bits)
def shr(k:IntKind)(x:Int)(y:Nat):Int:=x.fdiv (2^min y k.bits)
theorem J4{t yt:TypeId}{x y:Operand}{k:IntKind}{i j:Int}(hF:Fr n F a dd)(ho:o.op = .binOp .and t x y yt)(hx:ev F x=some (.int k i))(hy:ev F y=some (.int k j)) :
  (execOp a.eval o).run P w = .ok (.value (.int k (iP k i j))) w:=by
 simp[execOp,ho,hF.eval hx,hF.eval hy,eqGuard,binOp,Op.intBits,iP]
theorem zS{t yt:TypeId}{x y:Operand}{k:IntKind}{i j:Int}(hF:Fr n F a dd)(ho:o.op = .binOp .or t x y yt)(hx:ev F x=some (.int k i))(hy:ev F y=some (.int k j)) :
  (execOp a.eval o).run P w = .ok (.value (.int k (uu k i j))) w:=by
 simp[execOp,ho,hF.eval hx,hF.eval hy,eqGuard,binOp,Op.intBits,uu]
theorem Cd{t yt:TypeId}{x y:Operand}{k:IntKind}{i j:Int}(hF:Fr n F a dd)(ho:o.op = .binOp .xor t x y yt)(hx:ev F x=some (.int k i))(hy:ev F y=some (.int k j)) :
  (execOp a.eval o).run P w = .ok (.value (.int k (rm k i j))) w:=by
 simp[execOp,ho,hF.eval hx,hF.eval hy,eqGuard,binOp,Op.intBits,rm]
theorem Vq{t yt:TypeId}{x y:Operand}{k:IntKind}{i j:Int}(hF:Fr n F a dd)(ho:o.op = .binOp .andNot t x y yt)(hx:ev F x=some (.int k i))(hy:ev F y=some (.int k j)) :
  (execOp a.eval o).run P w = .ok (.value (.int k (rV k i j))) w:=by
 simp[execOp,ho,hF.eval hx,hF.eval hy,eqGuard,binOp,Op.intBits,rV]
theorem nV{t yt:TypeId}{x y:Operand}{k k':IntKind}{i j:Int}(hF:Fr n F a dd)(ho:o.op = .binOp .shl t x y yt)(hx:ev F x=some (.int k i))(hy:ev F y=some (.int k' j))(hj:0≤j) :
  (execOp a.eval o).run P w = .ok (.value (.int k (shl k i j.toNat))) w:=by
 have hj':¬ j<0:=ac_
 simp[execOp,ho,hF.eval hx,hF.eval hy,eqGuard,binOp,Op.shift,shl,hj']
theorem iW{t yt:TypeId}{x y:Operand}{k k':IntKind}{i j:Int}(hF:Fr n F a dd)(ho:o.op = .binOp .shr t x y yt)(hx:ev F x=some (.int k i))(hy:ev F y=some (.int k' j))(hj:0≤j) :
  (execOp a.eval o).run P w = .ok (.value (.int k (shr k i j.toNat))) w:=by
 have hj':¬ j<0:=ac_
 simp[execOp,ho,hF.eval hx,hF.eval hy,eqGuard,binOp,Op.shift,shr,hj']
theorem hZ{t:TypeId}{x:Operand}{b:Bool}(hF:Fr n F a dd)(ho:o.op = .unOp .not t x)(hx:ev F x=some (.bool b)):(execOp a.eval o).run P w = .ok (.value (.bool (!b))) w:=by
 simp[execOp,ho,hF.eval hx,Op.unary]
theorem Qi{t:TypeId}{x:Operand}{k:IntKind}{i:Int}(hF:Fr n F a dd)(ho:o.op = .unOp .neg t x)(hx:ev F x=some (.int k i)):(execOp a.eval o).run P w = .ok (.value (.int k (k.wrap (0-i)))) w:=by
 simp[execOp,ho,hF.eval hx,Op.unary,Op.intArith]
theorem D9{s d:TypeId}{x:Operand}{ds:TypeDesc}{k k':IntKind}{i:Int}(hs:P.underlying s=some ds)(hd:P.underlying d=some (.int k'))(hF:Fr n F a dd)(ho:o.op = .convert s d x)(hx:ev F x=some (.int k i)) :
  (execOp a.eval o).run P w = .ok (.value (.int k' (k'.wrap i))) w:=by
 simp[execOp,ho,hF.eval hx,convert,run_underlying hs,run_underlying hd,Conv.intToInt]
theorem XP{t e:TypeId}{x:Operand}{s:SV}(ht:P.underlying t=some (.slice e))(hF:Fr n F a dd)(ho:o.op = .call { callee:=.builtin .len,args:=#[x],argTypes:=#[t] })(hx:ev F x=some s.v) :
  (execOp a.eval o).run P w = .ok (.value (.int .i64 s.len)) w:=by
 simp[execOp,ho,resolve,invoke,builtin,Builtin.len_,hF.eval hx,run_underlying ht,goInt]
theorem iO{x:Operand}{i:Nat}{vs:List Value}{v:Value}(hF:Fr n F a dd)(ho:o.op = .extract x i)(hx:ev F x=some (.tuple vs.toArray))(hv:vs[i]? = some v) :
  (execOp a.eval o).run P w = .ok (.value v) w:=by
 simp[execOp,ho,hF.eval hx,Instr.extract,hv]
theorem jJ{fn:Fn}{fs cs:List Operand}{us vs:List Value}(hF:Fr n F a dd)(ho:o.op = .makeFunc fn fs.toArray cs.toArray)(hf:evs F fs=some us)(hc:evs F cs=some vs) :
  (execOp a.eval o).run P w = .ok (.value (.func fn us.toArray vs.toArray)) w:=by
 simp[execOp,ho,Instr.makeFunc,hF.evals hf,hF.evals hc]
theorem bB{x:Operand}{ad:Addr}(hF:Fr n F a dd)(ho:o.op = .nilCheck x)(hx:ev F x=some (.pointer (some ad))) :
  (execOp a.eval o).run P w = .ok (.value (.pointer (some ad))) w:=by
 simp[execOp,ho,hF.eval hx]
theorem eC(b off m:Nat):(⟨b,off,none⟩ : Addr).add m=⟨b,off+m,none⟩:=by unfold Addr.add;split<;>simp_all
theorem aC{t ft:TypeId}{x:Operand}{i b off off' fo:Nat}{fs:Array Field}{ti:TypeInfo}(ht:P.underlying t=some (.struct fs))(hf:(fs[i]?).map (fun f=>(f.offset,f.type))=some (fo,ft))(hi:P.info? ft=some ti)(hz:Nat.beq ti.size 0=false)
  (hF:Fr n F a dd) (ho:o.op = .fieldAddr t x i) (hx:ev F x=some (.pointer (some ⟨b,off,none⟩))) (hoff:off+fo=off') :
  (execOp a.eval o).run P w = .ok (.value (.pointer (some ⟨b,off',none⟩))) w:=by
 have xd:ti.size≠0:=fun e=>by rw[e]at hz;cases hz
 subst hoff
 obtain⟨f,YJ,hft⟩:=aax.1 hf
 simp only[Prod.mk.injEq]at hft
 obtain⟨rfl,rfl⟩:=hft
 simp[execOp,ho,hF.eval hx,Instr.fieldAt,run_underlying ht,YJ,Instr.sureAddr,fieldPlace,sizeOf,typeInfo,hi,xd,eC]
theorem zC{t e:TypeId}{x y:Operand}{b off len cap sz:Nat}{k:IntKind}{i:Int}{ti:TypeInfo}(ht:P.underlying t=some (.slice e))(hi:P.info? e=some ti)(hs:ti.size=sz)
  (hF:Fr n F a dd) (ho:o.op = .indexAddr t x y) (hx:ev F x=some (.slice (some ⟨b,off,none⟩) len cap)) (hy:ev F y=some (.int k i)) (h:0≤i∧i<(len:Int)) :
  (execOp a.eval o).run P w = .ok (.value (.pointer (some ⟨b,off+i.toNat*sz,none⟩))) w:=by
 simp[execOp,ho,hF.eval hx,hF.eval hy,Instr.indexAt,asIntOf,run_underlying ht,h,sizeOf,typeInfo,hi,hs,eC]
theorem eX{t e:TypeId}{x y:Operand}{b off len sz:Nat}{k:IntKind}{i:Int}{ti:TypeInfo}(ht:P.underlying t=some (.array len e))(hi:P.info? e=some ti)(hs:ti.size=sz)
  (hF:Fr n F a dd) (ho:o.op = .indexAddr t x y) (hx:ev F x=some (.pointer (some ⟨b,off,none⟩))) (hy:ev F y=some (.int k i)) (h:0≤i∧i<(len:Int)) :
  (execOp a.eval o).run P w = .ok (.value (.pointer (some ⟨b,off+i.toNat*sz,none⟩))) w:=by
 simp[execOp,ho,hF.eval hx,hF.eval hy,Instr.indexAt,asIntOf,run_underlying ht,Instr.sureAddr,h,sizeOf,typeInfo,hi,hs,eC]
theorem aG{t:TypeId}{x:Operand}{b off:Nat}{v:Value}(ht:∀ w,(isAgg t).run P w = .ok false w)(hF:Fr n F a dd)(ho:o.op = .load t x)(hx:ev F x=some (.pointer (some ⟨b,off,none⟩)))
  (hc:w.cell? ⟨b,off,none⟩=some v):(execOp a.eval o).run P w = .ok (.value v) w:=by
 simp[execOp,ho,hF.eval hx,Instr.loadAt,Instr.sureAddr,loadVar,ht,hc]
theorem run_loadCells(w:World)(b off:Nat)(vs:List Value)(h:i_ w b off vs):(loadCells ⟨b,off,none⟩ vs.length).run P w = .ok vs.toArray w :=
 run_loadCells_list (P:=P) w ⟨b,off,none⟩ vs fun j v hv=>by rw[eC];exact h j v hv
theorem cD{t:TypeId}{x:Operand}{b off sz:Nat}{vs:List Value}(ht:∀ w,(isAgg t).run P w = .ok true w)(hs:∀ w,(sizeOf t).run P w = .ok sz w)(hF:Fr n F a dd)(ho:o.op = .load t x)(hx:ev F x=some (.pointer (some ⟨b,off,none⟩)))
  (hl:vs.length=sz) (hc:i_ w b off vs):(execOp a.eval o).run P w = .ok (.value (.agg vs.toArray)) w:=by
 subst hl
 simp[execOp,ho,hF.eval hx,Instr.loadAt,Instr.sureAddr,loadVar,ht,hs,run_loadCells w b off vs hc]
end
end Go.Fw
end
section
namespace Go.Fw
def fZ(R:Value→World→Prop):Ending→World→Prop
 | .returned v,w=>R v w
 | _,_=>False
abbrev Wd(r:Option Nat):Fence:={ Fence.wide with round:=r }
theorem uW{r:Option Nat}{n:Nat}{P:Program}{f:FuncId}{args:Array Value}{w:World}{R:Ending→World→Prop}:CallsIn (Wd r) n P f args w R↔Calls P f args w R:=callsIn_wide
theorem Tt{r r':Option Nat}{n n':Nat}{P:Program}{l:Nat}{f:FuncId}{tmps:Array Value}{assign body:Code}{w:World}{R:Ending→World→Prop}(h:RoundIn (Wd r) n P l f tmps assign body w R):RoundIn (Wd r') n' P l f tmps assign body w R :=
 ⟨trivial,fun c cs _=>h.2 c cs (room_wide _)⟩
theorem wI{r:Option Nat}{X:Prop}(h:(Wd r).depth.isSome=true):X:=by simp[Fence.wide]at h
def Yd(P:Program)(o:Oper)(ρ:Operand→Value)(w:World)(J:Value→World→Prop):Prop :=
 match(execOp ρ o).run P w with
 | .ok (.value v) w'=>J v w'
 | .ok .skip w'=>J undef w'
 | .ok (.enter f args) w'=>Calls P f args w' (fZ J)
 | .ok (.round l f tmps assign body) w'=>RoundIn (Wd none) 0 P l f tmps assign body w' (fZ J)
 | _=>False
theorem Yd.mono{P:Program}{o:Oper}{ρ:Operand→Value}{w:World}{J J':Value→World→Prop}(h:Yd P o ρ w J)(hj:∀ v w',J v w' → J' v w'):Yd P o ρ w J':=by
 unfold Yd at *
 generalize (execOp ρ o).run P w=r at *
 cases r with
 | ok n w' =>
  cases n<;>simp only at h ⊢ <;> first
   | exact hj _ _ h
   | exact Calls.mono h (fun e JK he=>by cases e<;>first|exact hj _ _ he|exact he)
   | exact RoundIn.mono h (fun e JK he=>by cases e<;>first|exact hj _ _ he|exact he)
   | exact h
 | halt h' w'=>exact h
theorem Yd.noDefer{P:Program}{o:Oper}{ρ:Operand→Value}{w:World}{J:Value→World→Prop}(h:Yd P o ρ w J):∀ c,o.op ≠ .defer c:=by
 intro c hc
 unfold Yd at h
 simp only[execOp,hc,Sem.run_bind]at h
 generalize (resolve ρ c o.type).run P w=r at h
 cases r<;>simp[Result.andThen]at h
theorem Yd.wp{r:Option Nat}{P:Program}{o:Oper}{a:Act}{w:World}{K:Act→World→Prop}{Q:Exit→Act→World→Prop}(h:Yd P o a.eval w (fun v w'=>K (a.put o.dst v) w')):o.wpIn (Wd r) 0 P a w K Q:=by
 refine⟨fun _ _=>trivial,?_⟩
 rw[Oper.semAt_eq _ _ _ h.noDefer]
 unfold Yd at h
 generalize (execOp a.eval o).run P w=x at *
 cases x with
 | ok n w' =>
  cases n<;>simp only[Oper.uponIn]at h ⊢ <;> first
   | exact h
   | exact⟨wI,uW.2 (Calls.mono h (fun e JK he=>by cases e<;>first|exact he|exact he.elim))⟩
   | exact⟨wI,(Tt h).mono (fun e JK he=>by cases e<;>first|exact he|exact he.elim)⟩
   | exact h.elim
 | halt h' w'=>exact h.elim
theorem Yd.val{P:Program}{o:Oper}{ρ:Operand→Value}{w:World}{v:Value}{J:Value→World→Prop}(hr:(execOp ρ o).run P w = .ok (.value v) w)(h:J v w):Yd P o ρ w J:=by
 unfold Yd;rw[hr];exact h
abbrev Wp(r:Option Nat)(P:Program)(c:Code)(Q:Exit→Act→World→Prop)(a:Act)(w:World):Prop:=c.wpIn (Wd r) 0 P Q a w
abbrev vi(r:Option Nat)(P:Program)(ops:Array Oper)(Q:Exit→Act→World→Prop)(l:List Oper)(a:Act)(w:World):Prop:=wpListIn (Wd r) 0 P ops Q l a w
abbrev bP(P:Program)(fn:Func)(R:Ending→World→Prop):Exit→Act→World→Prop:=bodyPostM (Wd none) 0 P fn R
section inorder
variable {r:Option Nat}{P:Program}{ops:Array Oper}{Q:Exit→Act→World→Prop}{o:Oper}{rest:List Oper}{n d:Nat}{F:List (Nat×Value)}{a:Act}{dd:List Deferred}{w:World}{v:Value}
theorem aA(hF:Fr n F a dd)(hr:(execOp a.eval o).run P w = .ok (.value v) w)(hg:o.guard=none)(hd:o.dst=some d)(hn:Nat.blt d n=true)
  (next:∀ a',Fr n ((d,v)::F) a' dd→vi r P ops Q rest a' w):vi r P ops Q (o::rest) a w :=
 wpListIn_plain hg fun _ hK=>Yd.wp (Yd.val hr (hK _ _ (by rw[hd];exact next _ (hF.put hn))))
theorem aN(hF:Fr n F a dd)(hg:o.guard=none)(hd:o.dst=some d)(hn:Nat.blt d n=true)
  (h:Yd P o a.eval w (fun v w'=>∀ a',Fr n ((d,v)::F) a' dd→vi r P ops Q rest a' w')):vi r P ops Q (o::rest) a w :=
 wpListIn_plain hg fun _ hK=>Yd.wp (h.mono fun _ _ hj=>hK _ _ (by rw[hd];exact hj _ (hF.put hn)))
theorem bE(hg:o.guard=none)(hd:o.dst=none)
  (h:Yd P o a.eval w (fun _ w'=>vi r P ops Q rest a w')):vi r P ops Q (o::rest) a w :=
 wpListIn_plain hg fun _ hK=>Yd.wp (h.mono fun _ _ hj=>hK _ _ (by rw[hd];exact hj))
theorem qY{g t:Nat}{want c:Bool}(hF:Fr n F a dd)(hg:o.guard=some (g,want))(ht:(ops[g]?).bind (·.dst)=some t)(hc:look F t=some (.bool c))(hw:c=want) :
  Region.wanted o (yielded ops a.tmps)=true:=by
 simp[Region.wanted,hg,hF.yield ht hc,hw]
theorem Ed{g t:Nat}{want c:Bool}(hF:Fr n F a dd)(hg:o.guard=some (g,want))(ht:(ops[g]?).bind (·.dst)=some t)(hc:look F t=some (.bool c))(hw:c = !want) :
  Region.wanted o (yielded ops a.tmps)=false:=by
 simp[Region.wanted,hg,hF.yield ht hc,hw]
theorem aO{g t:Nat}{want c:Bool}(hF:Fr n F a dd)(hg:o.guard=some (g,want))(ht:(ops[g]?).bind (·.dst)=some t)(hc:look F t=some (.bool c))(hw:c=want)
  (hr:(execOp a.eval o).run P w = .ok (.value v) w) (hd:o.dst=some d) (hn:Nat.blt d n=true)
  (next:∀ a',Fr n ((d,v)::F) a' dd→vi r P ops Q rest a' w):vi r P ops Q (o::rest) a w :=
 wpListIn_step fun _ hK=>by
  rw[aay (qY hF hg ht hc hw)]
  exact Yd.wp (Yd.val hr (hK _ _ (by rw[hd];exact next _ (hF.put hn))))
theorem dD{g t:Nat}{want c:Bool}(hF:Fr n F a dd)(hg:o.guard=some (g,want))(ht:(ops[g]?).bind (·.dst)=some t)(hc:look F t=some (.bool c))(hw:c=want)
  (hd:o.dst=some d) (hn:Nat.blt d n=true)
  (h:Yd P o a.eval w (fun v w'=>∀ a',Fr n ((d,v)::F) a' dd→vi r P ops Q rest a' w')):vi r P ops Q (o::rest) a w :=
 wpListIn_step fun _ hK=>by
  rw[aay (qY hF hg ht hc hw)]
  exact Yd.wp (h.mono fun _ _ hj=>hK _ _ (by rw[hd];exact hj _ (hF.put hn)))
theorem aF{g t:Nat}{want c:Bool}(hF:Fr n F a dd)(hg:o.guard=some (g,want))(ht:(ops[g]?).bind (·.dst)=some t)(hc:look F t=some (.bool c))(hw:c = !want)
  (hd:o.dst=some d) (hn:Nat.blt d n=true)
  (next:∀ a',Fr n ((d,undef)::F) a' dd→vi r P ops Q rest a' w):vi r P ops Q (o::rest) a w :=
 wpListIn_step fun _ hK=>by
  rw[aaz (by rw[Ed hF hg ht hc hw];exact aaA)]
  exact⟨fun _ _=>trivial,hK _ _ (by rw[hd];exact next _ (hF.put hn))⟩
end inorder
section code
variable {r:Option Nat}{P:Program}{Q:Exit→Act→World→Prop}{a:Act}{dd:List Deferred}{w:World}
theorem aH{x y:Code}(h:Wp r P x (Exit.then (Wp r P y Q) Q) a w):Wp r P (.seq x y) Q a w:=wpIn_seq h
theorem bL(h:Q .normal a w):Wp r P .skip Q a w:=wpIn_skip h
theorem dB{id:Nat}(h:Q (.exit id) a w):Wp r P (.exit id) Q a w:=wpIn_exit h
theorem qo(h:Q .ret a w):Wp r P .ret Q a w:=wpIn_ret h
theorem bJ{id:Nat}{c:Code}(h:Wp r P c (Exit.inBlock id Q) a w):Wp r P (.block id c) Q a w:=wpIn_block h
theorem aD{i:Nat}{l:List Oper}(h:vi r P l.toArray Q l a w):Wp r P (.region i l.toArray false) Q a w:=wpIn_region_lit h
theorem aJ{ops:Array Oper}(h:Q .normal a w):vi r P ops Q [] a w:=h
theorem aB{K:Act→World→Prop}(h:K a w):Exit.then K Q .normal a w:=h
theorem cC{i:Nat}(h:Q .normal a w):Exit.inBlock i Q .normal a w:=h
theorem bV{K:Act→World→Prop}{i:Nat}(h:Q (.exit i) a w):Exit.then K Q (.exit i) a w:=h
theorem dV{i:Nat}(h:Q .normal a w):Exit.inBlock i Q (.exit i) a w:=by simpa[Exit.inBlock]using h
theorem Qn{i j:Nat}(hij:Nat.beq j i=false)(h:Q (.exit j) a w):Exit.inBlock i Q (.exit j) a w:=by
 have:j≠i:=fun e=>by subst e;simp at hij
 simpa[Exit.inBlock,this]using h
theorem W4{K:Act→World→Prop}(h:Q .ret a w):Exit.then K Q .ret a w:=h
theorem P6{i:Nat}(h:Q .ret a w):Exit.inBlock i Q .ret a w:=h
theorem bM{c:Operand}{x y:Code}{n:Nat}{F:List (Nat×Value)}{b:Bool}(hF:Fr n F a dd)(hc:ev F c=some (.bool b))(ht:b=true→Wp r P x Q a w)(hf:b=false→Wp r P y Q a w) :
  Wp r P (.cond c x y) Q a w:=wpIn_cond_split (hF.eval hc) ht hf
theorem Hh{X:Type}{c:Code}(I:X→Act→World→Prop)(μ:X→Nat)(JO:X)(h₀:I JO a w)
  (round:∀ x a w,I x a w→Wp r P c (Exit.then (fun a' w'=>∃ y,I y a' w' ∧ μ y<μ x) Q) a w):Wp r P (.loop c) Q a w:=by
 intro b k cs hro hb hr
 have key:∀ m x a w,μ x=m→I x a w →
   ∃ e a' w',Q e a' w' ∧ ArrivesIn (Machine.fenced P (Wd r)) P (lone (b.atR a (.code c :: .inLoop c::k)) cs w) b k cs e a' w':=by
  intro m
  induction m using Nat.strongRecOn with
  | _ m ih =>
   intro x a w hn hI
   obtain⟨e,a₁,w₁,hq,xx⟩:=round x a w hI b (.inLoop c::k) cs hro hb hr
   cases e with
   | normal =>
    obtain⟨y,H3,hlt⟩:=hq
    obtain⟨e₂,a₂,w₂,Iu,CJ⟩:=ih (μ y) (hn ▸ hlt) y a₁ w₁ rfl H3
    exact⟨e₂,a₂,w₂,Iu,.of_steps (StepsIn.trans xx (.one (fenced_calm hb hr rfl) stepR_inLoop)) CJ⟩
   | exit id=>exact⟨_,a₁,w₁,hq,.pass (x:=.inLoop c) rfl (fun _ _=>.inl (by simp)) xx⟩
   | goto l=>exact⟨_,a₁,w₁,hq,.pass (x:=.inLoop c) rfl (fun _ _=>.inl (by simp)) xx⟩
   | ret=>exact⟨_,a₁,w₁,hq,.pass (x:=.inLoop c) rfl (fun _ _=>.inl (by simp)) xx⟩
   | panic ch=>exact⟨_,a₁,w₁,hq,.pass (x:=.inLoop c) rfl (fun _ _=>.inl (by simp)) xx⟩
   | outgrown=>exact⟨_,a₁,w₁,hq,.pass (x:=.inLoop c) rfl (fun _ _=>.inl (by simp)) xx⟩
 obtain⟨e,a',w',hq,xx⟩:=key _ JO a w rfl h₀
 exact⟨e,a',w',hq,.of_steps (.one (fenced_calm hb hr rfl) stepR_loop) xx⟩
theorem UO{c:Code}{R:Act→World→Prop}(h:Wp r P c (Exit.then R Q) a w)(next:∀ a w,R a w→Q .normal a w):Wp r P c Q a w :=
 wpIn_mono h fun e a w q=>by cases e<;>first|exact next _ _ q|exact q
theorem aV{f:FuncId}{fn:Func}{c:Code}{vs:List Value}{m:Nat}{R:Value→World→Prop}(hf:P.funcs[f]? = some fn)(hb:fn.body=some c)(hm:fn.ntmps=m)(hn:Nat.ble vs.length m=true)
  (h:∀ a,Fr m (idx 0 vs) a→Wp none P c (bP P fn (fZ R)) a w):Calls P f vs.toArray w (fZ R):=by
 refine callsIn_wide.1 (callsIn_of_wp_marks (F:=Wd none) (n:=0) hf hb trivial ?_ rfl)
 subst hm
 exact h _ (Fr.enter vs fn.ntmps hn)
theorem qL{fn:Func}{R:Value→World→Prop}{v:Value}(hd:a.defers = [])(hr:(results fn a.tmps).run P w = .ok v w)(h:R v w):LeavesInM (Wd none) 0 P fn a.tmps (fZ R) a.defers .returning w:=by
 rw[hd];exact⟨v,hr,h⟩
theorem aT{fn:Func}{t n:Nat}{F:List (Nat×Value)}{v:Value}{R:Value→World→Prop}(hr:fn.results = #[.tmp t])(hF:Fr n F a)(hv:look F t=some v)(h:R v w):bP P fn (fZ R) .ret a w:=by
 refine qL (v:=v) hF.defers ?_ h
 have:=hF.get t v hv
 simp[results,hr,this]
theorem eU{fn:Func}{n:Nat}{F:List (Nat×Value)}{R:Value→World→Prop}(hr:fn.results = #[])(hF:Fr n F a)(h:R (.tuple #[]) w):bP P fn (fZ R) .normal a w :=
 qL (v:=.tuple #[]) hF.defers (by simp[results,hr]) h
theorem vB{fn:Func}{n:Nat}{F:List (Nat×Value)}{R:Value→World→Prop}(hr:fn.results = #[])(hF:Fr n F a)(h:R (.tuple #[]) w):bP P fn (fZ R) .ret a w :=
 qL (v:=.tuple #[]) hF.defers (by simp[results,hr]) h
def kL(P:Program)(w:World)(tmps:Array Value):List ResultVar→List Value→Prop
 | [],[]=>True
 | .tmp t::rs,v::vs=>tmps[t]? = some v∧kL P w tmps rs vs
 | .cell t ty::rs,v::vs=>(∃ p,tmps[t]? = some (.pointer (some p))∧(loadVar ty p).run P w = .ok v w)∧kL P w tmps rs vs
 | _,_=>False
def zw(tmps:Array Value):ResultVar→Sem Value
 | .tmp t=>pure (tmps.getD t undef)
 | .cell a t=>do loadVar t (←asAddr (tmps.getD a undef))
theorem yE(tmps:Array Value)(rs:List ResultVar)(vs:List Value)(h:kL P w tmps rs vs):(rs.mapM (zw tmps)).run P w = .ok vs w:=by
 induction rs generalizing vs with
 | nil=>cases vs with
  | nil=>simp
  | cons _ _=>exact h.elim
 | cons r rs ih =>
  cases r with
  | tmp t=>cases vs with
   | nil=>exact h.elim
   | cons v vs =>
    obtain⟨h1,h2⟩:=h
    simp only[aaB,Sem.run_bind]
    simp[zw,h1,ih _ h2]
  | cell t ty=>cases vs with
   | nil=>exact h.elim
   | cons v vs =>
    obtain⟨⟨p,h0,h1⟩,h2⟩:=h
    simp only[aaB,Sem.run_bind]
    simp[zw,h0,asAddr,h1,ih _ h2]
theorem sK{fn:Func}{tmps:Array Value}{rs:List ResultVar}{vs:List Value}(hr:fn.results=rs.toArray)(h:kL P w tmps rs vs) :
  (results fn tmps).run P w = .ok (if vs.length=1 then vs.headD undef else .tuple vs.toArray) w:=by
 have:=yE tmps rs vs h
 have e:results fn tmps=(do
   let us←fn.results.mapM (zw tmps)
   pure (if h:us.size=1 then us[0]else .tuple us)):=rfl
 rw[e,hr,List.mapM_toArray,Sem.run_bind,Sem.run_map,this]
 simp only[Result.andThen_ok,Sem.run_pure]
 match vs with
 | []=>rfl
 | [v]=>rfl
 | _::_::_=>rfl
theorem fE{fn:Func}{rs:List ResultVar}{vs:List Value}{v:Value}{n:Nat}{F:List (Nat×Value)}{R:Value→World→Prop}(hr:fn.results=rs.toArray)(hF:Fr n F a)(hv:kL P w a.tmps rs vs)
  (he:(if vs.length=1 then vs.headD undef else .tuple vs.toArray)=v) (h:R v w):bP P fn (fZ R) .ret a w :=
 qL hF.defers (by rw[sK hr hv,he]) h
theorem dI{tmps:Array Value}:kL P w tmps [] []:=trivial
theorem dU{n:Nat}{F:List (Nat×Value)}{t:Nat}{v:Value}{rs:List ResultVar}{vs:List Value}(hF:Fr n F a dd)(hv:look F t=some v)(h:kL P w a.tmps rs vs):kL P w a.tmps (.tmp t::rs) (v::vs) :=
 ⟨hF.get t v hv,h⟩
theorem dA{n:Nat}{F:List (Nat×Value)}{t ty b off sz:Nat}{us:List Value}{rs:List ResultVar}{vs:List Value}(hF:Fr n F a dd)(hv:look F t=some (.pointer (some ⟨b,off,none⟩)))
  (ht:∀ w,(isAgg ty).run P w = .ok true w) (hs:∀ w,(sizeOf ty).run P w = .ok sz w) (hl:us.length=sz) (hc:i_ w b off us) (h:kL P w a.tmps rs vs):kL P w a.tmps (.cell t ty::rs) (.agg us.toArray::vs):=by
 refine⟨⟨_,hF.get t _ hv,?_⟩,h⟩
 subst hl
 simp[loadVar,ht,hs,run_loadCells w b off us hc]
theorem gX{n:Nat}{F:List (Nat×Value)}{t ty b off:Nat}{u:Value}{rs:List ResultVar}{vs:List Value}(hF:Fr n F a dd)(hv:look F t=some (.pointer (some ⟨b,off,none⟩)))
  (ht:∀ w,(isAgg ty).run P w = .ok false w) (hc:w.cell? ⟨b,off,none⟩=some u) (h:kL P w a.tmps rs vs):kL P w a.tmps (.cell t ty::rs) (u::vs):=by
 refine⟨⟨_,hF.get t _ hv,?_⟩,h⟩
 simp[loadVar,ht,hc]
end code
end Go.Fw
end
section
namespace Go.Fw
def Cj(o:Oper):List Nat:=(o.after.toList.filter (fun e=>Region.binds .any e)).map (·.on)
def iq(ops:Array Oper)(i:Nat):List Nat:=match ops[i]? with|some o=>Cj o|none=>[]
def lj(ops:Array Oper)(i:Nat):Option Tmp:=match ops[i]? with|some o=>o.dst|none=>none
def k_(ops:Array Oper)(i:Nat):List Tmp:=match ops[i]? with|some o=>o.looksAt ops|none=>[]
def ji(i:Nat):List Nat→Bool
 | []=>false
 | j::r=>Nat.beq i j||ji i r
theorem fG{i:Nat}{l:List Nat}:ji i l=true↔i∈l:=by
 induction l with
 | nil=>simp[ji]
 | cons j r ih=>simp[ji,ih]
def KB(d:Tmp):Option Tmp→Bool
 | some e=>Nat.beq d e
 | none=>false
def chk(ops:Array Oper):Bool:=(List.range ops.size).all fun i =>
  (iq ops i).all (fun p=>Nat.blt p i) &&
  (match lj ops i with
   | none=>true
   | some d=>!ji d (k_ ops i)&&(List.range ops.size).all fun j=>Nat.beq j i||(!KB d (lj ops j)&&(!ji d (k_ ops j)||ji i (iq ops j)||ji j (iq ops i))))
def CG(ops:Array Oper)(i:Nat):Bool :=
 match lj ops i with
 | none=>true
 | some d=>(List.range ops.size).all fun j=>Nat.beq j i || !ji d (k_ ops j)||ji i (iq ops j)
def lu(o:Oper):Bool:=match o.op with | .select ..=>false|_=>true
def Be(ops:Array Oper)(T:List Nat)(i:Nat):Bool :=
 !ji i T&&(iq ops i).all (ji · T)&&CG ops i&&(match ops[i]? with|some o=>lu o|none=>false)
def blk(ops:Array Oper)(T A:List Nat):Bool:=(List.range ops.size).all fun k=>ji k T||ji k A||(iq ops k).any (fun p=>!ji p T)
def tt(ops:Array Oper)(T:List Nat):Bool:=(List.range ops.size).all (ji · T)
section
variable {ops:Array Oper}
theorem K3(h:chk ops=true){i p:Nat}(hi:i<ops.size)(hp:p∈iq ops i):p<i:=by
 have:=aac.1 h i (aaC.2 hi)
 simp only[dc,aac]at this
 exact aae (this.1 p hp)
theorem Wa{d:Tmp}{x:Option Tmp}:KB d x=true↔x=some d:=by
 cases x with
 | none=>simp[KB]
 | some e=>simp[KB];exact eq_comm
theorem sZ(h:chk ops=true){i d:Nat}(hi:i<ops.size)(hd:lj ops i=some d) :
  d∉k_ ops i ∧ ∀ j,j<ops.size→j≠i→lj ops j≠some d∧(d∈k_ ops j→i∈iq ops j∨j∈iq ops i):=by
 have:=aac.1 h i (aaC.2 hi)
 rw[hd]at this
 simp only[dc,aac,aaC,aaD,aar,aaE]at this
 obtain⟨_,h1,h2⟩:=this
 refine⟨fun hm=>(by rw[fG.2 hm]at h1;cases h1),fun j hj hji=>?_⟩
 rcases h2 j hj with h3|⟨h3,h4⟩
 ·exact absurd h3 hji
 ·refine⟨fun e=>?_,fun hr=>?_⟩
  ·rw[Wa.2 e]at h3;cases h3
  ·rcases h4 with(h4|h4)|h4
   ·rw[fG.2 hr]at h4;cases h4
   ·exact .inl (fG.1 h4)
   ·exact .inr (fG.1 h4)
theorem GX{i d j:Nat}(h:CG ops i=true)(hd:lj ops i=some d)(hj:j<ops.size)(hji:j≠i)(hr:d∈k_ ops j):i∈iq ops j:=by
 unfold CG at h
 rw[hd]at h
 simp only[aac,aaC,aaD,aar,aaE]at h
 rcases h j hj with(h3|h3)|h3
 ·exact absurd h3 hji
 ·rw[fG.2 hr]at h3;cases h3
 ·exact fG.1 h3
def YieldsAt(P:Program)(ops:Array Oper)(o:Oper)(a:Act)(w:World)(v:Value):Prop :=
 (Region.wanted o (yielded ops a.tmps)=true∧(execOp a.eval o).run P w = .ok (.value v) w)∨(Region.wanted o (yielded ops a.tmps)=false∧v=undef)
theorem O1{o:Oper}{a a':Act}(h:∀ t∈o.looksAt ops,a.tmps[t]? = a'.tmps[t]?):(∀ x∈o.op.operands,a.eval x=a'.eval x)∧Region.wanted o (yielded ops a.tmps)=Region.wanted o (yielded ops a'.tmps):=by
 constructor
 ·intro x hx
  cases x with
  | tmp t =>
   have:t∈o.looksAt ops:=by
    simp only[Oper.looksAt,aaF,List.mem_filterMap]
    exact .inl ⟨.tmp t,by simpa using hx,rfl⟩
   simp only[Act.eval,aah,h t this]
  | const v=>rfl
  | global g=>rfl
  | func f=>rfl
 ·unfold Region.wanted
  cases hg:o.guard with
  | none=>rfl
  | some p =>
   obtain⟨j,want⟩:=p
   have:yielded ops a.tmps j=yielded ops a'.tmps j:=by
    unfold yielded
    cases hd:(ops[j]?).bind (·.dst)with
    | none=>rfl
    | some d =>
     have hm:d∈o.looksAt ops:=by
      simp[Oper.looksAt,hg,hd]
     simp only[aaG,h d hm]
   simp only[this]
theorem OW{o:Oper}(h:lu o=true):∀ cs b,o.op ≠ .select cs b:=by
 intro cs b e
 simp[lu,e]at h
theorem YieldsAt.congr{P:Program}{o:Oper}{a a':Act}{w:World}{v:Value}(hs:lu o=true)(h:∀ t∈o.looksAt ops,a.tmps[t]? = a'.tmps[t]?)(hy:YieldsAt P ops o a w v):YieldsAt P ops o a' w v:=by
 obtain⟨h1,h2⟩:=O1 h
 unfold YieldsAt at *
 rw[←h2,←execOp_congr o (OW hs) h1]
 exact hy
structure Pq(P:Program)(ops:Array Oper)(T:List Nat)(Cs:World→Prop)(a:Act)(i:Nat)(v:Value):Prop where
 Cj:∀ p∈iq ops i,p∈T
 q:CG ops i=true
 ns:∀ o,ops[i]? = some o→lu o=true
 yields:∀ o,ops[i]? = some o → ∀ w,Cs w→YieldsAt P ops o a w v
structure B_(ops:Array Oper)(T:List Nat)(pend:List (Nat×Value))(s:Act)(b_:Array Bool)(a:Act):Prop where
 size:b_.size=ops.size
 list:∀ i,i<ops.size→(b_.getD i true=true↔i∈T ∧ ∀ p∈pend,p.1≠i)
 BN:∀ i∈T,i<ops.size
 closed:∀ i,i<ops.size→b_.getD i true=true → ∀ p∈iq ops i,b_.getD p true=true
 nk:∀ p∈pend,p.1∈T
 nodup:pend.Pairwise (fun p q=>p.1≠q.1)
 defers:s.defers=a.defers
 vJ:s.tmps.size=a.tmps.size
 same:∀ t,(∀ p∈pend,lj ops p.1≠some t)→s.tmps[t]? = a.tmps[t]?
 late:∀ p∈pend,∀ d,lj ops p.1=some d→d<a.tmps.size→s.tmps[d]? = some p.2
def Jo(ops:Array Oper)(b_:Array Bool):Nat:=(List.range ops.size).countP (fun i=>!b_.getD i true)
def DW(r:Option Nat)(P:Program)(ops:Array Oper)(Q:Exit→Act→World→Prop)(T:List Nat)(Cs C:World→Prop)(s:Act):Prop :=
 ∀ fuel b_ pend a w,Cs w→C w→B_ ops T pend s b_ a→(∀ p∈pend,Pq P ops T Cs s p.1 p.2)→Jo ops b_≤fuel→wpAnyIn (Wd r) 0 P .any ops Q fuel b_ a w
theorem tG{b_:Array Bool}(hs:b_.size=ops.size){i:Nat}:i∈Region.ready .any ops b_↔i<ops.size∧b_.getD i true=false ∧ ∀ p∈iq ops i,b_.getD p false=true:=by
 simp only[Region.ready,aaH,aaC,dc,aar]
 constructor
 ·rintro⟨h1,h2,h3⟩
  refine⟨h1,h2,fun p hp=>?_⟩
  unfold iq at hp
  cases ho:ops[i]? with
  | none=>simp[ho]at hp
  | some o =>
   simp only[ho,aaI,aaJ,Array.all_eq_true']at h3 hp
   simp only[Cj,aaK,aaH]at hp
   obtain⟨e,⟨he,hb⟩,rfl⟩:=hp
   have:=h3 e (by simpa using he)
   simpa[hb]using this
 ·rintro⟨h1,h2,h3⟩
  refine⟨h1,h2,?_⟩
  have ho:ops[i]? = some ops[i]:=by simp[h1]
  simp only[ho,aaI,aaJ,Array.all_eq_true']
  intro e he
  cases hb:Region.binds .any e with
  | false=>rfl
  | true =>
   have:=h3 e.on (by
    simp only[iq,ho,Cj,aaK,aaH]
    exact⟨e,⟨by simpa using he,hb⟩,rfl⟩)
   simpa using this
theorem fH{b_:Array Bool}{p:Nat}(h:b_.getD p false=true):b_.getD p true=true:=by
 simp only[aah]at *
 cases hx:b_[p]? with
 | none=>simp
 | some b=>simpa[hx]using h
theorem vD{b_:Array Bool}{p:Nat}(hp:p<b_.size)(h:b_.getD p true=true):b_.getD p false=true:=by
 simp only[aah]at *
 simpa[hp]using h
theorem PI{b_:Array Bool}(kU:chk ops=true)(hs:b_.size=ops.size):∀ i,i<ops.size→b_.getD i true=false→Region.ready .any ops b_ ≠ []:=by
 intro i
 induction i using Nat.strongRecOn with
 | _ i ih =>
  intro hi hl
  by_cases hall:∀ p∈iq ops i,b_.getD p false=true
  ·exact List.ne_nil_of_mem ((tG hs).2 ⟨hi,hl,hall⟩)
  ·simp only[Classical.not_forall]at hall
   obtain⟨p,hp,hf⟩:=hall
   have hlt:=K3 kU hi hp
   refine ih p hlt ac_ ?_
   cases hx:b_.getD p true with
   | false=>rfl
   | true=>exact absurd (vD ac_ hx) hf
theorem D6{b_:Array Bool}(hs:b_.size=ops.size){i:Nat}(hi:i<ops.size)(hl:b_.getD i true=false):Jo ops (b_.setIfInBounds i true)+1≤Jo ops b_:=by
 unfold Jo
 have key:∀ l:List Nat,i∈l→l.Nodup→(∀ j∈l,j<ops.size)→l.countP (fun j=>!(b_.setIfInBounds i true).getD j true)+1≤l.countP (fun j=>!b_.getD j true):=by
  have oe:∀ j,(b_.setIfInBounds i true).getD j true=(if j=i then true else b_.getD j true):=by
   intro j
   simp only[aah,aaL]
   split
   ·rename_i e;subst e
    split
    ·simp
    ·simp[hs,hi]at *
   ·rename_i e
    have:j≠i:=fun x=>e x.symm
    simp[this]
  intro l
  induction l with
  | nil=>intro hm;cases hm
  | cons j l ih =>
   intro hm hn hlt
   simp only[List.countP_cons,oe]
   by_cases hji:j=i
   ·subst hji
    have EN:j∉l:=(List.nodup_cons.1 hn).1
    have heq:l.countP (fun x=>!if x=j then true else b_.getD x true)=l.countP (fun x=>!b_.getD x true):=by
     refine List.countP_congr fun x hx=>?_
     have:x≠j:=fun e=>EN (e ▸ hx)
     simp[this]
    rw[heq]
    simp only[hl]
    simp
   ·have hmem:i∈l:=by
     rcases aaM.1 hm with e|e
     ·exact absurd e.symm hji
     ·exact e
    have:=ih hmem (List.nodup_cons.1 hn).2 (fun x hx=>hlt x (aaN _ hx))
    simp only[oe]at this
    simp only[hji,if_false]
    omega
 exact key _ (aaC.2 hi) List.nodup_range (fun j hj=>aaC.1 hj)
theorem C6{b_:Array Bool}{i:Nat}(hi:i<b_.size)(j:Nat):(b_.setIfInBounds i true).getD j true=(if j=i then true else b_.getD j true):=by
 simp only[aah,aaL]
 split
 ·rename_i e;subst e;simp
 ·rename_i e
  have:j≠i:=fun x=>e x.symm
  simp[this]
theorem qP{a:Act}{d t:Nat}{v:Value}:(a.put (some d) v).tmps[t]? = if d=t then(if d<a.tmps.size then some v else none)else a.tmps[t]?:=by
 simp only[Act.put,aaL]
end
theorem Ee{r:Option Nat}{P:Program}{ops:Array Oper}{Q:Exit→Act→World→Prop}{j:Nat}{o:Oper}{a:Act}{w:World}{v:Value}{K:Act→World→Prop}(ho:ops[j]? = some o)(hy:YieldsAt P ops o a w v)(h:K (a.put o.dst v) w):wpOpIn (Wd r) 0 P ops Q j K a w:=by
 unfold wpOpIn
 simp only[ho]
 rcases hy with⟨h1,h2⟩|⟨h1,rfl⟩
 ·rw[aay h1]
  exact Yd.wp (Yd.val h2 h)
 ·rw[aaz (by rw[h1];exact aaA)]
  exact⟨fun _ _=>trivial,h⟩
section
variable {r:Option Nat}{P:Program}{ops:Array Oper}{Q:Exit→Act→World→Prop}{T:List Nat}{Cs C:World→Prop}{s:Act}
theorem B_.step{pend:List (Nat×Value)}{b_:Array Bool}{a:Act}(kU:chk ops=true)(st:B_ ops T pend s b_ a){j:Nat}{v:Value}(hj:(j,v)∈pend)(hlt:j<ops.size)
  (hr:∀ p∈iq ops j,b_.getD p false=true):B_ ops T (pend.filter (fun p=>!Nat.beq p.1 j)) s (b_.setIfInBounds j true) (a.put (lj ops j) v):=by
 have hls:j<b_.size:=by rw[st.size];exact hlt
 have Q0:∀ p∈pend,p.1=j→p=(j,v):=by
  have YV:=st.nodup
  intro p hp zk
  rcases aaO.1 YV with hh
  obtain⟨x,hx,rfl⟩:=aaP hp
  obtain⟨y,hy,he⟩:=aaP hj
  rcases Nat.lt_trichotomy x y with h|h|h
  ·exact absurd (by rw[he];exact zk) (hh x y hx hy h)
  ·subst h;exact he
  ·exact absurd (by rw[he];exact zk.symm) (hh y x hy hx h)
 have hmem:∀ p,p∈pend.filter (fun p=>!Nat.beq p.1 j)↔p∈pend∧p.1≠j:=by
  intro p
  simp only[aaH,aar,←Bool.not_eq_true,aaE]
 constructor
 ·simp[st.size]
 ·intro i hi
  rw[C6 hls]
  by_cases hij:i=j
  ·subst hij
   simp only[if_true,true_iff]
   exact⟨st.nk _ hj,fun p hp=>((hmem p).1 hp).2⟩
  ·simp only[hij,if_false]
   rw[st.list i hi]
   constructor
   ·rintro⟨h1,h2⟩;exact⟨h1,fun p hp=>h2 p ((hmem p).1 hp).1⟩
   ·rintro⟨h1,h2⟩
    refine⟨h1,fun p hp hpi=>?_⟩
    by_cases zk:p.1=j
    ·exact hij (hpi.symm.trans zk)
    ·exact h2 p ((hmem p).2 ⟨hp,zk⟩) hpi
 ·exact st.BN
 ·intro i hi hl p hp
  have hpi:=K3 kU hi hp
  rw[C6 hls]at hl ⊢
  split
  ·rfl
  ·split at hl
   ·rename_i e;subst e
    exact fH (hr p hp)
   ·exact st.closed i hi hl p hp
 ·intro p hp;exact st.nk p ((hmem p).1 hp).1
 ·exact st.nodup.filter _
 ·rw[st.defers];cases lj ops j<;>rfl
 ·rw[st.vJ];cases lj ops j<;>simp[Act.put]
 ·intro t ht
  cases hd:lj ops j with
  | none =>
   refine st.same t fun p hp=>?_
   by_cases zk:p.1=j
   ·rw[zk,hd];simp
   ·exact ht p ((hmem p).2 ⟨hp,zk⟩)
  | some d =>
   rw[qP]
   by_cases MS:d=t
   ·subst MS
    rw[aay rfl]
    split
    ·rename_i vo
     exact st.late _ hj d hd vo
    ·rename_i hge
     rw[aaQ (by rw[st.vJ];omega)]
   ·rw[aaz MS]
    refine st.same t fun p hp=>?_
    by_cases zk:p.1=j
    ·rw[zk,hd];simpa using MS
    ·exact ht p ((hmem p).2 ⟨hp,zk⟩)
 ·intro p hp d hd vo
  refine st.late p ((hmem p).1 hp).1 d hd ?_
  cases hdj:lj ops j<;>simp[hdj,Act.put]at vo<;>exact vo
theorem B_.reads{pend:List (Nat×Value)}{b_:Array Bool}{a:Act}(st:B_ ops T pend s b_ a)(hq:∀ p∈pend,Pq P ops T Cs s p.1 p.2)
  {j:Nat} (hlt:j<ops.size) (AZ:∀ d,lj ops j=some d→d∉k_ ops j) (hr:∀ p∈iq ops j,b_.getD p false=true):∀ t∈k_ ops j,s.tmps[t]? = a.tmps[t]?:=by
 intro t ht
 refine st.same t fun p hp hd=>?_
 by_cases zk:p.1=j
 ·rw[zk]at hd;exact AZ t hd ht
 ·have h1:=GX (hq p hp).q hd hlt (fun e=>zk e.symm) ht
  have h2:=fH (hr _ h1)
  exact((st.list p.1 (st.BN _ (st.nk p hp))).1 h2).2 p hp rfl
theorem lB{j:Nat}{o:Oper}(ho:ops[j]? = some o):k_ ops j=o.looksAt ops:=by simp[k_,ho]
theorem iB{j:Nat}{o:Oper}(ho:ops[j]? = some o):lj ops j=o.dst:=by simp[lj,ho]
theorem B_.yields{pend:List (Nat×Value)}{b_:Array Bool}{a:Act}{w:World}(kU:chk ops=true)(st:B_ ops T pend s b_ a)(hq:∀ p∈pend,Pq P ops T Cs s p.1 p.2)
  {j:Nat} {v:Value} {o:Oper} (ho:ops[j]? = some o) (hj:(j,v)∈pend) (hr:∀ p∈iq ops j,b_.getD p false=true) (hw:Cs w):YieldsAt P ops o a w v:=by
 have hlt:j<ops.size:=(aao.1 ho).1
 have h:=(hq _ hj).yields o ho w hw
 refine h.congr ((hq _ hj).ns o ho) fun t ht=>?_
 exact st.reads hq hlt (fun d hd=>(sZ kU hlt hd).1) hr t (by rw[lB ho];exact ht)
theorem Qc(kU:chk ops=true)(hall:tt ops T=true)(h:∀ w,C w→Q .normal s w):DW r P ops Q T Cs C s:=by
 have hT:∀ i,i<ops.size→i∈T:=fun i hi=>fG.1 (aac.1 hall i (aaC.2 hi))
 have fin:∀ b_ pend a w,C w→B_ ops T pend s b_ a→Region.ready .any ops b_ = []→Q .normal a w:=by
  intro b_ pend a w hC st hr
  have hl:∀ i,i<ops.size→b_.getD i true=true:=by
   intro i hi
   cases hx:b_.getD i true with
   | true=>rfl
   | false=>exact absurd hr (PI kU st.size i hi hx)
  have hp:pend = []:=by
   cases pend with
   | nil=>rfl
   | cons p r =>
    have:=st.BN _ (st.nk p (by simp))
    exact absurd rfl (((st.list p.1 this).1 (hl _ this)).2 p (by simp))
  subst hp
  have hs:s=a:=by
   have h1:=st.defers
   have h2:s.tmps=a.tmps:=Array.ext_getElem? fun t=>st.same t (by simp)
   cases s;cases a;simp_all
  exact hs ▸ h w hC
 intro fuel
 induction fuel with
 | zero =>
  intro b_ pend a w _ hC st _ hf
  have hr:Region.ready .any ops b_ = []:=by
   cases hx:Region.ready .any ops b_ with
   | nil=>rfl
   | cons i r =>
    have hi:=(tG st.size).1 (by rw[hx];exact aaR:i∈_)
    have:=D6 st.size hi.1 hi.2.1
    omega
  exact⟨hr,fin _ _ _ _ hC st hr⟩
 | succ fuel ih =>
  intro b_ pend a w zj hC st hq hf
  refine⟨fun hr=>fin _ _ _ _ hC st hr,fun i hi=>?_⟩
  obtain⟨h1,h2,h3⟩:=(tG st.size).1 hi
  have Na:∃ v,(i,v)∈pend:=by
   apply Classical.byContradiction
   intro hno
   have:b_.getD i true=true:=(st.list i h1).2 ⟨hT i h1,fun p hp hpi=>hno ⟨p.2,hpi ▸ hp⟩⟩
   rw[h2]at this;cases this
  obtain⟨v,hv⟩:=Na
  have ho:ops[i]? = some ops[i]:=by simp[h1]
  refine Ee ho (st.yields kU hq ho hv h3 zj) ?_
  have B6:=st.step kU hv h1 h3
  rw[iB ho]at B6
  refine ih _ _ _ _ zj hC B6 (fun p hp=>hq p (aaH.1 hp).1) ?_
  have:=D6 st.size h1 h2
  omega
theorem F9(kU:chk ops=true){i:Nat}{o:Oper}{v:Value}(ho:ops[i]? = some o)(hok:Be ops T i=true)(hy:∀ w,Cs w→YieldsAt P ops o s w v)(next:DW r P ops Q (i::T) Cs C (s.put o.dst v)):DW r P ops Q T Cs C s:=by
 have hlt:i<ops.size:=(aao.1 ho).1
 simp only[Be,ho,dc,aar,aac]at hok
 obtain⟨⟨⟨hT,EC⟩,QF⟩,hns⟩:=hok
 have hT:i∉T:=fun h=>by rw[fG.2 h]at hT;cases hT
 have EC:∀ p∈iq ops i,p∈T:=fun p hp=>fG.1 (EC p hp)
 have AZ:∀ d,o.dst=some d→d∉o.looksAt ops:=fun d hd=>by
  have:=(sZ kU hlt (by rw[iB ho];exact hd)).1
  rwa [lB ho]at this
 have qa:∀ t,o.dst≠some t→(s.put o.dst v).tmps[t]? = s.tmps[t]?:=by
  intro t ht
  cases hd:o.dst with
  | none=>rfl
  | some d=>rw[qP,aaz (fun e=>ht (by rw[hd,e]))]
 intro fuel b_ pend a w zj hC st hq hf
 have hni:∀ p∈pend,p.1≠i:=fun p hp e=>hT (e ▸ st.nk p hp)
 refine next fuel b_ ((i,v)::pend) a w zj hC ?_ ?_ hf
 ·constructor
  ·exact st.size
  ·intro j hj
   rw[st.list j hj]
   constructor
   ·rintro⟨h1,h2⟩
    refine⟨aaN _ h1,fun p hp=>?_⟩
    rcases aaM.1 hp with rfl|hp
    ·intro e
     have e':i=j:=e
     subst e'
     exact hT h1
    ·exact h2 p hp
   ·rintro⟨h1,h2⟩
    refine⟨?_,fun p hp=>h2 p (aaN _ hp)⟩
    rcases aaM.1 h1 with rfl|h1
    ·exact absurd rfl (h2 (j,v) aaR)
    ·exact h1
  ·intro j hj
   rcases aaM.1 hj with rfl|hj
   ·exact hlt
   ·exact st.BN j hj
  ·exact st.closed
  ·intro p hp
   rcases aaM.1 hp with rfl|hp
   ·exact aaR
   ·exact aaN _ (st.nk p hp)
  ·exact aaS.2 ⟨fun p hp e=>hni p hp e.symm,st.nodup⟩
  ·rw[←st.defers];cases o.dst<;>rfl
  ·rw[←st.vJ];cases o.dst<;>simp[Act.put]
  ·intro t ht
   rw[qa t (by have:=ht (i,v) aaR;rwa [iB ho]at this)]
   exact st.same t fun p hp=>ht p (aaN _ hp)
  ·intro p hp d hd hd'
   rcases aaM.1 hp with rfl|hp
   ·rw[iB ho]at hd
    rw[hd,qP,aay rfl,aay (by rw[st.vJ];exact hd')]
   ·rw[qa d ?_]
    ·exact st.late p hp d hd hd'
    ·intro e
     have h1:=((sZ kU hlt (by rw[iB ho];exact e)).2 p.1 (st.BN _ (st.nk p hp)) (hni p hp)).1
     exact h1 hd
 ·intro p hp
  rcases aaM.1 hp with rfl|hp
  ·refine⟨fun q w_=>aaN _ (EC q w_),QF,fun o' ru=>?_,fun o' ru w' hw'=>?_⟩
   ·rw[ho]at ru;cases ru;exact hns
   ·rw[ho]at ru;cases ru
    refine(hy w' hw').congr hns fun t ht=>?_
    rw[qa t (fun e=>AZ t e ht)]
  ·have h:=hq p hp
   refine⟨fun q w_=>aaN _ (h.Cj q w_),h.q,h.ns,fun o' ru w' hw'=>?_⟩
   refine(h.yields o' ru w' hw').congr (h.ns o' ru) fun t ht=>?_
   rw[qa t ?_]
   intro e
   have h1:=GX QF (by rw[iB ho];exact e) (st.BN _ (st.nk p hp)) (hni p hp) (by rw[lB ru];exact ht)
   exact hT (h.Cj _ h1)
def Et(ops:Array Oper):Nat→List Nat→List Nat
 | 0,l=>l
 | k+1,l=>Et ops k (l++(l.flatMap (iq ops)).filter (fun p=>!ji p l)).eraseDups
def uV(ops:Array Oper)(j:Nat):Bool:=match ops[j]? with
 | some o=>(match o.op with
  | .move _=>true
  | _=>false)
 | none=>false
theorem S5{P:Program}{o:Oper}{a:Act}{w x:World}{v:Value}{j:Nat}(ho:ops[j]? = some o)(hm:uV ops j=true)(h:YieldsAt P ops o a w v):YieldsAt P ops o a x v:=by
 unfold uV at hm
 rw[ho]at hm
 simp only at hm
 split at hm
 ·rename_i y hy
  rcases h with⟨h1,h2⟩|h
  ·refine .inl ⟨h1,?_⟩
   simp[execOp,hy]at h2 ⊢
   exact h2
  ·exact .inr h
 ·cases hm
def sync(ops:Array Oper)(T:List Nat)(e:Nat):Bool:=T.all (fun j=>uV ops j||ji j (Et ops ops.size (iq ops e)))
theorem G9{b_:Array Bool}(hs:b_.size=ops.size)(hcl:∀ i,i<ops.size→b_.getD i true=true → ∀ p∈iq ops i,b_.getD p true=true) :
  ∀ k l,(∀ i∈l,b_.getD i true=true) → ∀ i∈Et ops k l,b_.getD i true=true:=by
 intro k
 induction k with
 | zero=>intro l h i hi;exact h i hi
 | succ k ih =>
  intro l h i hi
  refine ih _ ?_ i hi
  intro j hj
  rw[List.mem_eraseDups]at hj
  rcases aaF.1 hj with hj|hj
  ·exact h j hj
  ·obtain⟨hj,_⟩:=aaH.1 hj
   obtain⟨m,hm,hjm⟩:=aaT.1 hj
   by_cases M3:m<ops.size
   ·exact hcl m M3 (h m hm) j hjm
   ·simp[iq,aaQ (by omega:ops.size≤m)]at hjm
def zg(ops:Array Oper)(T:List Nat)(e:Nat):Prop :=
 ∀ b_:Array Bool,b_.size=ops.size→(∀ i,i<ops.size→b_.getD i true=true → ∀ p∈iq ops i,b_.getD p true=true) →
  (∀ k∈iq ops e,b_.getD k true=true) → ∀ j∈T,uV ops j=true∨b_.getD j true=true
theorem K_{ops:Array Oper}{T:List Nat}{e:Nat}(h:sync ops T e=true):zg ops T e:=fun _ hs hcl ha j hj =>
 (aaD _ _ ▸ aac.1 h j hj:uV ops j=true∨_).imp id fun h=>G9 hs hcl _ _ ha _ (fG.1 h)
def Ex(r:Option Nat)(P:Program)(ops:Array Oper)(Q:Exit→Act→World→Prop)(T:List Nat)(Cs C:World→Prop)(s:Act)(e:Nat):Prop :=
 ∃ o,ops[e]? = some o∧Region.wanted o (yielded ops s.tmps)=true∧lu o=true ∧
  ∀ w,Cs w→C w→Yd P o s.eval w (fun v w'=>∃ Dc C':World→Prop,Dc w' ∧ C' w' ∧ ((∀ x,Dc x→Cs x)∨zg ops T e)∧DW r P ops Q (e::T) Dc C' (s.put o.dst v))
def zi(r:Option Nat)(P:Program)(ops:Array Oper)(Q:Exit→Act→World→Prop)(T:List Nat)(Cs C:World→Prop)(s:Act):List Nat→Prop
 | []=>True
 | e::es=>Ex r P ops Q T Cs C s e∧zi r P ops Q T Cs C s es
theorem Ub{A:List Nat}(h:zi r P ops Q T Cs C s A):∀ e∈A,Ex r P ops Q T Cs C s e:=by
 induction A with
 | nil=>intro e he;cases he
 | cons x r ih =>
  intro e he
  rcases aaM.1 he with rfl|he
  ·exact h.1
  ·exact ih h.2 e he
theorem J8(kU:chk ops=true)(A:List Nat)(hb:blk ops T A=true)(hn:∃ e∈A,e<ops.size∧ji e T=false)(hA:zi r P ops Q T Cs C s A):DW r P ops Q T Cs C s:=by
 have hA:=Ub hA
 obtain⟨xu,QJ,wv,xw⟩:=hn
 have xw:xu∉T:=fun h=>by rw[fG.2 h]at xw;cases xw
 intro fuel
 induction fuel with
 | zero =>
  intro b_ pend a w _ _ st _ hf
  have hl:b_.getD xu true=false:=by
   cases hx:b_.getD xu true with
   | false=>rfl
   | true=>exact absurd ((st.list xu wv).1 hx).1 xw
  have:=D6 st.size wv hl
  omega
 | succ fuel ih =>
  intro b_ pend a w zj hC st hq hf
  have Iq:b_.getD xu true=false:=by
   cases hx:b_.getD xu true with
   | false=>rfl
   | true=>exact absurd ((st.list xu wv).1 hx).1 xw
  refine⟨fun hr=>absurd hr (PI kU st.size xu wv Iq),fun i hi=>?_⟩
  obtain⟨h1,h2,h3⟩:=(tG st.size).1 hi
  have hun:=D6 st.size h1 h2
  by_cases hiT:i∈T
  ·have Na:∃ v,(i,v)∈pend:=by
    apply Classical.byContradiction
    intro hno
    have:b_.getD i true=true:=(st.list i h1).2 ⟨hiT,fun p hp hpi=>hno ⟨p.2,hpi ▸ hp⟩⟩
    rw[h2]at this;cases this
   obtain⟨v,hv⟩:=Na
   have ho:ops[i]? = some ops[i]:=by simp[h1]
   refine Ee ho (st.yields kU hq ho hv h3 zj) ?_
   have B6:=st.step kU hv h1 h3
   rw[iB ho]at B6
   exact ih _ _ _ _ zj hC B6 (fun p hp=>hq p (aaH.1 hp).1) ac_
  ·have YM:i∈A:=by
    have:=aac.1 hb i (aaC.2 h1)
    simp only[aaD,List.any_eq_true,aar]at this
    rcases this with(h|h)|⟨p,hp,QR⟩
    ·exact absurd (fG.1 h) hiT
    ·exact fG.1 h
    ·have ym:=fH (h3 p hp)
     have YU:=K3 kU h1 hp
     have:=((st.list p ac_).1 ym).1
     rw[fG.2 this]at QR;cases QR
   obtain⟨o,ho,IB,hns,Zb⟩:=hA i YM
   have ES:∀ t∈o.looksAt ops,s.tmps[t]? = a.tmps[t]?:=fun t ht =>
    st.reads hq h1 (fun d hd=>(sZ kU h1 hd).1) h3 t (by rw[lB ho];exact ht)
   obtain⟨hev,Y3⟩:=O1 ES
   unfold wpOpIn
   simp only[ho]
   rw[aay (by rw[←Y3];exact IB)]
   refine Yd.wp ?_
   have IL:=Zb w zj hC
   unfold Yd at IL ⊢
   rw[←execOp_congr o (OW hns) hev]
   change Yd P o s.eval w _
   refine Yd.mono (J:=fun v w'=>∃ Dc C':World→Prop,Dc w' ∧ C' w' ∧ ((∀ x,Dc x→Cs x)∨zg ops T i)∧DW r P ops Q (i::T) Dc C' (s.put o.dst v)) IL ?_
   rintro v w' ⟨Dc,C',LJ,Yy,hsub,YH⟩
   have hls:i<b_.size:=by rw[st.size];exact h1
   have hnp:∀ p∈pend,p.1≠i:=fun p hp e=>hiT (e ▸ st.nk p hp)
   have EL:∀ p∈pend,∀ d,lj ops p.1=some d→o.dst≠some d:=by
    intro p hp d hd e
    exact((sZ kU h1 (by rw[iB ho];exact e)).2 p.1 (st.BN _ (st.nk p hp)) (hnp p hp)).1 hd
   refine YH fuel _ pend _ w' LJ Yy ?_ ?_ ac_
   ·constructor
    ·simp[st.size]
    ·intro j hj
     rw[C6 hls]
     by_cases hji:j=i
     ·subst hji
      simp only[if_true,true_iff]
      exact⟨aaR,hnp⟩
     ·simp only[hji,if_false]
      rw[st.list j hj]
      simp[hji]
    ·intro j hj
     rcases aaM.1 hj with rfl|hj
     ·exact h1
     ·exact st.BN j hj
    ·intro j hj hl p hp
     rw[C6 hls]at hl ⊢
     split
     ·rfl
     ·split at hl
      ·rename_i e;subst e
       exact fH (h3 p hp)
      ·exact st.closed j hj hl p hp
    ·intro p hp;exact aaN _ (st.nk p hp)
    ·exact st.nodup
    ·have:=st.defers
     cases o.dst<;>exact this
    ·have:=st.vJ
     cases o.dst<;>simp[Act.put,this]
    ·intro t ht
     have hst:=st.same t ht
     cases hd:o.dst with
     | none=>exact hst
     | some d=>rw[qP,qP,st.vJ];split<;>first|rfl|exact hst
    ·intro p hp d hd vo
     have hne:=EL p hp d hd
     have h0:d<a.tmps.size:=by cases hx:o.dst<;>simp[hx,Act.put]at vo<;>exact vo
     have:=st.late p hp d hd h0
     cases hx:o.dst with
     | none=>exact this
     | some x=>rw[qP,aaz (fun e=>hne (by rw[hx,e]))];exact this
   ·intro p hp
    have h:=hq p hp
    have hpa:p.1∉iq ops i:=fun hm =>
     ((st.list p.1 (st.BN _ (st.nk p hp))).1 (fH (h3 _ hm))).2 p hp rfl
    refine⟨fun q w_=>aaN _ (h.Cj q w_),h.q,h.ns,fun o' ru x hx=>?_⟩
    have hy0:YieldsAt P ops o' s x p.2:=by
     rcases hsub with hsub|Iz
     ·exact h.yields o' ru x (hsub x hx)
     ·rcases Iz b_ st.size st.closed (fun k hk=>fH (h3 k hk)) p.1 (st.nk p hp)with M5|this
      ·exact S5 ru M5 (h.yields o' ru w zj)
      ·exact absurd rfl (((st.list p.1 (st.BN _ (st.nk p hp))).1 this).2 p hp)
    refine hy0.congr (h.ns o' ru) fun t ht=>?_
    cases hd:o.dst with
    | none=>rfl
    | some d =>
     rw[qP,aaz ?_]
     intro e
     subst e
     rcases((sZ kU h1 (by rw[iB ho];exact hd)).2 p.1 (st.BN _ (st.nk p hp)) (hnp p hp)).2 (by rw[lB ru];exact ht)with h4|h4
     ·exact hiT (h.Cj _ h4)
     ·exact hpa h4
theorem VL{JZ:World→Prop}(h1:∀ w,Cs w→C w→JZ w)(h2:∀ w,JZ w→Cs w)(h:DW r P ops Q T JZ C s):DW r P ops Q T Cs C s :=
 fun fuel b_ pend a w zj hC st hq hf=>h fuel b_ pend a w (h1 w zj hC) hC st (fun p hp=>⟨(hq p hp).Cj,(hq p hp).q,(hq p hp).ns,fun o ho x hx=>(hq p hp).yields o ho x (h2 x hx)⟩) hf
theorem D_{i:Nat}{l:List Oper}{a:Act}{w:World}(hm:P.follows .mixedOrders=true)(zj:Cs w.drew)(hC:C w.drew)(h:DW r P l.toArray Q [] Cs C a):Wp r P (.region i l.toArray true) Q a w:=by
 refine wpIn_region_any hm (h _ _ [] a _ zj hC ?_ (by simp) ?_)
 ·constructor
  ·simp
  ·intro j hj
   have hj':j<l.length:=by simpa using hj
   simp[hj']
  ·simp
  ·intro j hj hl
   have hj':j<l.length:=by simpa using hj
   simp[hj']at hl
  ·simp
  ·simp
  ·rfl
  ·rfl
  ·intro t _;rfl
  ·simp
 ·unfold Jo
  exact aam List.countP_le_length (by simp)
end
end Go.Fw
end
