/- Ground for the claim TraceFaith. -/
import Derived.WalkKit
import Derived.RangeFuncLeaves
import Derived.TacticsIn
import Derived.OrdersIn
set_option linter.unusedVariables false
set_option linter.unusedSimpArgs false
section
namespace Go
abbrev di:=@Nat.le_of_ble_eq_true
abbrev aac:=@Nat.eq_of_beq_eq_true
abbrev aad:=@List.cons_append
abbrev aae:=@Array.getD_eq_getD_getElem?
abbrev aaf:=@List.getElem?_eq_none
abbrev aag:=@Array.getElem?_append
abbrev aah:=@Nat.le_refl
abbrev aai:=@Nat.le_trans
abbrev aaj:=@Nat.lt_of_lt_of_le
abbrev aak:=@Array.getElem?_eq_some_iff
abbrev aaz:=@List.getElem?_eq_some_iff
abbrev aaA:=@List.getElem?_set_ne
abbrev aaB:=@Bool.and_eq_true
abbrev aaC:=@Bool.not_eq_true'
abbrev aaD:=@List.contains_eq_mem
abbrev aaE:=@decide_eq_false_iff_not
abbrev aaF:=@Nat.zero_le
abbrev aaG:=@List.getElem?_take
abbrev aaH:=@List.getElem?_drop
abbrev aaI:=@Option.map_eq_some_iff
abbrev aaJ:=@if_pos
abbrev aaK:=@if_neg
abbrev aaL:=@Bool.false_ne_true
abbrev aaM:=@List.mapM_cons
abbrev aaN:=@List.all_eq_true
abbrev aaO:=@List.mem_range
abbrev aaP:=@Bool.or_eq_true
abbrev aaQ:=@Nat.beq_eq
abbrev aaR:=@List.mem_append
abbrev aaS:=@Option.bind_some
abbrev aaT:=@List.mem_filter
abbrev aaU:=@Option.map_some
abbrev aaV:=@Option.getD_some
abbrev aaW:=@List.mem_map
abbrev aaX:=@Array.getElem?_setIfInBounds
abbrev aaY:=@List.mem_cons
abbrev aaZ:=@List.mem_cons_of_mem
abbrev aa0:=@List.pairwise_iff_getElem
abbrev aa1:=@List.getElem_of_mem
abbrev aa2:=@Array.getElem?_eq_none
abbrev aa3:=@List.mem_cons_self
abbrev aa4:=@List.pairwise_cons
abbrev aa5:=@List.mem_flatMap
abbrev aa6:=@decide_eq_true_eq
abbrev aa7:=@List.set_cons_succ
abbrev aa8:=@Nat.zero_lt_one
abbrev aa9:=@List.getElem?_eq_getElem
abbrev aa_:=@List.mem_iff_getElem?
abbrev abb:=@List.mem_of_getElem?
abbrev abd:=@List.eq_nil_of_length_eq_zero
abbrev abe:=@of_decide_eq_true
abbrev abf:=@decide_eq_true
abbrev abg:=@decide_eq_false
abbrev abh:=@Array.getElem?_modify
abbrev abj:=@Nat.add_assoc
abbrev abk:=@List.getElem?_append_left
abbrev abl:=@List.getElem?_append_right
abbrev abm:=@Nat.mod_eq_of_lt
abbrev abn:=@List.range_succ
abbrev abo:=@List.map_append
abbrev abp:=@List.map_cons
abbrev abq:=@List.map_nil
abbrev abr:=@List.ext_getElem?
abbrev abt:=@List.take_append_drop
abbrev abu:=@List.drop_drop
abbrev abv:=@List.drop_of_length_le
abbrev abw:=@List.mem_append_left
abbrev abx:=@List.mem_append_right
abbrev aby:=@List.getElem?_map
abbrev abz:=@List.getElem_mem
abbrev abA:=@cond_true
abbrev abB:=@Bool.not_true
abbrev abC:=@cond_false
abbrev abD:=@Bool.not_false
abbrev abE:=@Int.toNat_natCast
abbrev abG:=@List.pairwise_append
abbrev abH:=@List.pairwise_singleton
abbrev abI:=@List.take_add_one
abbrev abJ:=@List.length_singleton
abbrev abK:=@List.length_drop
abbrev abL:=@List.ext_getElem
abbrev abM:=@List.length_map
abbrev abN:=@List.length_cons
abbrev abO:=@List.length_take
abbrev abP:=@Nat.mul_le_mul_left
abbrev abQ:=@Bool.false_eq_true
abbrev abR:=@Option.isSome_iff_exists
abbrev abS:=@List.length_replicate
abbrev abT:=@List.length_set
abbrev abU:=@Bool.not_eq_false'
abbrev abV:=@List.take_length
abbrev abW:=@List.mem_or_eq_of_mem_set
abbrev abX:=@List.nil_append
abbrev abY:=@Int.tdiv_eq_ediv_of_nonneg
abbrev abZ:=@Int.tmod_eq_emod_of_nonneg
abbrev ab0:=@Int.mul_le_mul_of_nonneg_right
abbrev ab1:=@List.getElem?_set
abbrev ab2:=@List.mem_iff_getElem
abbrev ab3:=@List.eq_of_mem_replicate
abbrev ab4:=@Nat.lt_irrefl
abbrev ab5:=@List.map_take
abbrev ab6:=@Nat.min_eq_left
abbrev ab7:=@Nat.le_succ
abbrev ab8:=@Nat.add_sub_cancel
abbrev ab9:=@List.mem_of_mem_take
abbrev ab_:=@Nat.add_zero
abbrev aca:=@List.size_toArray
abbrev acb:=@List.set_eq_take_append_cons_drop
abbrev acd:=@List.map_toArray
abbrev ace:=@Array.empty_append
abbrev acf:=@Array.append_empty
abbrev acg:=@List.append_toArray
abbrev ach:=@List.length_append
abbrev aci:=@Nat.add_mul
abbrev acj:=@Nat.zero_mul
abbrev ack:=@List.drop_zero
abbrev acm:=@List.take_append_of_le_length
abbrev acn:=@List.take_of_length_le
abbrev aco:=@List.drop_length_add_append
abbrev acp:=@Nat.not_lt_zero
abbrev acr:=@Nat.zero_add
abbrev acs:=@Nat.mul_le_mul_right
abbrev acu:=@List.length_nil
abbrev acv:=@List.drop_append_of_le_length
abbrev acw:=@Nat.add_right_comm
abbrev acx:=@List.forall_mem_cons
abbrev acy:=@List.not_mem_nil
abbrev acz:=@List.forall_mem_append
abbrev acA:=@List.range_eq_range'
abbrev acB:=@List.drop_eq_nil_of_le
abbrev acC:=@List.range'_succ
abbrev acD:=@List.drop_eq_getElem_cons
abbrev acE:=@List.foldl_cons
abbrev acF:=@List.take_succ_cons
abbrev acG:=@Bool.false_or
abbrev acH:=@Array.foldl_toList
abbrev acI:=@Array.toList_zipIdx
abbrev acJ:=@Nat.one_mul
abbrev acK:=@Array.toArray_toList
abbrev acL:=@Option.map_none
abbrev acM:=@Array.map_empty
abbrev acN:=@List.length_pos_iff
abbrev acO:=@Nat.mul_one
abbrev acP:=@List.take_left'
abbrev acQ:=@List.drop_left'
abbrev acR:=@List.getElem?_append
abbrev acS:=@Array.length_toList
abbrev acT:=@Option.bind_eq_some_iff
abbrev acU:=@Nat.lt_succ_self
abbrev acV:=@List.replicate_succ
abbrev acW:=@Array.toList_map
abbrev acX:=@Array.toList_range
abbrev acY:=@List.getElem?_range'
abbrev acZ:=@List.getElem?_replicate
abbrev ac0:=@Nat.le_of_eq
abbrev ac1:=@Option.bind_eq_bind
abbrev ac2:=@List.mem_singleton
abbrev ac3:=@List.mem_of_mem_drop
abbrev ac4:=@List.map_drop
abbrev ac5:=@List.map_map
abbrev ac6:=@Bool.not_eq_false
abbrev ac7:=@List.getElem?_cons_zero
abbrev ac8:=@List.map_congr_left
abbrev ac9:=@Nat.ne_of_lt
abbrev ac_:=@List.flatMap_append
abbrev ada:=@List.append_nil
abbrev adb:=@Array.toList_inj
abbrev ade:=@List.append_assoc
abbrev adf:=@List.modify_toArray
abbrev adg:=@Option.getD_none
abbrev adh:=@List.getElem?_zipWith
abbrev adi:=@List.foldl_nil
abbrev adj:=@List.getElem?_range
abbrev adk:=@Nat.blt_eq
abbrev adl:=@List.foldl_append
abbrev adn:=@List.getD_eq_getElem?_getD
abbrev ado:=@Nat.pow_le_pow_right
abbrev adp:=@Option.some.inj
abbrev adq:=@Option.some.injEq
theorem adr{A:Prop}(h:A:=by omega):A:=h
theorem ads{A:Prop}(h:A:=by kernel_rfl):A:=h
end Go
end
section
namespace Go.Fw
def look:List (Nat×Value)→Nat→Option Value
 | [],_=>none
 | (j,v)::r,i=>bif Nat.beq j i then some v else look r i
structure Fr(n:Nat)(F:List (Nat×Value))(a:Act)(dd:List Deferred:=[]):Prop where
 defers:a.defers=dd
 size:a.tmps.size=n
 get:∀ i v,look F i=some v→a.tmps[i]? = some v
theorem Fr.put{dd:List Deferred}{n F a d v}(h:Fr n F a dd)(hd:Nat.blt d n=true):Fr n ((d,v)::F) (a.put (some d) v) dd:=by
 have hd':d<n:=di hd
 refine⟨h.defers,by simp[Act.put,h.size],?_⟩
 intro i u hu
 simp only[look]at hu
 cases hb:Nat.beq d i with
 | true =>
  have:d=i:=aac hb
  subst this
  simp at hu
  subst hu
  simp[Act.put,h.size,hd']
 | false =>
  have hne:d≠i:=fun e=>by subst e;simp at hb
  simp[hb]at hu
  have:=h.get i u hu
  simp[Act.put,hne,this]
theorem Fr.weaken{dd:List Deferred}{n F G a}(h:Fr n F a dd)(hg:∀ i v,look G i=some v→look F i=some v):Fr n G a dd :=
 ⟨h.defers,h.size,fun i v e=>h.get i v (hg i v e)⟩
def q7(F:List (Nat×Value)):List Nat→List (Nat×Value)
 | []=>[]
 | k::ks=>match look F k with
  | some v=>(k,v)::q7 F ks
  | none=>q7 F ks
theorem Vw(F:List (Nat×Value))(ks:List Nat)(i:Nat)(v:Value)(h:look (q7 F ks) i=some v):look F i=some v:=by
 induction ks with
 | nil=>simp[q7,look]at h
 | cons k ks ih =>
  simp only[q7]at h
  split at h
  ·rename_i u hu
   simp only[look]at h
   cases hb:Nat.beq k i with
   | true =>
    have:k=i:=aac hb
    subst this
    simp at h
    subst h
    exact hu
   | false=>simp[hb]at h;exact ih h
  ·exact ih h
theorem zA(F G:List (Nat×Value))(i:Nat)(v:Value)(h:look (F++G) i=some v) :
  look F i=some v∨(look F i=none∧look G i=some v):=by
 induction F with
 | nil=>exact .inr ⟨rfl,h⟩
 | cons p F ih =>
  obtain⟨j,u⟩:=p
  simp only[aad,look]at h ⊢
  cases hb:Nat.beq j i with
  | true=>simp[hb]at h ⊢; exact h
  | false=>simp[hb]at h ⊢; exact ih h
theorem Fr.head{dd:List Deferred}{n F a}(h:Fr n F a dd)(G:List (Nat×Value))(ks:List Nat)
  (hG:∀ i v,look G i=some v→look F i=some v):Fr n (G++q7 F ks) a dd:=by
 refine h.weaken fun i v e=>?_
 rcases zA _ _ _ _ e with e|⟨_,e⟩
 ·exact hG i v e
 ·exact Vw _ _ _ _ e
def allIn(F:List (Nat×Value)):List (Nat×Value)→Prop
 | []=>True
 | (i,v)::r=>look F i=some v∧allIn F r
theorem qJ{F G:List (Nat×Value)}(h:allIn F G)(i:Nat)(v:Value)(e:look G i=some v):look F i=some v:=by
 induction G with
 | nil=>simp[look]at e
 | cons p G ih =>
  obtain⟨j,u⟩:=p
  simp only[look]at e
  cases hb:Nat.beq j i with
  | true =>
   have:j=i:=aac hb
   subst this
   simp at e
   subst e
   exact h.1
  | false=>simp[hb]at e;exact ih h.2 e
theorem Fr.to{dd:List Deferred}{n F a}(h:Fr n F a dd){G:List (Nat×Value)}(hG:allIn F G):Fr n G a dd:=h.weaken (qJ hG)
theorem Fr.again{dd:List Deferred}{n F F' a}(h:Fr n F' a dd){G:List (Nat×Value)}{ks:List Nat}(hG:allIn F' G)(hk:allIn F' (q7 F ks)):Fr n (G++q7 F ks) a dd:=by
 refine h.weaken fun i v e=>?_
 rcases zA _ _ _ _ e with e|⟨_,e⟩
 ·exact qJ hG i v e
 ·exact qJ hk i v e
def ev(F:List (Nat×Value)):Operand→Option Value
 | .tmp t=>look F t
 | .const v=>some v
 | .global g=>some (.pointer (some ⟨g,0,none⟩))
 | .func f=>some (.func (.func f) #[] #[])
theorem Fr.eval{dd:List Deferred}{n F a x v}(h:Fr n F a dd)(he:ev F x=some v):a.eval x=v:=by
 cases x with
 | tmp t =>
  have:=h.get t v he
  simp[Act.eval,aae,this]
 | const u=>simpa[ev,Act.eval]using he
 | global g=>simpa[ev,Act.eval]using he
 | func f=>simpa[ev,Act.eval]using he
def evs(F:List (Nat×Value)):List Operand→Option (List Value)
 | []=>some []
 | x::xs=>match ev F x with
  | some v=>match evs F xs with
   | some vs=>some (v::vs)
   | none=>none
  | none=>none
theorem Fr.evals{dd:List Deferred}{n F a}(h:Fr n F a dd){xs:List Operand}{vs:List Value}(he:evs F xs=some vs):xs.map a.eval=vs:=by
 induction xs generalizing vs with
 | nil=>simp[evs]at he;simp[he]
 | cons x xs ih =>
  simp only[evs]at he
  cases hx:ev F x with
  | none=>simp[hx]at he
  | some v =>
   cases hxs:evs F xs with
   | none=>simp[hx,hxs]at he
   | some us =>
    simp[hx,hxs]at he
    subst he
    simp[h.eval hx,ih hxs]
def yd(F:List (Nat×Value)):List (Nat×Operand)→Option (List (Nat×Value))
 | []=>some []
 | (i,x)::xs=>match ev F x with
  | some v=>match yd F xs with
   | some vs=>some ((i,v)::vs)
   | none=>none
  | none=>none
theorem Fr.evalps{dd:List Deferred}{n F a}(h:Fr n F a dd){xs:List (Nat×Operand)}{vs:List (Nat×Value)}(he:yd F xs=some vs) :
  xs.map (fun p=>(p.1,a.eval p.2))=vs:=by
 induction xs generalizing vs with
 | nil=>simp[yd]at he;simp[he]
 | cons p xs ih =>
  obtain⟨i,x⟩:=p
  simp only[yd]at he
  cases hx:ev F x with
  | none=>simp[hx]at he
  | some v =>
   cases hxs:yd F xs with
   | none=>simp[hx,hxs]at he
   | some us =>
    simp[hx,hxs]at he
    subst he
    simp[h.eval hx,ih hxs]
theorem Fr.yield{dd:List Deferred}{n F a}(h:Fr n F a dd){ops:Array Oper}{j t:Nat}{b:Bool}(hj:(ops[j]?).bind (·.dst)=some t)(hb:look F t=some (.bool b)) :
  yielded ops a.tmps j=some b:=by
 have:=h.get t _ hb
 simp[yielded,hj,this]
def idx:Nat→List Value→List (Nat×Value)
 | _,[]=>[]
 | i,v::vs=>(i,v)::idx (i+1) vs
theorem XL(vs:List Value):∀ (s i:Nat) (v:Value),look (idx s vs) i=some v→s≤i∧vs[i-s]? = some v:=by
 induction vs with
 | nil=>intro s i v h;simp[idx,look]at h
 | cons u vs ih =>
  intro s i v h
  simp only[idx,look]at h
  cases hb:Nat.beq s i with
  | true =>
   have:s=i:=aac hb
   subst this
   simp at h
   simp[h]
  | false =>
   simp[hb]at h
   obtain⟨h1,h2⟩:=ih _ _ _ h
   refine⟨adr,?_⟩
   rw[show i-s=(i-(s+1))+1 by omega]
   simpa using h2
theorem Fr.enter(vs:List Value)(n:Nat)(hn:Nat.ble vs.length n=true) :
  Fr n (idx 0 vs) { tmps:=vs.toArray++Array.replicate (n-vs.toArray.size) undef,defers:=[] }:=by
 have hn':vs.length≤n:=di hn
 refine⟨rfl,by simp;omega,?_⟩
 intro i v h
 obtain⟨_,h2⟩:=XL vs 0 i v h
 have hi:i<vs.length:=by
  rcases Nat.lt_or_ge i vs.length with h' | h'
  ·exact h'
  ·simp[aaf h']at h2
 simp only[Nat.sub_zero]at h2
 simpa[aag,hi]using h2
structure Same(lo:Nat)(S:List Nat)(w1 w:World):Prop where
 size:w1.heap.size≤w.heap.size
 block:∀ k,lo≤k→k<w1.heap.size→k∉S→w.heap[k]? = w1.heap[k]?
structure Io(w1 w:World):Prop where
 os:w.os=w1.os
 tape:w.tape=w1.tape
 output:w.output=w1.output
theorem Io.refl(w:World):Io w w:=⟨rfl,rfl,rfl⟩
theorem Io.trans{a b c:World}(h:Io a b)(k:Io b c):Io a c:=⟨k.os.trans h.os,k.tape.trans h.tape,k.output.trans h.output⟩
structure gw(S:List Nat)(w w':World):Prop where
 io:Io w w'
 size:w.heap.size≤w'.heap.size
 block:∀ k,k<w.heap.size→k∉S→w'.heap[k]? = w.heap[k]?
theorem gw.refl(w:World):gw [] w w:=⟨Io.refl w,aah _,fun _ _ _=>rfl⟩
theorem gw.trans{S}{a b c:World}(h:gw S a b)(k:gw S b c):gw S a c :=
 ⟨h.io.trans k.io,aai h.size k.size,fun i hi hs=>(k.block i (aaj hi h.size) hs).trans (h.block i hi hs)⟩
inductive dw where
 | obj (b:Nat) (o:Obj)
 | same (w1:World) (lo:Nat) (S:List Nat)
 | io (w1:World)
 | row (lo:Nat) (v:Value) (e sz n:Nat) (xs:List Value)
 | gen (f:Nat→Prop) (Q:World→Prop)
abbrev pt(b:Nat)(cs:List Value)(T:TypeId):dw:=.obj b (.cells cs.toArray T (0,0))
def dw.fp:dw→Nat→Prop
 | .obj b _,k=>k=b
 | .same w1 lo S,k=>lo≤k∧k<w1.heap.size∧k∉S
 | .io _,_=>False
 | .row _ v _ _ _ _,k=>v.ownBlock=some k
 | .gen f _,k=>f k
def dw.holds(w:World):dw→Prop
 | .obj b o=>w.heap[b]? = some o
 | .same w1 lo S=>Same lo S w1 w
 | .io w1=>Io w1 w
 | .row lo v e sz n xs=>w.ownsRow lo e sz v n xs
 | .gen f Q=>(∀ k,f k→k<w.heap.size) ∧ ∀ w',Io w w' → w.heap.size≤w'.heap.size→(∀ k,f k→w'.heap[k]? = w.heap[k]?)→Q w'
abbrev dw.holds'(r:dw)(w:World):Prop:=r.holds w
structure au(w:World)(L:List dw):Prop where
 hold:∀ (i:Nat) (r:dw),L[i]? = some r→r.holds w
 apart:∀ (i j:Nat) (r s:dw),L[i]? = some r→L[j]? = some s→i≠j → ∀ k,r.fp k → ¬ s.fp k
theorem dw.fp_lt{w:World}{r:dw}(h:r.holds w){k:Nat}(hk:r.fp k):k<w.heap.size:=by
 cases r with
 | obj b o =>
  simp only[dw.fp]at hk;subst hk
  exact(aak.1 h).1
 | same w1 lo S=>exact aaj hk.2.1 h.size
 | io w1=>exact hk.elim
 | row lo v e sz n xs=>exact(World.ownsRow.lt h k hk).2
 | gen f Q=>exact h.1 k hk
theorem dw.keep{w w':World}{r:dw}(h:r.holds w)(Ez:Io w w')(hs:w.heap.size≤w'.heap.size)
  (hk:∀ k,r.fp k→w'.heap[k]? = w.heap[k]?):r.holds w':=by
 cases r with
 | obj b o=>exact(hk b rfl).trans h
 | same w1 lo S=>exact⟨aai h.size hs,fun k h1 h2 h3=>(hk k ⟨h1,h2,h3⟩).trans (h.block k h1 h2 h3)⟩
 | io w1=>exact Io.trans h Ez
 | row lo v e sz n xs =>
  obtain⟨h1,h2⟩:=h
  refine⟨h1,?_⟩
  rcases h2 with h2|⟨g,cap,cur,hv,hg,hh,r⟩
  ·exact .inl h2
  ·refine .inr ⟨g,cap,cur,hv,hg,?_,r⟩
   rw[hk g (by simp[dw.fp,hv,Value.ownBlock]),hh]
 | gen f Q=>exact⟨fun k h1=>aaj (h.1 k h1) hs,fun w2 i2 s2 k2=>h.2 w2 (Ez.trans i2) (aai hs s2) fun k h1=>(k2 k h1).trans (hk k h1)⟩
section
variable {w w':World}{L:List dw}
theorem au.keep(h:au w L)(k:gw [] w w'):au w' L :=
 ⟨fun i r hi=>dw.keep (h.hold i r hi) k.io k.size fun j hj=>k.block j (dw.fp_lt (h.hold i r hi) hj) (by simp),h.apart⟩
theorem au.add(h:au w L)(k:gw [] w w'){r:dw}(hr:r.holds w')(hf:∀ j,r.fp j→w.heap.size≤j):au w' (r::L):=by
 have hk:=h.keep k
 constructor
 ·intro i s hi
  cases i with
  | zero=>simp at hi;subst hi;exact hr
  | succ i=>simp at hi;exact hk.hold i s hi
 ·intro i j s t hi hj hij k' hs ht
  cases i with
  | zero =>
   cases j with
   | zero=>exact hij rfl
   | succ j =>
    simp at hi hj;subst hi
    have h1:=hf k' hs
    have h2:=dw.fp_lt (h.hold j t hj) ht
    omega
  | succ i =>
   cases j with
   | zero =>
    simp at hi hj;subst hj
    have h1:=hf k' ht
    have h2:=dw.fp_lt (h.hold i s hi) hs
    omega
   | succ j =>
    simp at hi hj
    exact h.apart i j s t hi hj adr k' hs ht
theorem au.upd(h:au w L)(i:Nat){r r':dw}(hi:L[i]? = some r)(Ez:Io w w')(hs:w.heap.size≤w'.heap.size)
  (hk:∀ k,k<w.heap.size → ¬ r.fp k→w'.heap[k]? = w.heap[k]?) (hr:r'.holds w') (hf:∀ k,r'.fp k→r.fp k∨w.heap.size≤k):au w' (L.set i r'):=by
 have hlt:i<L.length:=(aaz.1 hi).1
 constructor
 ·intro j s hj
  by_cases hij:i=j
  ·subst hij
   simp[hlt]at hj
   subst hj
   exact hr
  ·rw[aaA hij]at hj
   exact dw.keep (h.hold j s hj) Ez hs fun k FQ=>hk k (dw.fp_lt (h.hold j s hj) FQ) fun hrk=>h.apart i j r s hi hj hij k hrk FQ
 ·intro a b s t ha hb hab k hs' ht'
  by_cases hia:i=a
  ·subst hia
   simp[hlt]at ha
   subst ha
   rw[aaA hab]at hb
   rcases hf k hs' with h1|h1
   ·exact h.apart i b r t hi hb hab k h1 ht'
   ·have:=dw.fp_lt (h.hold b t hb) ht'; omega
  ·rw[aaA hia]at ha
   by_cases hib:i=b
   ·subst hib
    simp[hlt]at hb
    subst hb
    rcases hf k ht' with h1|h1
    ·exact h.apart a i s r ha hi hab k hs' h1
    ·have:=dw.fp_lt (h.hold a s ha) hs'; omega
   ·rw[aaA hib]at hb
    exact h.apart a b s t ha hb hab k hs' ht'
def Ap(L:List dw):List Nat→List dw
 | []=>[]
 | i::is=>match L[i]? with
  | some r=>r::Ap L is
  | none=>Ap L is
def od:List Nat→Bool
 | []=>true
 | i::is=>!is.contains i&&od is
theorem wW(L:List dw):∀ (is:List Nat) (j:Nat) (r:dw),(Ap L is)[j]? = some r → ∃ i∈is,L[i]? = some r:=by
 intro is
 induction is with
 | nil=>intro j r h;simp[Ap]at h
 | cons i is ih =>
  intro j r h
  simp only[Ap]at h
  split at h
  ·rename_i s hs
   cases j with
   | zero=>simp at h;subst h;exact⟨i,by simp,hs⟩
   | succ j=>simp at h;obtain⟨k,hk,e⟩:=ih j r h;exact⟨k,by simp[hk],e⟩
  ·obtain⟨k,hk,e⟩:=ih j r h;exact⟨k,by simp[hk],e⟩
theorem au.Ap(h:au w L)(is:List Nat)(hn:od is=true):au w (Ap L is):=by
 constructor
 ·intro j r hj
  obtain⟨i,_,e⟩:=wW L is j r hj
  exact h.hold i r e
 ·induction is with
  | nil=>intro i j r s hi;simp[Fw.Ap]at hi
  | cons i is ih =>
   simp only[od,aaB,aaC,aaD,aaE]at hn
   intro a b r s ha hb hab k hr hs
   simp only[Fw.Ap]at ha hb
   split at ha
   ·rename_i t ht
    rw[ht]at hb
    cases a with
    | zero =>
     cases b with
     | zero=>exact hab rfl
     | succ b =>
      simp at ha hb;subst ha
      obtain⟨m,hm,e⟩:=wW L is b s hb
      exact h.apart i m t s ht e (fun x=>hn.1 (x ▸ hm)) k hr hs
    | succ a =>
     cases b with
     | zero =>
      simp at ha hb;subst hb
      obtain⟨m,hm,e⟩:=wW L is a r ha
      exact h.apart m i r t e ht (fun x=>hn.1 (x ▸ hm)) k hr hs
     | succ b=>simp at ha hb;exact ih hn.2 a b r s ha hb adr k hr hs
   ·rename_i hnone
    rw[hnone]at hb
    exact ih hn.2 a b r s ha hb hab k hr hs
theorem au.obj(h:au w L){i b:Nat}{o:Obj}(hi:L[i]? = some (.obj b o)):w.heap[b]? = some o:=h.hold i _ hi
theorem au.same(h:au w L){i:Nat}{w1:World}{lo:Nat}{S:List Nat}(hi:L[i]? = some (.same w1 lo S)):Same lo S w1 w:=h.hold i _ hi
theorem au.io(h:au w L){i:Nat}{w1:World}(hi:L[i]? = some (.io w1)):Io w1 w:=h.hold i _ hi
theorem au.row(h:au w L){i lo e sz n:Nat}{v:Value}{xs:List Value}(hi:L[i]? = some (.row lo v e sz n xs)):w.ownsRow lo e sz v n xs:=h.hold i _ hi
theorem au.gen(h:au w L){i:Nat}{f:Nat→Prop}{Q:World→Prop}(hi:L[i]? = some (.gen f Q)):Q w :=
 (h.hold i _ hi).2 w (Io.refl w) (aah _) fun _ _=>rfl
theorem au.freeze{r:dw}(h:au w (r::L)):au w (.gen r.fp r.holds' :: L):=by
 have h0:=h.hold 0 r rfl
 constructor
 ·intro i s hi
  cases i with
  | zero =>
   simp at hi;subst hi
   exact⟨fun k hk=>dw.fp_lt h0 hk,fun w' i' s' k'=>dw.keep h0 i' s' k'⟩
  | succ i=>exact h.hold (i+1) s (by simpa using hi)
 ·intro i j s t hi hj hij k hs ht
  cases i with
  | zero =>
   cases j with
   | zero=>exact hij rfl
   | succ j=>simp at hi;subst hi;exact h.apart 0 (j+1) r t rfl (by simpa using hj) hij k hs ht
  | succ i =>
   cases j with
   | zero=>simp at hj;subst hj;exact h.apart (i+1) 0 s r (by simpa using hi) rfl hij k hs ht
   | succ j=>exact h.apart (i+1) (j+1) s t (by simpa using hi) (by simpa using hj) hij k hs ht
theorem au.both{r s:dw}(h:au w (r::s::L)):au w (.gen (fun k=>r.fp k∨s.fp k) (fun w=>r.holds' w∧s.holds' w)::L):=by
 have h0:=h.hold 0 r rfl
 have h1:=h.hold 1 s rfl
 constructor
 ·intro i t hi
  cases i with
  | zero =>
   simp at hi;subst hi
   exact⟨fun k hk=>hk.elim (dw.fp_lt h0) (dw.fp_lt h1),fun w' i' s' k'=>⟨dw.keep h0 i' s' fun k hk=>k' k (.inl hk),dw.keep h1 i' s' fun k hk=>k' k (.inr hk)⟩⟩
  | succ i=>exact h.hold (i+2) t (by simpa using hi)
 ·have key:∀ (i:Nat) (t:dw),L[i]? = some t → ∀ k,(r.fp k∨s.fp k) → ¬ t.fp k:=fun i t hi k hk ht=>hk.elim (fun hk=>h.apart 0 (i+2) r t rfl (by simpa using hi) adr k hk ht) fun hk=>h.apart 1 (i+2) s t rfl (by simpa using hi) adr k hk ht
  intro i j a b hi hj hij k ha hb
  cases i with
  | zero =>
   cases j with
   | zero=>exact hij rfl
   | succ j=>simp at hi;subst hi;exact key j b (by simpa using hj) k ha hb
  | succ i =>
   cases j with
   | zero=>simp at hj;subst hj;exact key i a (by simpa using hi) k hb ha
   | succ j=>exact h.apart (i+2) (j+2) a b (by simpa using hi) (by simpa using hj) adr k ha hb
theorem au.void(h:au w L){Q:World→Prop}(hq:∀ w,Q w):au w (.gen (fun _=>False) Q::L) :=
 h.add (gw.refl w) ⟨fun _ hk=>hk.elim,fun w' _ _ _=>hq w'⟩ fun _ hk=>hk.elim
theorem au.start(w:World):au w [.same w 0 [],.io w]:=by
 constructor
 ·intro i r hi
  match i,hi with
  | 0,hi=>simp at hi;subst hi;exact⟨aah _,fun _ _ _ _=>rfl⟩
  | 1,hi=>simp at hi;subst hi;exact Io.refl w
 ·intro i j r s hi hj hij k hr hs
  match i,j,hi,hj with
  | 0,0,_,_=>exact hij rfl
  | 0,1,hi,hj=>simp at hj;subst hj;exact hs
  | 1,0,hi,hj=>simp at hi;subst hi;exact hr
  | 1,1,_,_=>exact hij rfl
theorem au.keeps{w0:World}{S:List Nat}(h:au w L){i j:Nat}(hi:L[i]? = some (.same w0 0 S))(hj:L[j]? = some (.io w0)):gw S w0 w :=
 ⟨h.io hj,(h.same hi).size,fun k hk hs=>(h.same hi).block k (aaF _) hk hs⟩
end
end Go.Fw
end
section
namespace Go.Fw
open Go.RowKit
structure SV where
 a:Option Addr
 len:Nat
 cap:Nat
deriving DecidableEq
abbrev SV.v(s:SV):Value:=.slice s.a s.len s.cap
abbrev SV.nil:SV:=⟨none,0,0⟩
def jj(w:World)(b off:Nat)(vs:List Value):Prop:=∀ j v,vs[j]? = some v→w.cell? ⟨b,off+j,none⟩=some v
def cut{α:Type}(l:List α)(off n:Nat):List α:=(l.drop off).take n
theorem oC{α:Type}(l:List α)(off n j:Nat)(v:α)(h:(cut l off n)[j]? = some v):j<n∧l[off+j]? = some v:=by
 unfold cut at h
 rw[aaG]at h
 split at h
 ·exact⟨by assumption,by rw[aaH]at h;exact h⟩
 ·cases h
theorem Gs{w:World}{b off:Nat}{cs:List Value}{T:TypeId}{fz:Nat×Nat}{v:Value}(hb:w.heap[b]? = some (.cells cs.toArray T fz))(h:cs[off]? = some v) :
  w.cell? ⟨b,off,none⟩=some v:=by
 simp[World.cell?,hb,h]
theorem oW{w:World}{b off n:Nat}{cs vs:List Value}{T:TypeId}{fz:Nat×Nat}(hb:w.heap[b]? = some (.cells cs.toArray T fz))(h:cut cs off n=vs):jj w b off vs:=by
 intro j v hv
 subst h
 exact Gs hb (oC _ _ _ _ _ hv).2
section
variable {L:List dw}{w:World}
theorem au.cell(h:au w L){i b off:Nat}{cs:List Value}{T:TypeId}{v:Value}(hi:L[i]? = some (pt b cs T))(hv:cs[off]? = some v) :
  w.cell? ⟨b,off,none⟩=some v:=Gs (h.obj hi) hv
theorem au.cells(h:au w L){i b off n:Nat}{cs vs:List Value}{T:TypeId}(hi:L[i]? = some (pt b cs T))(hv:cut cs off n=vs):jj w b off vs:=oW (h.obj hi) hv
theorem Same.cell{lo:Nat}{S:List Nat}{w1:World}(h:Same lo S w1 w){a:Addr}{v:Value}(hc:w1.cell? a=some v)(hlo:lo≤a.block)(hS:a.block∉S):w.cell? a=some v:=by
 have hlt:a.block<w1.heap.size:=World.block_lt_of_cell? w1 a hc
 rw[World.cell?_of_block (h.block a.block hlo hlt hS)]
 exact hc
theorem Same.cells{lo:Nat}{S:List Nat}{w1:World}(h:Same lo S w1 w){b off:Nat}{vs:List Value}(hc:jj w1 b off vs)(hlo:lo≤b)(hS:b∉S):jj w b off vs :=
 fun j v hv=>h.cell (hc j v hv) hlo hS
end
section
variable {P:Program}{n:Nat}{F:List (Nat×Value)}{a:Act}{dd:List Deferred}{w:World}{o:Oper}
theorem aE{x:Operand}{v:Value}(hF:Fr n F a dd)(ho:o.op = .move x)(hx:ev F x=some v):(execOp a.eval o).run P w = .ok (.value v) w:=by
 simp[execOp,ho,hF.eval hx]
theorem aI{x:Operand}{v:Value}(hF:Fr n F a dd)(ho:o.op = .assign x)(hx:ev F x=some v):(execOp a.eval o).run P w = .ok (.value v) w:=by
 simp[execOp,ho,hF.eval hx]
theorem bR{c x y:Operand}{b:Bool}{v:Value}(hF:Fr n F a dd)(ho:o.op = .pick c x y)(hc:ev F c=some (.bool b))(hb:b=true)(hx:ev F x=some v):(execOp a.eval o).run P w = .ok (.value v) w:=by
 simp[execOp,ho,hF.eval hc,hF.eval hx,hb,asBool]
theorem bW{c x y:Operand}{b:Bool}{v:Value}(hF:Fr n F a dd)(ho:o.op = .pick c x y)(hc:ev F c=some (.bool b))(hb:b=false)(hx:ev F y=some v):(execOp a.eval o).run P w = .ok (.value v) w:=by
 simp[execOp,ho,hF.eval hc,hF.eval hx,hb,asBool]
theorem nN{x:Int}(h : -9223372036854775808≤x∧x≤9223372036854775807):IntKind.i64.wrap x=x:=IntWalk.i64_in x h
theorem dG{t yt:TypeId}{x y:Operand}{k:IntKind}{i j:Int}(hF:Fr n F a dd)(ho:o.op = .binOp .add t x y yt)(hx:ev F x=some (.int k i))(hy:ev F y=some (.int k j)) :
  (execOp a.eval o).run P w = .ok (.value (.int k (k.wrap (i+j)))) w:=by
 simp[execOp,ho,hF.eval hx,hF.eval hy,eqGuard,binOp,Op.intArith]
theorem jI{t yt:TypeId}{x y:Operand}{k:IntKind}{i j:Int}(hF:Fr n F a dd)(ho:o.op = .binOp .sub t x y yt)(hx:ev F x=some (.int k i))(hy:ev F y=some (.int k j)) :
  (execOp a.eval o).run P w = .ok (.value (.int k (k.wrap (i-j)))) w:=by
 simp[execOp,ho,hF.eval hx,hF.eval hy,eqGuard,binOp,Op.intArith]
theorem VY{t yt:TypeId}{x y:Operand}{k:IntKind}{i j:Int}(hF:Fr n F a dd)(ho:o.op = .binOp .mul t x y yt)(hx:ev F x=some (.int k i))(hy:ev F y=some (.int k j)) :
  (execOp a.eval o).run P w = .ok (.value (.int k (k.wrap (i*j)))) w:=by
 simp[execOp,ho,hF.eval hx,hF.eval hy,eqGuard,binOp,Op.intArith]
theorem eL{t yt:TypeId}{x y:Operand}{k:IntKind}{i j:Int}(hF:Fr n F a dd)(ho:o.op = .binOp .lss t x y yt)(hx:ev F x=some (.int k i))(hy:ev F y=some (.int k j)) :
  (execOp a.eval o).run P w = .ok (.value (.bool (decide (i<j)))) w:=by
 simp[execOp,ho,hF.eval hx,hF.eval hy,eqGuard,binOp,Op.intCmp]
theorem Jx{t yt:TypeId}{x y:Operand}{k:IntKind}{i j:Int}(hF:Fr n F a dd)(ho:o.op = .binOp .leq t x y yt)(hx:ev F x=some (.int k i))(hy:ev F y=some (.int k j)) :
  (execOp a.eval o).run P w = .ok (.value (.bool (decide (i≤j)))) w:=by
 simp[execOp,ho,hF.eval hx,hF.eval hy,eqGuard,binOp,Op.intCmp]
theorem jQ{t yt:TypeId}{x y:Operand}{k:IntKind}{i j:Int}(hF:Fr n F a dd)(ho:o.op = .binOp .gtr t x y yt)(hx:ev F x=some (.int k i))(hy:ev F y=some (.int k j)) :
  (execOp a.eval o).run P w = .ok (.value (.bool (decide (j<i)))) w:=by
 simp[execOp,ho,hF.eval hx,hF.eval hy,eqGuard,binOp,Op.intCmp]
theorem WG{t yt:TypeId}{x y:Operand}{k:IntKind}{i j:Int}(hF:Fr n F a dd)(ho:o.op = .binOp .geq t x y yt)(hx:ev F x=some (.int k i))(hy:ev F y=some (.int k j)) :
  (execOp a.eval o).run P w = .ok (.value (.bool (decide (j≤i)))) w:=by
 simp[execOp,ho,hF.eval hx,hF.eval hy,eqGuard,binOp,Op.intCmp]
theorem eF{t yt:TypeId}{x y:Operand}{k:IntKind}{i j:Int}(hF:Fr n F a dd)(ho:o.op = .binOp .eql t x y yt)(hx:ev F x=some (.int k i))(hy:ev F y=some (.int k j)) :
  (execOp a.eval o).run P w = .ok (.value (.bool (decide (i=j)))) w:=by
 simp[execOp,ho,hF.eval hx,hF.eval hy,eqGuard,binOp,Op.intCmp]
 rfl
theorem fW{t yt:TypeId}{x y:Operand}{k:IntKind}{i j:Int}(hF:Fr n F a dd)(ho:o.op = .binOp .neq t x y yt)(hx:ev F x=some (.int k i))(hy:ev F y=some (.int k j)) :
  (execOp a.eval o).run P w = .ok (.value (.bool (!decide (i=j)))) w:=by
 simp[execOp,ho,hF.eval hx,hF.eval hy,eqGuard,binOp,Op.intCmp]
 rfl
theorem run_equalIn_bool(d:Nat){t:TypeId}{i j:Bool}(hu:P.underlying t=some .bool):(Op.equalIn (d+1) t (.bool i) (.bool j)).run P w = .ok (decide (i=j)) w:=by
 simp[Op.equalIn,run_underlying hu]
 cases i<;>cases j<;>rfl
theorem run_equal_bool{t:TypeId}{i j:Bool}(hu:P.underlying t=some .bool):(Op.equal t (.bool i) (.bool j)).run P w = .ok (decide (i=j)) w :=
 run_equalIn_bool 9999 hu
theorem Si{t yt:TypeId}{x y:Operand}{i j:Bool}(hu:P.underlying t=some .bool)(hF:Fr n F a dd)(ho:o.op = .binOp .eql t x y yt)(hx:ev F x=some (.bool i))(hy:ev F y=some (.bool j)) :
  (execOp a.eval o).run P w = .ok (.value (.bool (decide (i=j)))) w:=by
 simp only[execOp,ho,hF.eval hx,hF.eval hy,eqGuard,binOp]
 simp[run_equal_bool hu]
theorem ZB{t yt:TypeId}{x y:Operand}{i j:ByteArray}(hF:Fr n F a dd)(ho:o.op = .binOp .eql t x y yt)(hx:ev F x=some (.string i))(hy:ev F y=some (.string j)) :
  (execOp a.eval o).run P w = .ok (.value (.bool (i.toList==j.toList))) w:=by
 simp only[execOp,ho,hF.eval hx,hF.eval hy,eqGuard,binOp,Op.stringOp]
 rfl
theorem sM{t yt:TypeId}{x y:Operand}{k:IntKind}{i j:Int}(hF:Fr n F a dd)(ho:o.op = .binOp .quo t x y yt)(hx:ev F x=some (.int k i))(hy:ev F y=some (.int k j))(hj:j≠0) :
  (execOp a.eval o).run P w = .ok (.value (.int k (k.wrap (i.tdiv j)))) w:=by
 simp[execOp,ho,hF.eval hx,hF.eval hy,eqGuard,binOp,Op.intDiv,hj]
theorem mQ{t yt:TypeId}{x y:Operand}{k:IntKind}{i j:Int}(hF:Fr n F a dd)(ho:o.op = .binOp .rem t x y yt)(hx:ev F x=some (.int k i))(hy:ev F y=some (.int k j))(hj:j≠0) :
  (execOp a.eval o).run P w = .ok (.value (.int k (i.tmod j))) w:=by
 simp[execOp,ho,hF.eval hx,hF.eval hy,eqGuard,binOp,Op.intDiv,hj]
def i_(k:IntKind)(x y:Int):Int:=k.wrap ((BitVec.ofInt k.bits x &&& BitVec.ofInt k.bits y).toNat:Int)
def v8(k:IntKind)(x y:Int):Int:=k.wrap ((BitVec.ofInt k.bits x ||| BitVec.ofInt k.bits y).toNat:Int)
def ua(k:IntKind)(x y:Int):Int:=k.wrap ((BitVec.ofInt k.bits x ^^^ BitVec.ofInt k.bits y).toNat:Int)
def uo(k:IntKind)(x y:Int):Int:=k.wrap ((BitVec.ofInt k.bits x &&& ~~~ BitVec.ofInt k.bits y).toNat:Int)
def shl(k:IntKind)(x:Int)(y:Nat):Int:=k.wrap (x*2^min y k.bits)
def shr(k:IntKind)(x:Int)(y:Nat):Int:=x.fdiv (2^min y k.bits)
theorem VX{t yt:TypeId}{x y:Operand}{k:IntKind}{i j:Int}(hF:Fr n F a dd)(ho:o.op = .binOp .and t x y yt)(hx:ev F x=some (.int k i))(hy:ev F y=some (.int k j)) :
  (execOp a.eval o).run P w = .ok (.value (.int k (i_ k i j))) w:=by
 simp[execOp,ho,hF.eval hx,hF.eval hy,eqGuard,binOp,Op.intBits,i_]
theorem zS{t yt:TypeId}{x y:Operand}{k:IntKind}{i j:Int}(hF:Fr n F a dd)(ho:o.op = .binOp .or t x y yt)(hx:ev F x=some (.int k i))(hy:ev F y=some (.int k j)) :
  (execOp a.eval o).run P w = .ok (.value (.int k (v8 k i j))) w:=by
 simp[execOp,ho,hF.eval hx,hF.eval hy,eqGuard,binOp,Op.intBits,v8]
theorem EK{t yt:TypeId}{x y:Operand}{k:IntKind}{i j:Int}(hF:Fr n F a dd)(ho:o.op = .binOp .xor t x y yt)(hx:ev F x=some (.int k i))(hy:ev F y=some (.int k j)) :
  (execOp a.eval o).run P w = .ok (.value (.int k (ua k i j))) w:=by
 simp[execOp,ho,hF.eval hx,hF.eval hy,eqGuard,binOp,Op.intBits,ua]
theorem X4{t yt:TypeId}{x y:Operand}{k:IntKind}{i j:Int}(hF:Fr n F a dd)(ho:o.op = .binOp .andNot t x y yt)(hx:ev F x=some (.int k i))(hy:ev F y=some (.int k j)) :
  (execOp a.eval o).run P w = .ok (.value (.int k (uo k i j))) w:=by
 simp[execOp,ho,hF.eval hx,hF.eval hy,eqGuard,binOp,Op.intBits,uo]
theorem nV{t yt:TypeId}{x y:Operand}{k k':IntKind}{i j:Int}(hF:Fr n F a dd)(ho:o.op = .binOp .shl t x y yt)(hx:ev F x=some (.int k i))(hy:ev F y=some (.int k' j))(hj:0≤j) :
  (execOp a.eval o).run P w = .ok (.value (.int k (shl k i j.toNat))) w:=by
 have hj':¬ j<0:=adr
 simp[execOp,ho,hF.eval hx,hF.eval hy,eqGuard,binOp,Op.shift,shl,hj']
theorem iV{t yt:TypeId}{x y:Operand}{k k':IntKind}{i j:Int}(hF:Fr n F a dd)(ho:o.op = .binOp .shr t x y yt)(hx:ev F x=some (.int k i))(hy:ev F y=some (.int k' j))(hj:0≤j) :
  (execOp a.eval o).run P w = .ok (.value (.int k (shr k i j.toNat))) w:=by
 have hj':¬ j<0:=adr
 simp[execOp,ho,hF.eval hx,hF.eval hy,eqGuard,binOp,Op.shift,shr,hj']
theorem hY{t:TypeId}{x:Operand}{b:Bool}(hF:Fr n F a dd)(ho:o.op = .unOp .not t x)(hx:ev F x=some (.bool b)):(execOp a.eval o).run P w = .ok (.value (.bool (!b))) w:=by
 simp[execOp,ho,hF.eval hx,Op.unary]
theorem Tn{t:TypeId}{x:Operand}{k:IntKind}{i:Int}(hF:Fr n F a dd)(ho:o.op = .unOp .neg t x)(hx:ev F x=some (.int k i)):(execOp a.eval o).run P w = .ok (.value (.int k (k.wrap (0-i)))) w:=by
 simp[execOp,ho,hF.eval hx,Op.unary,Op.intArith]
theorem GG{s d:TypeId}{x:Operand}{ds:TypeDesc}{k k':IntKind}{i:Int}(hs:P.underlying s=some ds)(hd:P.underlying d=some (.int k'))(hF:Fr n F a dd)(ho:o.op = .convert s d x)(hx:ev F x=some (.int k i)) :
  (execOp a.eval o).run P w = .ok (.value (.int k' (k'.wrap i))) w:=by
 simp[execOp,ho,hF.eval hx,convert,run_underlying hs,run_underlying hd,Conv.intToInt]
theorem ZW{t e:TypeId}{x:Operand}{s:SV}(ht:P.underlying t=some (.slice e))(hF:Fr n F a dd)(ho:o.op = .call { callee:=.builtin .len,args:=#[x],argTypes:=#[t] })(hx:ev F x=some s.v) :
  (execOp a.eval o).run P w = .ok (.value (.int .i64 s.len)) w:=by
 simp[execOp,ho,resolve,invoke,builtin,Builtin.len_,hF.eval hx,run_underlying ht,goInt]
theorem iO{x:Operand}{i:Nat}{vs:List Value}{v:Value}(hF:Fr n F a dd)(ho:o.op = .extract x i)(hx:ev F x=some (.tuple vs.toArray))(hv:vs[i]? = some v) :
  (execOp a.eval o).run P w = .ok (.value v) w:=by
 simp[execOp,ho,hF.eval hx,Instr.extract,hv]
theorem jH{fn:Fn}{fs cs:List Operand}{us vs:List Value}(hF:Fr n F a dd)(ho:o.op = .makeFunc fn fs.toArray cs.toArray)(hf:evs F fs=some us)(hc:evs F cs=some vs) :
  (execOp a.eval o).run P w = .ok (.value (.func fn us.toArray vs.toArray)) w:=by
 simp[execOp,ho,Instr.makeFunc,hF.evals hf,hF.evals hc]
theorem aZ{x:Operand}{ad:Addr}(hF:Fr n F a dd)(ho:o.op = .nilCheck x)(hx:ev F x=some (.pointer (some ad))) :
  (execOp a.eval o).run P w = .ok (.value (.pointer (some ad))) w:=by
 simp[execOp,ho,hF.eval hx]
theorem dY(b off m:Nat):(⟨b,off,none⟩ : Addr).add m=⟨b,off+m,none⟩:=by unfold Addr.add;split<;>simp_all
theorem aC{t ft:TypeId}{x:Operand}{i b off off' fo:Nat}{fs:Array Field}{ti:TypeInfo}(ht:P.underlying t=some (.struct fs))(hf:(fs[i]?).map (fun f=>(f.offset,f.type))=some (fo,ft))(hi:P.info? ft=some ti)(hz:Nat.beq ti.size 0=false)
  (hF:Fr n F a dd) (ho:o.op = .fieldAddr t x i) (hx:ev F x=some (.pointer (some ⟨b,off,none⟩))) (hoff:off+fo=off') :
  (execOp a.eval o).run P w = .ok (.value (.pointer (some ⟨b,off',none⟩))) w:=by
 have yN:ti.size≠0:=fun e=>by rw[e]at hz;cases hz
 subst hoff
 obtain⟨f,hf1,hft⟩:=aaI.1 hf
 simp only[Prod.mk.injEq]at hft
 obtain⟨rfl,rfl⟩:=hft
 simp[execOp,ho,hF.eval hx,Instr.fieldAt,run_underlying ht,hf1,Instr.sureAddr,fieldPlace,sizeOf,typeInfo,hi,yN,dY]
theorem zC{t e:TypeId}{x y:Operand}{b off len cap sz:Nat}{k:IntKind}{i:Int}{ti:TypeInfo}(ht:P.underlying t=some (.slice e))(hi:P.info? e=some ti)(hs:ti.size=sz)
  (hF:Fr n F a dd) (ho:o.op = .indexAddr t x y) (hx:ev F x=some (.slice (some ⟨b,off,none⟩) len cap)) (hy:ev F y=some (.int k i)) (h:0≤i∧i<(len:Int)) :
  (execOp a.eval o).run P w = .ok (.value (.pointer (some ⟨b,off+i.toNat*sz,none⟩))) w:=by
 simp[execOp,ho,hF.eval hx,hF.eval hy,Instr.indexAt,asIntOf,run_underlying ht,h,sizeOf,typeInfo,hi,hs,dY]
theorem eW{t e:TypeId}{x y:Operand}{b off len sz:Nat}{k:IntKind}{i:Int}{ti:TypeInfo}(ht:P.underlying t=some (.array len e))(hi:P.info? e=some ti)(hs:ti.size=sz)
  (hF:Fr n F a dd) (ho:o.op = .indexAddr t x y) (hx:ev F x=some (.pointer (some ⟨b,off,none⟩))) (hy:ev F y=some (.int k i)) (h:0≤i∧i<(len:Int)) :
  (execOp a.eval o).run P w = .ok (.value (.pointer (some ⟨b,off+i.toNat*sz,none⟩))) w:=by
 simp[execOp,ho,hF.eval hx,hF.eval hy,Instr.indexAt,asIntOf,run_underlying ht,Instr.sureAddr,h,sizeOf,typeInfo,hi,hs,dY]
theorem aG{t:TypeId}{x:Operand}{b off:Nat}{v:Value}(ht:∀ w,(isAgg t).run P w = .ok false w)(hF:Fr n F a dd)(ho:o.op = .load t x)(hx:ev F x=some (.pointer (some ⟨b,off,none⟩)))
  (hc:w.cell? ⟨b,off,none⟩=some v):(execOp a.eval o).run P w = .ok (.value v) w:=by
 simp[execOp,ho,hF.eval hx,Instr.loadAt,Instr.sureAddr,loadVar,ht,hc]
theorem run_loadCells(w:World)(b off:Nat)(vs:List Value)(h:jj w b off vs):(loadCells ⟨b,off,none⟩ vs.length).run P w = .ok vs.toArray w :=
 run_loadCells_list (P:=P) w ⟨b,off,none⟩ vs fun j v hv=>by rw[dY];exact h j v hv
theorem cC{t:TypeId}{x:Operand}{b off sz:Nat}{vs:List Value}(ht:∀ w,(isAgg t).run P w = .ok true w)(hs:∀ w,(sizeOf t).run P w = .ok sz w)(hF:Fr n F a dd)(ho:o.op = .load t x)(hx:ev F x=some (.pointer (some ⟨b,off,none⟩)))
  (hl:vs.length=sz) (hc:jj w b off vs):(execOp a.eval o).run P w = .ok (.value (.agg vs.toArray)) w:=by
 subst hl
 simp[execOp,ho,hF.eval hx,Instr.loadAt,Instr.sureAddr,loadVar,ht,hs,run_loadCells w b off vs hc]
end
end Go.Fw
end
section
namespace Go.Fw
def gf(R:Value→World→Prop):Ending→World→Prop
 | .returned v,w=>R v w
 | _,_=>False
abbrev Wd(r:Option Nat):Fence:={ Fence.wide with round:=r }
theorem vC{r:Option Nat}{n:Nat}{P:Program}{f:FuncId}{args:Array Value}{w:World}{R:Ending→World→Prop}:CallsIn (Wd r) n P f args w R↔Calls P f args w R:=callsIn_wide
theorem NA{r r':Option Nat}{n n':Nat}{P:Program}{l:Nat}{f:FuncId}{tmps:Array Value}{assign body:Code}{w:World}{R:Ending→World→Prop}(h:RoundIn (Wd r) n P l f tmps assign body w R):RoundIn (Wd r') n' P l f tmps assign body w R :=
 ⟨trivial,fun c cs _=>h.2 c cs (room_wide _)⟩
theorem wM{r:Option Nat}{X:Prop}(h:(Wd r).depth.isSome=true):X:=by simp[Fence.wide]at h
def Yd(P:Program)(o:Oper)(ρ:Operand→Value)(w:World)(J:Value→World→Prop):Prop :=
 match(execOp ρ o).run P w with
 | .ok (.value v) w'=>J v w'
 | .ok .skip w'=>J undef w'
 | .ok (.enter f args) w'=>Calls P f args w' (gf J)
 | .ok (.round l f tmps assign body) w'=>RoundIn (Wd none) 0 P l f tmps assign body w' (gf J)
 | _=>False
theorem Yd.mono{P:Program}{o:Oper}{ρ:Operand→Value}{w:World}{J J':Value→World→Prop}(h:Yd P o ρ w J)(hj:∀ v w',J v w' → J' v w'):Yd P o ρ w J':=by
 unfold Yd at *
 generalize (execOp ρ o).run P w=r at *
 cases r with
 | ok n w' =>
  cases n<;>simp only at h ⊢ <;> first
   | exact hj _ _ h
   | exact Calls.mono h (fun e Nj he=>by cases e<;>first|exact hj _ _ he|exact he)
   | exact RoundIn.mono h (fun e Nj he=>by cases e<;>first|exact hj _ _ he|exact he)
   | exact h
 | halt h' w'=>exact h
theorem Yd.noDefer{P:Program}{o:Oper}{ρ:Operand→Value}{w:World}{J:Value→World→Prop}(h:Yd P o ρ w J):∀ c,o.op ≠ .defer c:=by
 intro c hc
 unfold Yd at h
 simp only[execOp,hc,Sem.run_bind]at h
 generalize (resolve ρ c o.type).run P w=r at h
 cases r<;>simp[Result.andThen]at h
theorem Yd.wp{r:Option Nat}{P:Program}{o:Oper}{a:Act}{w:World}{K:Act→World→Prop}{Q:Exit→Act→World→Prop}(h:Yd P o a.eval w (fun v w'=>K (a.put o.dst v) w')):o.wpIn (Wd r) 0 P a w K Q:=by
 refine⟨fun _ _=>trivial,?_⟩
 rw[Oper.semAt_eq _ _ _ h.noDefer]
 unfold Yd at h
 generalize (execOp a.eval o).run P w=x at *
 cases x with
 | ok n w' =>
  cases n<;>simp only[Oper.uponIn]at h ⊢ <;> first
   | exact h
   | exact⟨wM,vC.2 (Calls.mono h (fun e Nj he=>by cases e<;>first|exact he|exact he.elim))⟩
   | exact⟨wM,(NA h).mono (fun e Nj he=>by cases e<;>first|exact he|exact he.elim)⟩
   | exact h.elim
 | halt h' w'=>exact h.elim
theorem Yd.val{P:Program}{o:Oper}{ρ:Operand→Value}{w:World}{v:Value}{J:Value→World→Prop}(hr:(execOp ρ o).run P w = .ok (.value v) w)(h:J v w):Yd P o ρ w J:=by
 unfold Yd;rw[hr];exact h
abbrev Wp(r:Option Nat)(P:Program)(c:Code)(Q:Exit→Act→World→Prop)(a:Act)(w:World):Prop:=c.wpIn (Wd r) 0 P Q a w
abbrev w9(r:Option Nat)(P:Program)(ops:Array Oper)(Q:Exit→Act→World→Prop)(l:List Oper)(a:Act)(w:World):Prop:=wpListIn (Wd r) 0 P ops Q l a w
abbrev bP(P:Program)(fn:Func)(R:Ending→World→Prop):Exit→Act→World→Prop:=bodyPostM (Wd none) 0 P fn R
section inorder
variable {r:Option Nat}{P:Program}{ops:Array Oper}{Q:Exit→Act→World→Prop}{o:Oper}{rest:List Oper}{n d:Nat}{F:List (Nat×Value)}{a:Act}{dd:List Deferred}{w:World}{v:Value}
theorem aA(hF:Fr n F a dd)(hr:(execOp a.eval o).run P w = .ok (.value v) w)(hg:o.guard=none)(hd:o.dst=some d)(hn:Nat.blt d n=true)
  (next:∀ a',Fr n ((d,v)::F) a' dd→w9 r P ops Q rest a' w):w9 r P ops Q (o::rest) a w :=
 wpListIn_plain hg fun _ hK=>Yd.wp (Yd.val hr (hK _ _ (by rw[hd];exact next _ (hF.put hn))))
theorem aN(hF:Fr n F a dd)(hg:o.guard=none)(hd:o.dst=some d)(hn:Nat.blt d n=true)
  (h:Yd P o a.eval w (fun v w'=>∀ a',Fr n ((d,v)::F) a' dd→w9 r P ops Q rest a' w')):w9 r P ops Q (o::rest) a w :=
 wpListIn_plain hg fun _ hK=>Yd.wp (h.mono fun _ _ hj=>hK _ _ (by rw[hd];exact hj _ (hF.put hn)))
theorem bC(hg:o.guard=none)(hd:o.dst=none)
  (h:Yd P o a.eval w (fun _ w'=>w9 r P ops Q rest a w')):w9 r P ops Q (o::rest) a w :=
 wpListIn_plain hg fun _ hK=>Yd.wp (h.mono fun _ _ hj=>hK _ _ (by rw[hd];exact hj))
theorem rF{g t:Nat}{want c:Bool}(hF:Fr n F a dd)(hg:o.guard=some (g,want))(ht:(ops[g]?).bind (·.dst)=some t)(hc:look F t=some (.bool c))(hw:c=want) :
  Region.wanted o (yielded ops a.tmps)=true:=by
 simp[Region.wanted,hg,hF.yield ht hc,hw]
theorem FI{g t:Nat}{want c:Bool}(hF:Fr n F a dd)(hg:o.guard=some (g,want))(ht:(ops[g]?).bind (·.dst)=some t)(hc:look F t=some (.bool c))(hw:c = !want) :
  Region.wanted o (yielded ops a.tmps)=false:=by
 simp[Region.wanted,hg,hF.yield ht hc,hw]
theorem aP{g t:Nat}{want c:Bool}(hF:Fr n F a dd)(hg:o.guard=some (g,want))(ht:(ops[g]?).bind (·.dst)=some t)(hc:look F t=some (.bool c))(hw:c=want)
  (hr:(execOp a.eval o).run P w = .ok (.value v) w) (hd:o.dst=some d) (hn:Nat.blt d n=true)
  (next:∀ a',Fr n ((d,v)::F) a' dd→w9 r P ops Q rest a' w):w9 r P ops Q (o::rest) a w :=
 wpListIn_step fun _ hK=>by
  rw[aaJ (rF hF hg ht hc hw)]
  exact Yd.wp (Yd.val hr (hK _ _ (by rw[hd];exact next _ (hF.put hn))))
theorem dA{g t:Nat}{want c:Bool}(hF:Fr n F a dd)(hg:o.guard=some (g,want))(ht:(ops[g]?).bind (·.dst)=some t)(hc:look F t=some (.bool c))(hw:c=want)
  (hd:o.dst=some d) (hn:Nat.blt d n=true)
  (h:Yd P o a.eval w (fun v w'=>∀ a',Fr n ((d,v)::F) a' dd→w9 r P ops Q rest a' w')):w9 r P ops Q (o::rest) a w :=
 wpListIn_step fun _ hK=>by
  rw[aaJ (rF hF hg ht hc hw)]
  exact Yd.wp (h.mono fun _ _ hj=>hK _ _ (by rw[hd];exact hj _ (hF.put hn)))
theorem aF{g t:Nat}{want c:Bool}(hF:Fr n F a dd)(hg:o.guard=some (g,want))(ht:(ops[g]?).bind (·.dst)=some t)(hc:look F t=some (.bool c))(hw:c = !want)
  (hd:o.dst=some d) (hn:Nat.blt d n=true)
  (next:∀ a',Fr n ((d,undef)::F) a' dd→w9 r P ops Q rest a' w):w9 r P ops Q (o::rest) a w :=
 wpListIn_step fun _ hK=>by
  rw[aaK (by rw[FI hF hg ht hc hw];exact aaL)]
  exact⟨fun _ _=>trivial,hK _ _ (by rw[hd];exact next _ (hF.put hn))⟩
end inorder
section code
variable {r:Option Nat}{P:Program}{Q:Exit→Act→World→Prop}{a:Act}{dd:List Deferred}{w:World}
theorem aH{x y:Code}(h:Wp r P x (Exit.then (Wp r P y Q) Q) a w):Wp r P (.seq x y) Q a w:=wpIn_seq h
theorem bM(h:Q .normal a w):Wp r P .skip Q a w:=wpIn_skip h
theorem dC{id:Nat}(h:Q (.exit id) a w):Wp r P (.exit id) Q a w:=wpIn_exit h
theorem p_(h:Q .ret a w):Wp r P .ret Q a w:=wpIn_ret h
theorem bO{id:Nat}{c:Code}(h:Wp r P c (Exit.inBlock id Q) a w):Wp r P (.block id c) Q a w:=wpIn_block h
theorem aD{i:Nat}{l:List Oper}(h:w9 r P l.toArray Q l a w):Wp r P (.region i l.toArray false) Q a w:=wpIn_region_lit h
theorem aJ{ops:Array Oper}(h:Q .normal a w):w9 r P ops Q [] a w:=h
theorem aB{K:Act→World→Prop}(h:K a w):Exit.then K Q .normal a w:=h
theorem cG{i:Nat}(h:Q .normal a w):Exit.inBlock i Q .normal a w:=h
theorem cA{K:Act→World→Prop}{i:Nat}(h:Q (.exit i) a w):Exit.then K Q (.exit i) a w:=h
theorem eC{i:Nat}(h:Q .normal a w):Exit.inBlock i Q (.exit i) a w:=by simpa[Exit.inBlock]using h
theorem Tv{i j:Nat}(hij:Nat.beq j i=false)(h:Q (.exit j) a w):Exit.inBlock i Q (.exit j) a w:=by
 have:j≠i:=fun e=>by subst e;simp at hij
 simpa[Exit.inBlock,this]using h
theorem Zm{K:Act→World→Prop}(h:Q .ret a w):Exit.then K Q .ret a w:=h
theorem S7{i:Nat}(h:Q .ret a w):Exit.inBlock i Q .ret a w:=h
theorem bQ{c:Operand}{x y:Code}{n:Nat}{F:List (Nat×Value)}{b:Bool}(hF:Fr n F a dd)(hc:ev F c=some (.bool b))(ht:b=true→Wp r P x Q a w)(hf:b=false→Wp r P y Q a w) :
  Wp r P (.cond c x y) Q a w:=wpIn_cond_split (hF.eval hc) ht hf
theorem SI{X:Type}{c:Code}(I:X→Act→World→Prop)(μ:X→Nat)(Nn:X)(h₀:I Nn a w)
  (round:∀ x a w,I x a w→Wp r P c (Exit.then (fun a' w'=>∃ y,I y a' w' ∧ μ y<μ x) Q) a w):Wp r P (.loop c) Q a w:=by
 intro b k cs hro hb hr
 have key:∀ m x a w,μ x=m→I x a w →
   ∃ e a' w',Q e a' w' ∧ ArrivesIn (Machine.fenced P (Wd r)) P (lone (b.atR a (.code c :: .inLoop c::k)) cs w) b k cs e a' w':=by
  intro m
  induction m using Nat.strongRecOn with
  | _ m ih =>
   intro x a w hn hI
   obtain⟨e,a₁,w₁,hq,pn⟩:=round x a w hI b (.inLoop c::k) cs hro hb hr
   cases e with
   | normal =>
    obtain⟨y,KP,hlt⟩:=hq
    obtain⟨e₂,a₂,w₂,zo,rK⟩:=ih (μ y) (hn ▸ hlt) y a₁ w₁ rfl KP
    exact⟨e₂,a₂,w₂,zo,.of_steps (StepsIn.trans pn (.one (fenced_calm hb hr rfl) stepR_inLoop)) rK⟩
   | exit id=>exact⟨_,a₁,w₁,hq,.pass (x:=.inLoop c) rfl (fun _ _=>.inl (by simp)) pn⟩
   | goto l=>exact⟨_,a₁,w₁,hq,.pass (x:=.inLoop c) rfl (fun _ _=>.inl (by simp)) pn⟩
   | ret=>exact⟨_,a₁,w₁,hq,.pass (x:=.inLoop c) rfl (fun _ _=>.inl (by simp)) pn⟩
   | panic ch=>exact⟨_,a₁,w₁,hq,.pass (x:=.inLoop c) rfl (fun _ _=>.inl (by simp)) pn⟩
   | outgrown=>exact⟨_,a₁,w₁,hq,.pass (x:=.inLoop c) rfl (fun _ _=>.inl (by simp)) pn⟩
 obtain⟨e,a',w',hq,pn⟩:=key _ Nn a w rfl h₀
 exact⟨e,a',w',hq,.of_steps (.one (fenced_calm hb hr rfl) stepR_loop) pn⟩
theorem Xo{c:Code}{R:Act→World→Prop}(h:Wp r P c (Exit.then R Q) a w)(next:∀ a w,R a w→Q .normal a w):Wp r P c Q a w :=
 wpIn_mono h fun e a w q=>by cases e<;>first|exact next _ _ q|exact q
theorem aV{f:FuncId}{fn:Func}{c:Code}{vs:List Value}{m:Nat}{R:Value→World→Prop}(hf:P.funcs[f]? = some fn)(hb:fn.body=some c)(hm:fn.ntmps=m)(hn:Nat.ble vs.length m=true)
  (h:∀ a,Fr m (idx 0 vs) a→Wp none P c (bP P fn (gf R)) a w):Calls P f vs.toArray w (gf R):=by
 refine callsIn_wide.1 (callsIn_of_wp_marks (F:=Wd none) (n:=0) hf hb trivial ?_ rfl)
 subst hm
 exact h _ (Fr.enter vs fn.ntmps hn)
theorem qQ{fn:Func}{R:Value→World→Prop}{v:Value}(hd:a.defers = [])(hr:(results fn a.tmps).run P w = .ok v w)(h:R v w):LeavesInM (Wd none) 0 P fn a.tmps (gf R) a.defers .returning w:=by
 rw[hd];exact⟨v,hr,h⟩
theorem aT{fn:Func}{t n:Nat}{F:List (Nat×Value)}{v:Value}{R:Value→World→Prop}(hr:fn.results = #[.tmp t])(hF:Fr n F a)(hv:look F t=some v)(h:R v w):bP P fn (gf R) .ret a w:=by
 refine qQ (v:=v) hF.defers ?_ h
 have:=hF.get t v hv
 simp[results,hr,this]
theorem eT{fn:Func}{n:Nat}{F:List (Nat×Value)}{R:Value→World→Prop}(hr:fn.results = #[])(hF:Fr n F a)(h:R (.tuple #[]) w):bP P fn (gf R) .normal a w :=
 qQ (v:=.tuple #[]) hF.defers (by simp[results,hr]) h
theorem vH{fn:Func}{n:Nat}{F:List (Nat×Value)}{R:Value→World→Prop}(hr:fn.results = #[])(hF:Fr n F a)(h:R (.tuple #[]) w):bP P fn (gf R) .ret a w :=
 qQ (v:=.tuple #[]) hF.defers (by simp[results,hr]) h
def lj(P:Program)(w:World)(tmps:Array Value):List ResultVar→List Value→Prop
 | [],[]=>True
 | .tmp t::rs,v::vs=>tmps[t]? = some v∧lj P w tmps rs vs
 | .cell t ty::rs,v::vs=>(∃ p,tmps[t]? = some (.pointer (some p))∧(loadVar ty p).run P w = .ok v w)∧lj P w tmps rs vs
 | _,_=>False
def BH(tmps:Array Value):ResultVar→Sem Value
 | .tmp t=>pure (tmps.getD t undef)
 | .cell a t=>do loadVar t (←asAddr (tmps.getD a undef))
theorem yH(tmps:Array Value)(rs:List ResultVar)(vs:List Value)(h:lj P w tmps rs vs):(rs.mapM (BH tmps)).run P w = .ok vs w:=by
 induction rs generalizing vs with
 | nil=>cases vs with
  | nil=>simp
  | cons _ _=>exact h.elim
 | cons r rs ih =>
  cases r with
  | tmp t=>cases vs with
   | nil=>exact h.elim
   | cons v vs =>
    obtain⟨h1,h2⟩:=h
    simp only[aaM,Sem.run_bind]
    simp[BH,h1,ih _ h2]
  | cell t ty=>cases vs with
   | nil=>exact h.elim
   | cons v vs =>
    obtain⟨⟨p,h0,h1⟩,h2⟩:=h
    simp only[aaM,Sem.run_bind]
    simp[BH,h0,asAddr,h1,ih _ h2]
theorem sR{fn:Func}{tmps:Array Value}{rs:List ResultVar}{vs:List Value}(hr:fn.results=rs.toArray)(h:lj P w tmps rs vs) :
  (results fn tmps).run P w = .ok (if vs.length=1 then vs.headD undef else .tuple vs.toArray) w:=by
 have:=yH tmps rs vs h
 have e:results fn tmps=(do
   let us←fn.results.mapM (BH tmps)
   pure (if h:us.size=1 then us[0]else .tuple us)):=rfl
 rw[e,hr,List.mapM_toArray,Sem.run_bind,Sem.run_map,this]
 simp only[Result.andThen_ok,Sem.run_pure]
 match vs with
 | []=>rfl
 | [v]=>rfl
 | _::_::_=>rfl
theorem fF{fn:Func}{rs:List ResultVar}{vs:List Value}{v:Value}{n:Nat}{F:List (Nat×Value)}{R:Value→World→Prop}(hr:fn.results=rs.toArray)(hF:Fr n F a)(hv:lj P w a.tmps rs vs)
  (he:(if vs.length=1 then vs.headD undef else .tuple vs.toArray)=v) (h:R v w):bP P fn (gf R) .ret a w :=
 qQ hF.defers (by rw[sR hr hv,he]) h
theorem dF{tmps:Array Value}:lj P w tmps [] []:=trivial
theorem dS{n:Nat}{F:List (Nat×Value)}{t:Nat}{v:Value}{rs:List ResultVar}{vs:List Value}(hF:Fr n F a dd)(hv:look F t=some v)(h:lj P w a.tmps rs vs):lj P w a.tmps (.tmp t::rs) (v::vs) :=
 ⟨hF.get t v hv,h⟩
theorem cY{n:Nat}{F:List (Nat×Value)}{t ty b off sz:Nat}{us:List Value}{rs:List ResultVar}{vs:List Value}(hF:Fr n F a dd)(hv:look F t=some (.pointer (some ⟨b,off,none⟩)))
  (ht:∀ w,(isAgg ty).run P w = .ok true w) (hs:∀ w,(sizeOf ty).run P w = .ok sz w) (hl:us.length=sz) (hc:jj w b off us) (h:lj P w a.tmps rs vs):lj P w a.tmps (.cell t ty::rs) (.agg us.toArray::vs):=by
 refine⟨⟨_,hF.get t _ hv,?_⟩,h⟩
 subst hl
 simp[loadVar,ht,hs,run_loadCells w b off us hc]
theorem gW{n:Nat}{F:List (Nat×Value)}{t ty b off:Nat}{u:Value}{rs:List ResultVar}{vs:List Value}(hF:Fr n F a dd)(hv:look F t=some (.pointer (some ⟨b,off,none⟩)))
  (ht:∀ w,(isAgg ty).run P w = .ok false w) (hc:w.cell? ⟨b,off,none⟩=some u) (h:lj P w a.tmps rs vs):lj P w a.tmps (.cell t ty::rs) (u::vs):=by
 refine⟨⟨_,hF.get t _ hv,?_⟩,h⟩
 simp[loadVar,ht,hc]
end code
end Go.Fw
end
section
namespace Go.Fw
def EN(o:Oper):List Nat:=(o.after.toList.filter (fun e=>Region.binds .any e)).map (·.on)
def iu(ops:Array Oper)(i:Nat):List Nat:=match ops[i]? with|some o=>EN o|none=>[]
def me(ops:Array Oper)(i:Nat):Option Tmp:=match ops[i]? with|some o=>o.dst|none=>none
def lH(ops:Array Oper)(i:Nat):List Tmp:=match ops[i]? with|some o=>o.looksAt ops|none=>[]
def jw(i:Nat):List Nat→Bool
 | []=>false
 | j::r=>Nat.beq i j||jw i r
theorem fH{i:Nat}{l:List Nat}:jw i l=true↔i∈l:=by
 induction l with
 | nil=>simp[jw]
 | cons j r ih=>simp[jw,ih]
def NP(d:Tmp):Option Tmp→Bool
 | some e=>Nat.beq d e
 | none=>false
def chk(ops:Array Oper):Bool:=(List.range ops.size).all fun i =>
  (iu ops i).all (fun p=>Nat.blt p i) &&
  (match me ops i with
   | none=>true
   | some d=>!jw d (lH ops i)&&(List.range ops.size).all fun j=>Nat.beq j i||(!NP d (me ops j)&&(!jw d (lH ops j)||jw i (iu ops j)||jw j (iu ops i))))
def ER(ops:Array Oper)(i:Nat):Bool :=
 match me ops i with
 | none=>true
 | some d=>(List.range ops.size).all fun j=>Nat.beq j i || !jw d (lH ops j)||jw i (iu ops j)
def mf(o:Oper):Bool:=match o.op with | .select ..=>false|_=>true
def Dy(ops:Array Oper)(T:List Nat)(i:Nat):Bool :=
 !jw i T&&(iu ops i).all (jw · T)&&ER ops i&&(match ops[i]? with|some o=>mf o|none=>false)
def blk(ops:Array Oper)(T A:List Nat):Bool:=(List.range ops.size).all fun k=>jw k T||jw k A||(iu ops k).any (fun p=>!jw p T)
def vl(ops:Array Oper)(T:List Nat):Bool:=(List.range ops.size).all (jw · T)
section
variable {ops:Array Oper}
theorem GI(h:chk ops=true){i p:Nat}(hi:i<ops.size)(hp:p∈iu ops i):p<i:=by
 have:=aaN.1 h i (aaO.2 hi)
 simp only[aaB,aaN]at this
 exact di (this.1 p hp)
theorem YN{d:Tmp}{x:Option Tmp}:NP d x=true↔x=some d:=by
 cases x with
 | none=>simp[NP]
 | some e=>simp[NP];exact eq_comm
theorem tG(h:chk ops=true){i d:Nat}(hi:i<ops.size)(hd:me ops i=some d) :
  d∉lH ops i ∧ ∀ j,j<ops.size→j≠i→me ops j≠some d∧(d∈lH ops j→i∈iu ops j∨j∈iu ops i):=by
 have:=aaN.1 h i (aaO.2 hi)
 rw[hd]at this
 simp only[aaB,aaN,aaO,aaP,aaC,aaQ]at this
 obtain⟨_,h1,h2⟩:=this
 refine⟨fun hm=>(by rw[fH.2 hm]at h1;cases h1),fun j hj hji=>?_⟩
 rcases h2 j hj with h3|⟨h3,h4⟩
 ·exact absurd h3 hji
 ·refine⟨fun e=>?_,fun hr=>?_⟩
  ·rw[YN.2 e]at h3;cases h3
  ·rcases h4 with(h4|h4)|h4
   ·rw[fH.2 hr]at h4;cases h4
   ·exact .inl (fH.1 h4)
   ·exact .inr (fH.1 h4)
theorem Gw{i d j:Nat}(h:ER ops i=true)(hd:me ops i=some d)(hj:j<ops.size)(hji:j≠i)(hr:d∈lH ops j):i∈iu ops j:=by
 unfold ER at h
 rw[hd]at h
 simp only[aaN,aaO,aaP,aaC,aaQ]at h
 rcases h j hj with(h3|h3)|h3
 ·exact absurd h3 hji
 ·rw[fH.2 hr]at h3;cases h3
 ·exact fH.1 h3
def YieldsAt(P:Program)(ops:Array Oper)(o:Oper)(a:Act)(w:World)(v:Value):Prop :=
 (Region.wanted o (yielded ops a.tmps)=true∧(execOp a.eval o).run P w = .ok (.value v) w)∨(Region.wanted o (yielded ops a.tmps)=false∧v=undef)
theorem RQ{o:Oper}{a a':Act}(h:∀ t∈o.looksAt ops,a.tmps[t]? = a'.tmps[t]?):(∀ x∈o.op.operands,a.eval x=a'.eval x)∧Region.wanted o (yielded ops a.tmps)=Region.wanted o (yielded ops a'.tmps):=by
 constructor
 ·intro x hx
  cases x with
  | tmp t =>
   have:t∈o.looksAt ops:=by
    simp only[Oper.looksAt,aaR,List.mem_filterMap]
    exact .inl ⟨.tmp t,by simpa using hx,rfl⟩
   simp only[Act.eval,aae,h t this]
  | const v=>rfl
  | global g=>rfl
  | func f=>rfl
 ·unfold Region.wanted
  cases hg:o.guard with
  | none=>rfl
  | some p =>
   obtain⟨j,want⟩:=p
   have:yielded ops a.tmps j=yielded ops a'.tmps j:=by
    unfold yielded
    cases hd:(ops[j]?).bind (·.dst)with
    | none=>rfl
    | some d =>
     have hm:d∈o.looksAt ops:=by
      simp[Oper.looksAt,hg,hd]
     simp only[aaS,h d hm]
   simp only[this]
theorem RO{o:Oper}(h:mf o=true):∀ cs b,o.op ≠ .select cs b:=by
 intro cs b e
 simp[mf,e]at h
theorem YieldsAt.congr{P:Program}{o:Oper}{a a':Act}{w:World}{v:Value}(hs:mf o=true)(h:∀ t∈o.looksAt ops,a.tmps[t]? = a'.tmps[t]?)(hy:YieldsAt P ops o a w v):YieldsAt P ops o a' w v:=by
 obtain⟨h1,h2⟩:=RQ h
 unfold YieldsAt at *
 rw[←h2,←execOp_congr o (RO hs) h1]
 exact hy
structure Pq(P:Program)(ops:Array Oper)(T:List Nat)(Cs:World→Prop)(a:Act)(i:Nat)(v:Value):Prop where
 EN:∀ p∈iu ops i,p∈T
 q:ER ops i=true
 ns:∀ o,ops[i]? = some o→mf o=true
 yields:∀ o,ops[i]? = some o → ∀ w,Cs w→YieldsAt P ops o a w v
structure EI(ops:Array Oper)(T:List Nat)(pend:List (Nat×Value))(s:Act)(dj:Array Bool)(a:Act):Prop where
 size:dj.size=ops.size
 list:∀ i,i<ops.size→(dj.getD i true=true↔i∈T ∧ ∀ p∈pend,p.1≠i)
 Ea:∀ i∈T,i<ops.size
 closed:∀ i,i<ops.size→dj.getD i true=true → ∀ p∈iu ops i,dj.getD p true=true
 og:∀ p∈pend,p.1∈T
 nodup:pend.Pairwise (fun p q=>p.1≠q.1)
 defers:s.defers=a.defers
 xJ:s.tmps.size=a.tmps.size
 same:∀ t,(∀ p∈pend,me ops p.1≠some t)→s.tmps[t]? = a.tmps[t]?
 late:∀ p∈pend,∀ d,me ops p.1=some d→d<a.tmps.size→s.tmps[d]? = some p.2
def MR(ops:Array Oper)(dj:Array Bool):Nat:=(List.range ops.size).countP (fun i=>!dj.getD i true)
def DW(r:Option Nat)(P:Program)(ops:Array Oper)(Q:Exit→Act→World→Prop)(T:List Nat)(Cs C:World→Prop)(s:Act):Prop :=
 ∀ fuel dj pend a w,Cs w→C w→EI ops T pend s dj a→(∀ p∈pend,Pq P ops T Cs s p.1 p.2)→MR ops dj≤fuel→wpAnyIn (Wd r) 0 P .any ops Q fuel dj a w
theorem tM{dj:Array Bool}(hs:dj.size=ops.size){i:Nat}:i∈Region.ready .any ops dj↔i<ops.size∧dj.getD i true=false ∧ ∀ p∈iu ops i,dj.getD p false=true:=by
 simp only[Region.ready,aaT,aaO,aaB,aaC]
 constructor
 ·rintro⟨h1,h2,h3⟩
  refine⟨h1,h2,fun p hp=>?_⟩
  unfold iu at hp
  cases ho:ops[i]? with
  | none=>simp[ho]at hp
  | some o =>
   simp only[ho,aaU,aaV,Array.all_eq_true']at h3 hp
   simp only[EN,aaW,aaT]at hp
   obtain⟨e,⟨he,hb⟩,rfl⟩:=hp
   have:=h3 e (by simpa using he)
   simpa[hb]using this
 ·rintro⟨h1,h2,h3⟩
  refine⟨h1,h2,?_⟩
  have ho:ops[i]? = some ops[i]:=by simp[h1]
  simp only[ho,aaU,aaV,Array.all_eq_true']
  intro e he
  cases hb:Region.binds .any e with
  | false=>rfl
  | true =>
   have:=h3 e.on (by
    simp only[iu,ho,EN,aaW,aaT]
    exact⟨e,⟨by simpa using he,hb⟩,rfl⟩)
   simpa using this
theorem fI{dj:Array Bool}{p:Nat}(h:dj.getD p false=true):dj.getD p true=true:=by
 simp only[aae]at *
 cases hx:dj[p]? with
 | none=>simp
 | some b=>simpa[hx]using h
theorem vJ{dj:Array Bool}{p:Nat}(hp:p<dj.size)(h:dj.getD p true=true):dj.getD p false=true:=by
 simp only[aae]at *
 simpa[hp]using h
theorem SB{dj:Array Bool}(lz:chk ops=true)(hs:dj.size=ops.size):∀ i,i<ops.size→dj.getD i true=false→Region.ready .any ops dj ≠ []:=by
 intro i
 induction i using Nat.strongRecOn with
 | _ i ih =>
  intro hi hl
  by_cases hall:∀ p∈iu ops i,dj.getD p false=true
  ·exact List.ne_nil_of_mem ((tM hs).2 ⟨hi,hl,hall⟩)
  ·simp only[Classical.not_forall]at hall
   obtain⟨p,hp,hf⟩:=hall
   have hlt:=GI lz hi hp
   refine ih p hlt adr ?_
   cases hx:dj.getD p true with
   | false=>rfl
   | true=>exact absurd (vJ adr hx) hf
theorem Gv{dj:Array Bool}(hs:dj.size=ops.size){i:Nat}(hi:i<ops.size)(hl:dj.getD i true=false):MR ops (dj.setIfInBounds i true)+1≤MR ops dj:=by
 unfold MR
 have key:∀ l:List Nat,i∈l→l.Nodup→(∀ j∈l,j<ops.size)→l.countP (fun j=>!(dj.setIfInBounds i true).getD j true)+1≤l.countP (fun j=>!dj.getD j true):=by
  have oH:∀ j,(dj.setIfInBounds i true).getD j true=(if j=i then true else dj.getD j true):=by
   intro j
   simp only[aae,aaX]
   split
   ·rename_i e;subst e
    split
    ·simp
    ·simp[hs,hi]at *
   ·rename_i e
    have:j≠i:=fun x=>e x.symm
    simp[this]
  intro l
  induction l with
  | nil=>intro hm;cases hm
  | cons j l ih =>
   intro hm hn hlt
   simp only[List.countP_cons,oH]
   by_cases hji:j=i
   ·subst hji
    have Hm:j∉l:=(List.nodup_cons.1 hn).1
    have heq:l.countP (fun x=>!if x=j then true else dj.getD x true)=l.countP (fun x=>!dj.getD x true):=by
     refine List.countP_congr fun x hx=>?_
     have:x≠j:=fun e=>Hm (e ▸ hx)
     simp[this]
    rw[heq]
    simp only[hl]
    simp
   ·have hmem:i∈l:=by
     rcases aaY.1 hm with e|e
     ·exact absurd e.symm hji
     ·exact e
    have:=ih hmem (List.nodup_cons.1 hn).2 (fun x hx=>hlt x (aaZ _ hx))
    simp only[oH]at this
    simp only[hji,if_false]
    omega
 exact key _ (aaO.2 hi) List.nodup_range (fun j hj=>aaO.1 hj)
theorem Fj{dj:Array Bool}{i:Nat}(hi:i<dj.size)(j:Nat):(dj.setIfInBounds i true).getD j true=(if j=i then true else dj.getD j true):=by
 simp only[aae,aaX]
 split
 ·rename_i e;subst e;simp
 ·rename_i e
  have:j≠i:=fun x=>e x.symm
  simp[this]
theorem qV{a:Act}{d t:Nat}{v:Value}:(a.put (some d) v).tmps[t]? = if d=t then(if d<a.tmps.size then some v else none)else a.tmps[t]?:=by
 simp only[Act.put,aaX]
end
theorem R9{r:Option Nat}{P:Program}{ops:Array Oper}{Q:Exit→Act→World→Prop}{j:Nat}{o:Oper}{a:Act}{w:World}{v:Value}{K:Act→World→Prop}(ho:ops[j]? = some o)(hy:YieldsAt P ops o a w v)(h:K (a.put o.dst v) w):wpOpIn (Wd r) 0 P ops Q j K a w:=by
 unfold wpOpIn
 simp only[ho]
 rcases hy with⟨h1,h2⟩|⟨h1,rfl⟩
 ·rw[aaJ h1]
  exact Yd.wp (Yd.val h2 h)
 ·rw[aaK (by rw[h1];exact aaL)]
  exact⟨fun _ _=>trivial,h⟩
section
variable {r:Option Nat}{P:Program}{ops:Array Oper}{Q:Exit→Act→World→Prop}{T:List Nat}{Cs C:World→Prop}{s:Act}
theorem EI.step{pend:List (Nat×Value)}{dj:Array Bool}{a:Act}(lz:chk ops=true)(st:EI ops T pend s dj a){j:Nat}{v:Value}(hj:(j,v)∈pend)(hlt:j<ops.size)
  (hr:∀ p∈iu ops j,dj.getD p false=true):EI ops T (pend.filter (fun p=>!Nat.beq p.1 j)) s (dj.setIfInBounds j true) (a.put (me ops j) v):=by
 have hls:j<dj.size:=by rw[st.size];exact hlt
 have Ux:∀ p∈pend,p.1=j→p=(j,v):=by
  have hpw:=st.nodup
  intro p hp Bj
  rcases aa0.1 hpw with hh
  obtain⟨x,hx,rfl⟩:=aa1 hp
  obtain⟨y,hy,he⟩:=aa1 hj
  rcases Nat.lt_trichotomy x y with h|h|h
  ·exact absurd (by rw[he];exact Bj) (hh x y hx hy h)
  ·subst h;exact he
  ·exact absurd (by rw[he];exact Bj.symm) (hh y x hy hx h)
 have hmem:∀ p,p∈pend.filter (fun p=>!Nat.beq p.1 j)↔p∈pend∧p.1≠j:=by
  intro p
  simp only[aaT,aaC,←Bool.not_eq_true,aaQ]
 constructor
 ·simp[st.size]
 ·intro i hi
  rw[Fj hls]
  by_cases hij:i=j
  ·subst hij
   simp only[if_true,true_iff]
   exact⟨st.og _ hj,fun p hp=>((hmem p).1 hp).2⟩
  ·simp only[hij,if_false]
   rw[st.list i hi]
   constructor
   ·rintro⟨h1,h2⟩;exact⟨h1,fun p hp=>h2 p ((hmem p).1 hp).1⟩
   ·rintro⟨h1,h2⟩
    refine⟨h1,fun p hp hpi=>?_⟩
    by_cases Bj:p.1=j
    ·exact hij (hpi.symm.trans Bj)
    ·exact h2 p ((hmem p).2 ⟨hp,Bj⟩) hpi
 ·exact st.Ea
 ·intro i hi hl p hp
  have hpi:=GI lz hi hp
  rw[Fj hls]at hl ⊢
  split
  ·rfl
  ·split at hl
   ·rename_i e;subst e
    exact fI (hr p hp)
   ·exact st.closed i hi hl p hp
 ·intro p hp;exact st.og p ((hmem p).1 hp).1
 ·exact st.nodup.filter _
 ·rw[st.defers];cases me ops j<;>rfl
 ·rw[st.xJ];cases me ops j<;>simp[Act.put]
 ·intro t ht
  cases hd:me ops j with
  | none =>
   refine st.same t fun p hp=>?_
   by_cases Bj:p.1=j
   ·rw[Bj,hd];simp
   ·exact ht p ((hmem p).2 ⟨hp,Bj⟩)
  | some d =>
   rw[qV]
   by_cases Py:d=t
   ·subst Py
    rw[aaJ rfl]
    split
    ·rename_i xg
     exact st.late _ hj d hd xg
    ·rename_i hge
     rw[aa2 (by rw[st.xJ];omega)]
   ·rw[aaK Py]
    refine st.same t fun p hp=>?_
    by_cases Bj:p.1=j
    ·rw[Bj,hd];simpa using Py
    ·exact ht p ((hmem p).2 ⟨hp,Bj⟩)
 ·intro p hp d hd xg
  refine st.late p ((hmem p).1 hp).1 d hd ?_
  cases hdj:me ops j<;>simp[hdj,Act.put]at xg<;>exact xg
theorem EI.reads{pend:List (Nat×Value)}{dj:Array Bool}{a:Act}(st:EI ops T pend s dj a)(hq:∀ p∈pend,Pq P ops T Cs s p.1 p.2)
  {j:Nat} (hlt:j<ops.size) (Dj:∀ d,me ops j=some d→d∉lH ops j) (hr:∀ p∈iu ops j,dj.getD p false=true):∀ t∈lH ops j,s.tmps[t]? = a.tmps[t]?:=by
 intro t ht
 refine st.same t fun p hp hd=>?_
 by_cases Bj:p.1=j
 ·rw[Bj]at hd;exact Dj t hd ht
 ·have h1:=Gw (hq p hp).q hd hlt (fun e=>Bj e.symm) ht
  have h2:=fI (hr _ h1)
  exact((st.list p.1 (st.Ea _ (st.og p hp))).1 h2).2 p hp rfl
theorem lC{j:Nat}{o:Oper}(ho:ops[j]? = some o):lH ops j=o.looksAt ops:=by simp[lH,ho]
theorem iA{j:Nat}{o:Oper}(ho:ops[j]? = some o):me ops j=o.dst:=by simp[me,ho]
theorem EI.yields{pend:List (Nat×Value)}{dj:Array Bool}{a:Act}{w:World}(lz:chk ops=true)(st:EI ops T pend s dj a)(hq:∀ p∈pend,Pq P ops T Cs s p.1 p.2)
  {j:Nat} {v:Value} {o:Oper} (ho:ops[j]? = some o) (hj:(j,v)∈pend) (hr:∀ p∈iu ops j,dj.getD p false=true) (hw:Cs w):YieldsAt P ops o a w v:=by
 have hlt:j<ops.size:=(aak.1 ho).1
 have h:=(hq _ hj).yields o ho w hw
 refine h.congr ((hq _ hj).ns o ho) fun t ht=>?_
 exact st.reads hq hlt (fun d hd=>(tG lz hlt hd).1) hr t (by rw[lC ho];exact ht)
theorem Td(lz:chk ops=true)(hall:vl ops T=true)(h:∀ w,C w→Q .normal s w):DW r P ops Q T Cs C s:=by
 have hT:∀ i,i<ops.size→i∈T:=fun i hi=>fH.1 (aaN.1 hall i (aaO.2 hi))
 have fin:∀ dj pend a w,C w→EI ops T pend s dj a→Region.ready .any ops dj = []→Q .normal a w:=by
  intro dj pend a w hC st hr
  have hl:∀ i,i<ops.size→dj.getD i true=true:=by
   intro i hi
   cases hx:dj.getD i true with
   | true=>rfl
   | false=>exact absurd hr (SB lz st.size i hi hx)
  have hp:pend = []:=by
   cases pend with
   | nil=>rfl
   | cons p r =>
    have:=st.Ea _ (st.og p (by simp))
    exact absurd rfl (((st.list p.1 this).1 (hl _ this)).2 p (by simp))
  subst hp
  have hs:s=a:=by
   have h1:=st.defers
   have h2:s.tmps=a.tmps:=Array.ext_getElem? fun t=>st.same t (by simp)
   cases s;cases a;simp_all
  exact hs ▸ h w hC
 intro fuel
 induction fuel with
 | zero =>
  intro dj pend a w _ hC st _ hf
  have hr:Region.ready .any ops dj = []:=by
   cases hx:Region.ready .any ops dj with
   | nil=>rfl
   | cons i r =>
    have hi:=(tM st.size).1 (by rw[hx];exact aa3:i∈_)
    have:=Gv st.size hi.1 hi.2.1
    omega
  exact⟨hr,fin _ _ _ _ hC st hr⟩
 | succ fuel ih =>
  intro dj pend a w Bi hC st hq hf
  refine⟨fun hr=>fin _ _ _ _ hC st hr,fun i hi=>?_⟩
  obtain⟨h1,h2,h3⟩:=(tM st.size).1 hi
  have PU:∃ v,(i,v)∈pend:=by
   apply Classical.byContradiction
   intro hno
   have:dj.getD i true=true:=(st.list i h1).2 ⟨hT i h1,fun p hp hpi=>hno ⟨p.2,hpi ▸ hp⟩⟩
   rw[h2]at this;cases this
  obtain⟨v,hv⟩:=PU
  have ho:ops[i]? = some ops[i]:=by simp[h1]
  refine R9 ho (st.yields lz hq ho hv h3 Bi) ?_
  have EE:=st.step lz hv h1 h3
  rw[iA ho]at EE
  refine ih _ _ _ _ Bi hC EE (fun p hp=>hq p (aaT.1 hp).1) ?_
  have:=Gv st.size h1 h2
  omega
theorem IK(lz:chk ops=true){i:Nat}{o:Oper}{v:Value}(ho:ops[i]? = some o)(hok:Dy ops T i=true)(hy:∀ w,Cs w→YieldsAt P ops o s w v)(next:DW r P ops Q (i::T) Cs C (s.put o.dst v)):DW r P ops Q T Cs C s:=by
 have hlt:i<ops.size:=(aak.1 ho).1
 simp only[Dy,ho,aaB,aaC,aaN]at hok
 obtain⟨⟨⟨hT,G_⟩,Ub⟩,hns⟩:=hok
 have hT:i∉T:=fun h=>by rw[fH.2 h]at hT;cases hT
 have G_:∀ p∈iu ops i,p∈T:=fun p hp=>fH.1 (G_ p hp)
 have Dj:∀ d,o.dst=some d→d∉o.looksAt ops:=fun d hd=>by
  have:=(tG lz hlt (by rw[iA ho];exact hd)).1
  rwa [lC ho]at this
 have qb:∀ t,o.dst≠some t→(s.put o.dst v).tmps[t]? = s.tmps[t]?:=by
  intro t ht
  cases hd:o.dst with
  | none=>rfl
  | some d=>rw[qV,aaK (fun e=>ht (by rw[hd,e]))]
 intro fuel dj pend a w Bi hC st hq hf
 have hni:∀ p∈pend,p.1≠i:=fun p hp e=>hT (e ▸ st.og p hp)
 refine next fuel dj ((i,v)::pend) a w Bi hC ?_ ?_ hf
 ·constructor
  ·exact st.size
  ·intro j hj
   rw[st.list j hj]
   constructor
   ·rintro⟨h1,h2⟩
    refine⟨aaZ _ h1,fun p hp=>?_⟩
    rcases aaY.1 hp with rfl|hp
    ·intro e
     have e':i=j:=e
     subst e'
     exact hT h1
    ·exact h2 p hp
   ·rintro⟨h1,h2⟩
    refine⟨?_,fun p hp=>h2 p (aaZ _ hp)⟩
    rcases aaY.1 h1 with rfl|h1
    ·exact absurd rfl (h2 (j,v) aa3)
    ·exact h1
  ·intro j hj
   rcases aaY.1 hj with rfl|hj
   ·exact hlt
   ·exact st.Ea j hj
  ·exact st.closed
  ·intro p hp
   rcases aaY.1 hp with rfl|hp
   ·exact aa3
   ·exact aaZ _ (st.og p hp)
  ·exact aa4.2 ⟨fun p hp e=>hni p hp e.symm,st.nodup⟩
  ·rw[←st.defers];cases o.dst<;>rfl
  ·rw[←st.xJ];cases o.dst<;>simp[Act.put]
  ·intro t ht
   rw[qb t (by have:=ht (i,v) aa3;rwa [iA ho]at this)]
   exact st.same t fun p hp=>ht p (aaZ _ hp)
  ·intro p hp d hd hd'
   rcases aaY.1 hp with rfl|hp
   ·rw[iA ho]at hd
    rw[hd,qV,aaJ rfl,aaJ (by rw[st.xJ];exact hd')]
   ·rw[qb d ?_]
    ·exact st.late p hp d hd hd'
    ·intro e
     have h1:=((tG lz hlt (by rw[iA ho];exact e)).2 p.1 (st.Ea _ (st.og p hp)) (hni p hp)).1
     exact h1 hd
 ·intro p hp
  rcases aaY.1 hp with rfl|hp
  ·refine⟨fun q yL=>aaZ _ (G_ q yL),Ub,fun o' ug=>?_,fun o' ug w' hw'=>?_⟩
   ·rw[ho]at ug;cases ug;exact hns
   ·rw[ho]at ug;cases ug
    refine(hy w' hw').congr hns fun t ht=>?_
    rw[qb t (fun e=>Dj t e ht)]
  ·have h:=hq p hp
   refine⟨fun q yL=>aaZ _ (h.EN q yL),h.q,h.ns,fun o' ug w' hw'=>?_⟩
   refine(h.yields o' ug w' hw').congr (h.ns o' ug) fun t ht=>?_
   rw[qb t ?_]
   intro e
   have h1:=Gw Ub (by rw[iA ho];exact e) (st.Ea _ (st.og p hp)) (hni p hp) (by rw[lC ug];exact ht)
   exact hT (h.EN _ h1)
def GZ(ops:Array Oper):Nat→List Nat→List Nat
 | 0,l=>l
 | k+1,l=>GZ ops k (l++(l.flatMap (iu ops)).filter (fun p=>!jw p l)).eraseDups
def wy(ops:Array Oper)(j:Nat):Bool:=match ops[j]? with
 | some o=>(match o.op with
  | .move _=>true
  | _=>false)
 | none=>false
theorem JB{P:Program}{o:Oper}{a:Act}{w x:World}{v:Value}{j:Nat}(ho:ops[j]? = some o)(hm:wy ops j=true)(h:YieldsAt P ops o a w v):YieldsAt P ops o a x v:=by
 unfold wy at hm
 rw[ho]at hm
 simp only at hm
 split at hm
 ·rename_i y hy
  rcases h with⟨h1,h2⟩|h
  ·refine .inl ⟨h1,?_⟩
   simp[execOp,hy]at h2 ⊢
   exact h2
  ·exact .inr h
 ·cases hm
def sync(ops:Array Oper)(T:List Nat)(e:Nat):Bool:=T.all (fun j=>wy ops j||jw j (GZ ops ops.size (iu ops e)))
theorem VL{dj:Array Bool}(hs:dj.size=ops.size)(hcl:∀ i,i<ops.size→dj.getD i true=true → ∀ p∈iu ops i,dj.getD p true=true) :
  ∀ k l,(∀ i∈l,dj.getD i true=true) → ∀ i∈GZ ops k l,dj.getD i true=true:=by
 intro k
 induction k with
 | zero=>intro l h i hi;exact h i hi
 | succ k ih =>
  intro l h i hi
  refine ih _ ?_ i hi
  intro j hj
  rw[List.mem_eraseDups]at hj
  rcases aaR.1 hj with hj|hj
  ·exact h j hj
  ·obtain⟨hj,_⟩:=aaT.1 hj
   obtain⟨m,hm,hjm⟩:=aa5.1 hj
   by_cases PK:m<ops.size
   ·exact hcl m PK (h m hm) j hjm
   ·simp[iu,aa2 (by omega:ops.size≤m)]at hjm
def Bd(ops:Array Oper)(T:List Nat)(e:Nat):Prop :=
 ∀ dj:Array Bool,dj.size=ops.size→(∀ i,i<ops.size→dj.getD i true=true → ∀ p∈iu ops i,dj.getD p true=true) →
  (∀ k∈iu ops e,dj.getD k true=true) → ∀ j∈T,wy ops j=true∨dj.getD j true=true
theorem N_{ops:Array Oper}{T:List Nat}{e:Nat}(h:sync ops T e=true):Bd ops T e:=fun _ hs hcl ha j hj =>
 (aaP _ _ ▸ aaN.1 h j hj:wy ops j=true∨_).imp id fun h=>VL hs hcl _ _ ha _ (fH.1 h)
def Ex(r:Option Nat)(P:Program)(ops:Array Oper)(Q:Exit→Act→World→Prop)(T:List Nat)(Cs C:World→Prop)(s:Act)(e:Nat):Prop :=
 ∃ o,ops[e]? = some o∧Region.wanted o (yielded ops s.tmps)=true∧mf o=true ∧
  ∀ w,Cs w→C w→Yd P o s.eval w (fun v w'=>∃ FB C':World→Prop,FB w' ∧ C' w' ∧ ((∀ x,FB x→Cs x)∨Bd ops T e)∧DW r P ops Q (e::T) FB C' (s.put o.dst v))
def Bh(r:Option Nat)(P:Program)(ops:Array Oper)(Q:Exit→Act→World→Prop)(T:List Nat)(Cs C:World→Prop)(s:Act):List Nat→Prop
 | []=>True
 | e::es=>Ex r P ops Q T Cs C s e∧Bh r P ops Q T Cs C s es
theorem W0{A:List Nat}(h:Bh r P ops Q T Cs C s A):∀ e∈A,Ex r P ops Q T Cs C s e:=by
 induction A with
 | nil=>intro e he;cases he
 | cons x r ih =>
  intro e he
  rcases aaY.1 he with rfl|he
  ·exact h.1
  ·exact ih h.2 e he
theorem NB(lz:chk ops=true)(A:List Nat)(hb:blk ops T A=true)(hn:∃ e∈A,e<ops.size∧jw e T=false)(hA:Bh r P ops Q T Cs C s A):DW r P ops Q T Cs C s:=by
 have hA:=W0 hA
 obtain⟨zk,Ug,ye,zn⟩:=hn
 have zn:zk∉T:=fun h=>by rw[fH.2 h]at zn;cases zn
 intro fuel
 induction fuel with
 | zero =>
  intro dj pend a w _ _ st _ hf
  have hl:dj.getD zk true=false:=by
   cases hx:dj.getD zk true with
   | false=>rfl
   | true=>exact absurd ((st.list zk ye).1 hx).1 zn
  have:=Gv st.size ye hl
  omega
 | succ fuel ih =>
  intro dj pend a w Bi hC st hq hf
  have K9:dj.getD zk true=false:=by
   cases hx:dj.getD zk true with
   | false=>rfl
   | true=>exact absurd ((st.list zk ye).1 hx).1 zn
  refine⟨fun hr=>absurd hr (SB lz st.size zk ye K9),fun i hi=>?_⟩
  obtain⟨h1,h2,h3⟩:=(tM st.size).1 hi
  have hun:=Gv st.size h1 h2
  by_cases hiT:i∈T
  ·have PU:∃ v,(i,v)∈pend:=by
    apply Classical.byContradiction
    intro hno
    have:dj.getD i true=true:=(st.list i h1).2 ⟨hiT,fun p hp hpi=>hno ⟨p.2,hpi ▸ hp⟩⟩
    rw[h2]at this;cases this
   obtain⟨v,hv⟩:=PU
   have ho:ops[i]? = some ops[i]:=by simp[h1]
   refine R9 ho (st.yields lz hq ho hv h3 Bi) ?_
   have EE:=st.step lz hv h1 h3
   rw[iA ho]at EE
   exact ih _ _ _ _ Bi hC EE (fun p hp=>hq p (aaT.1 hp).1) adr
  ·have hiA:i∈A:=by
    have:=aaN.1 hb i (aaO.2 h1)
    simp only[aaP,List.any_eq_true,aaC]at this
    rcases this with(h|h)|⟨p,hp,Uo⟩
    ·exact absurd (fH.1 h) hiT
    ·exact fH.1 h
    ·have xr:=fI (h3 p hp)
     have aao:=GI lz h1 hp
     have:=((st.list p adr).1 xr).1
     rw[fH.2 this]at Uo;cases Uo
   obtain⟨o,ho,Lp,hns,hyd⟩:=hA i hiA
   have Hr:∀ t∈o.looksAt ops,s.tmps[t]? = a.tmps[t]?:=fun t ht =>
    st.reads hq h1 (fun d hd=>(tG lz h1 hd).1) h3 t (by rw[lC ho];exact ht)
   obtain⟨hev,hwe⟩:=RQ Hr
   unfold wpOpIn
   simp only[ho]
   rw[aaJ (by rw[←hwe];exact Lp)]
   refine Yd.wp ?_
   have LG:=hyd w Bi hC
   unfold Yd at LG ⊢
   rw[←execOp_congr o (RO hns) hev]
   change Yd P o s.eval w _
   refine Yd.mono (J:=fun v w'=>∃ FB C':World→Prop,FB w' ∧ C' w' ∧ ((∀ x,FB x→Cs x)∨Bd ops T i)∧DW r P ops Q (i::T) FB C' (s.put o.dst v)) LG ?_
   rintro v w' ⟨FB,C',Ou,hC',hsub,hdw⟩
   have hls:i<dj.size:=by rw[st.size];exact h1
   have hnp:∀ p∈pend,p.1≠i:=fun p hp e=>hiT (e ▸ st.og p hp)
   have Hk:∀ p∈pend,∀ d,me ops p.1=some d→o.dst≠some d:=by
    intro p hp d hd e
    exact((tG lz h1 (by rw[iA ho];exact e)).2 p.1 (st.Ea _ (st.og p hp)) (hnp p hp)).1 hd
   refine hdw fuel _ pend _ w' Ou hC' ?_ ?_ adr
   ·constructor
    ·simp[st.size]
    ·intro j hj
     rw[Fj hls]
     by_cases hji:j=i
     ·subst hji
      simp only[if_true,true_iff]
      exact⟨aa3,hnp⟩
     ·simp only[hji,if_false]
      rw[st.list j hj]
      simp[hji]
    ·intro j hj
     rcases aaY.1 hj with rfl|hj
     ·exact h1
     ·exact st.Ea j hj
    ·intro j hj hl p hp
     rw[Fj hls]at hl ⊢
     split
     ·rfl
     ·split at hl
      ·rename_i e;subst e
       exact fI (h3 p hp)
      ·exact st.closed j hj hl p hp
    ·intro p hp;exact aaZ _ (st.og p hp)
    ·exact st.nodup
    ·have:=st.defers
     cases o.dst<;>exact this
    ·have:=st.xJ
     cases o.dst<;>simp[Act.put,this]
    ·intro t ht
     have hst:=st.same t ht
     cases hd:o.dst with
     | none=>exact hst
     | some d=>rw[qV,qV,st.xJ];split<;>first|rfl|exact hst
    ·intro p hp d hd xg
     have hne:=Hk p hp d hd
     have h0:d<a.tmps.size:=by cases hx:o.dst<;>simp[hx,Act.put]at xg<;>exact xg
     have:=st.late p hp d hd h0
     cases hx:o.dst with
     | none=>exact this
     | some x=>rw[qV,aaK (fun e=>hne (by rw[hx,e]))];exact this
   ·intro p hp
    have h:=hq p hp
    have hpa:p.1∉iu ops i:=fun hm =>
     ((st.list p.1 (st.Ea _ (st.og p hp))).1 (fI (h3 _ hm))).2 p hp rfl
    refine⟨fun q yL=>aaZ _ (h.EN q yL),h.q,h.ns,fun o' ug x hx=>?_⟩
    have hy0:YieldsAt P ops o' s x p.2:=by
     rcases hsub with hsub|Ll
     ·exact h.yields o' ug x (hsub x hx)
     ·rcases Ll dj st.size st.closed (fun k hk=>fI (h3 k hk)) p.1 (st.og p hp)with PN|this
      ·exact JB ug PN (h.yields o' ug w Bi)
      ·exact absurd rfl (((st.list p.1 (st.Ea _ (st.og p hp))).1 this).2 p hp)
    refine hy0.congr (h.ns o' ug) fun t ht=>?_
    cases hd:o.dst with
    | none=>rfl
    | some d =>
     rw[qV,aaK ?_]
     intro e
     subst e
     rcases((tG lz h1 (by rw[iA ho];exact hd)).2 p.1 (st.Ea _ (st.og p hp)) (hnp p hp)).2 (by rw[lC ug];exact ht)with h4|h4
     ·exact hiT (h.EN _ h4)
     ·exact hpa h4
theorem Yj{Nv:World→Prop}(h1:∀ w,Cs w→C w→Nv w)(h2:∀ w,Nv w→Cs w)(h:DW r P ops Q T Nv C s):DW r P ops Q T Cs C s :=
 fun fuel dj pend a w Bi hC st hq hf=>h fuel dj pend a w (h1 w Bi hC) hC st (fun p hp=>⟨(hq p hp).EN,(hq p hp).q,(hq p hp).ns,fun o ho x hx=>(hq p hp).yields o ho x (h2 x hx)⟩) hf
theorem RZ{i:Nat}{l:List Oper}{a:Act}{w:World}(hm:P.follows .mixedOrders=true)(Bi:Cs w.drew)(hC:C w.drew)(h:DW r P l.toArray Q [] Cs C a):Wp r P (.region i l.toArray true) Q a w:=by
 refine wpIn_region_any hm (h _ _ [] a _ Bi hC ?_ (by simp) ?_)
 ·constructor
  ·simp
  ·intro j hj
   have hj':j<l.length:=by simpa using hj
   simp[hj']
  ·simp
  ·intro j hj hl
   have hj':j<l.length:=by simpa using hj
   simp[hj']at hl
  ·simp
  ·simp
  ·rfl
  ·rfl
  ·intro t _;rfl
  ·simp
 ·unfold MR
  exact aai List.countP_le_length (by simp)
end
end Go.Fw
end
