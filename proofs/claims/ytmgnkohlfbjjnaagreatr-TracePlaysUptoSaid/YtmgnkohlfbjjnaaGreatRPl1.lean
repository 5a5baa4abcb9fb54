/- Ground for this claim: The call of TracePlays returns true. Condition: the arguments are of bulk at most 1048576. -/
import Derived.WalkKit
import Derived.RangeFuncLeaves
import Derived.TacticsIn
import Derived.OrdersIn
set_option linter.unusedVariables false
set_option linter.unusedSimpArgs false
section
namespace Go.Fw
def look:List (Nat × Value) → Nat → Option Value
  | [],_=>none
  | (j,v) :: r,i=>bif Nat.beq j i then some v else look r i
structure Fr (n:Nat) (F:List (Nat × Value)) (a:Act) (dd:List Deferred:=[]):Prop where
  defers:a.defers = dd
  size:a.tmps.size = n
  get:∀ i v,look F i = some v → a.tmps[i]? = some v
theorem Fr.put {dd:List Deferred} {n F a d v} (h:Fr n F a dd) (hd:Nat.blt d n = true):Fr n ((d,v) :: F) (a.put (some d) v) dd:=by
  have hd':d < n:=Nat.le_of_ble_eq_true hd
  refine ⟨h.defers,by simp [Act.put,h.size],?_⟩
  intro i u hu
  simp only [look] at hu
  cases hb:Nat.beq d i with
  | true =>
    have:d = i:=Nat.eq_of_beq_eq_true hb
    subst this
    simp at hu
    subst hu
    simp [Act.put,h.size,hd']
  | false =>
    have hne:d ≠ i:=fun e=>by subst e; simp at hb
    simp [hb] at hu
    have:=h.get i u hu
    simp [Act.put,hne,this]
theorem Fr.weaken {dd:List Deferred} {n F G a} (h:Fr n F a dd) (hg:∀ i v,look G i = some v → look F i = some v):Fr n G a dd :=
  ⟨h.defers,h.size,fun i v e=>h.get i v (hg i v e)⟩
def keepF (F:List (Nat × Value)):List Nat → List (Nat × Value)
  | []=>[]
  | k :: ks=>match look F k with
    | some v=>(k,v) :: keepF F ks
    | none=>keepF F ks
theorem tY (F:List (Nat × Value)) (ks:List Nat) (i:Nat) (v:Value) (h:look (keepF F ks) i = some v):look F i = some v:=by
  induction ks with
  | nil=>simp [keepF,look] at h
  | cons k ks ih =>
    simp only [keepF] at h
    split at h
    · rename_i u hu
      simp only [look] at h
      cases hb:Nat.beq k i with
      | true =>
        have:k = i:=Nat.eq_of_beq_eq_true hb
        subst this
        simp at h
        subst h
        exact hu
      | false=>simp [hb] at h; exact ih h
    · exact ih h
theorem sK (F G:List (Nat × Value)) (i:Nat) (v:Value) (h:look (F ++ G) i = some v) :
    look F i = some v ∨ (look F i = none ∧ look G i = some v):=by
  induction F with
  | nil=>exact .inr ⟨rfl,h⟩
  | cons p F ih =>
    obtain ⟨j,u⟩:=p
    simp only [List.cons_append,look] at h ⊢
    cases hb:Nat.beq j i with
    | true=>simp [hb] at h ⊢; exact h
    | false=>simp [hb] at h ⊢; exact ih h
theorem Fr.head {dd:List Deferred} {n F a} (h:Fr n F a dd) (G:List (Nat × Value)) (ks:List Nat)
    (hG:∀ i v,look G i = some v → look F i = some v):Fr n (G ++ keepF F ks) a dd:=by
  refine h.weaken fun i v e=>?_
  rcases sK _ _ _ _ e with e | ⟨_,e⟩
  · exact hG i v e
  · exact tY _ _ _ _ e
def allIn (F:List (Nat × Value)):List (Nat × Value) → Prop
  | []=>True
  | (i,v) :: r=>look F i = some v ∧ allIn F r
theorem mO {F G:List (Nat × Value)} (h:allIn F G) (i:Nat) (v:Value) (e:look G i = some v):look F i = some v:=by
  induction G with
  | nil=>simp [look] at e
  | cons p G ih =>
    obtain ⟨j,u⟩:=p
    simp only [look] at e
    cases hb:Nat.beq j i with
    | true =>
      have:j = i:=Nat.eq_of_beq_eq_true hb
      subst this
      simp at e
      subst e
      exact h.1
    | false=>simp [hb] at e; exact ih h.2 e
theorem Fr.to {dd:List Deferred} {n F a} (h:Fr n F a dd) {G:List (Nat × Value)} (hG:allIn F G):Fr n G a dd:=h.weaken (mO hG)
def ev (F:List (Nat × Value)):Operand → Option Value
  | .tmp t=>look F t
  | .const v=>some v
  | .global g=>some (.pointer (some ⟨g,0,none⟩))
  | .func f=>some (.func (.func f) #[] #[])
theorem Fr.eval {dd:List Deferred} {n F a x v} (h:Fr n F a dd) (he:ev F x = some v):a.eval x = v:=by
  cases x with
  | tmp t =>
    have:=h.get t v he
    simp [Act.eval,Array.getD_eq_getD_getElem?,this]
  | const u=>simpa [ev,Act.eval] using he
  | global g=>simpa [ev,Act.eval] using he
  | func f=>simpa [ev,Act.eval] using he
def evs (F:List (Nat × Value)):List Operand → Option (List Value)
  | []=>some []
  | x :: xs=>match ev F x with
    | some v=>match evs F xs with
      | some vs=>some (v :: vs)
      | none=>none
    | none=>none
theorem Fr.evals {dd:List Deferred} {n F a} (h:Fr n F a dd) {xs:List Operand} {vs:List Value} (he:evs F xs = some vs):xs.map a.eval = vs:=by
  induction xs generalizing vs with
  | nil=>simp [evs] at he; simp [he]
  | cons x xs ih =>
    simp only [evs] at he
    cases hx:ev F x with
    | none=>simp [hx] at he
    | some v =>
      cases hxs:evs F xs with
      | none=>simp [hx,hxs] at he
      | some us =>
        simp [hx,hxs] at he
        subst he
        simp [h.eval hx,ih hxs]
def evps (F:List (Nat × Value)):List (Nat × Operand) → Option (List (Nat × Value))
  | []=>some []
  | (i,x) :: xs=>match ev F x with
    | some v=>match evps F xs with
      | some vs=>some ((i,v) :: vs)
      | none=>none
    | none=>none
theorem Fr.evalps {dd:List Deferred} {n F a} (h:Fr n F a dd) {xs:List (Nat × Operand)} {vs:List (Nat × Value)} (he:evps F xs = some vs) :
    xs.map (fun p=>(p.1,a.eval p.2)) = vs:=by
  induction xs generalizing vs with
  | nil=>simp [evps] at he; simp [he]
  | cons p xs ih =>
    obtain ⟨i,x⟩:=p
    simp only [evps] at he
    cases hx:ev F x with
    | none=>simp [hx] at he
    | some v =>
      cases hxs:evps F xs with
      | none=>simp [hx,hxs] at he
      | some us =>
        simp [hx,hxs] at he
        subst he
        simp [h.eval hx,ih hxs]
theorem Fr.yield {dd:List Deferred} {n F a} (h:Fr n F a dd) {ops:Array Oper} {j t:Nat} {b:Bool} (hj:(ops[j]?).bind (·.dst) = some t) (hb:look F t = some (.bool b)) :
    yielded ops a.tmps j = some b:=by
  have:=h.get t _ hb
  simp [yielded,hj,this]
def idx:Nat → List Value → List (Nat × Value)
  | _,[]=>[]
  | i,v :: vs=>(i,v) :: idx (i + 1) vs
theorem aE9 (vs:List Value):∀ (s i:Nat) (v:Value),look (idx s vs) i = some v → s ≤ i ∧ vs[i - s]? = some v:=by
  induction vs with
  | nil=>intro s i v h; simp [idx,look] at h
  | cons u vs ih =>
    intro s i v h
    simp only [idx,look] at h
    cases hb:Nat.beq s i with
    | true =>
      have:s = i:=Nat.eq_of_beq_eq_true hb
      subst this
      simp at h
      simp [h]
    | false =>
      simp [hb] at h
      obtain ⟨h1,h2⟩:=ih _ _ _ h
      refine ⟨by omega,?_⟩
      rw [show i - s = (i - (s + 1)) + 1 by omega]
      simpa using h2
theorem Fr.enter (vs:List Value) (n:Nat) (hn:Nat.ble vs.length n = true) :
    Fr n (idx 0 vs) { tmps:=vs.toArray ++ Array.replicate (n - vs.toArray.size) undef,defers:=[] }:=by
  have hn':vs.length ≤ n:=Nat.le_of_ble_eq_true hn
  refine ⟨rfl,by simp; omega,?_⟩
  intro i v h
  obtain ⟨_,h2⟩:=aE9 vs 0 i v h
  have hi:i < vs.length:=by
    rcases Nat.lt_or_ge i vs.length with h' | h'
    · exact h'
    · simp [List.getElem?_eq_none h'] at h2
  simp only [Nat.sub_zero] at h2
  simpa [Array.getElem?_append,hi] using h2
structure Same (lo:Nat) (S:List Nat) (w1 w:World):Prop where
  size:w1.heap.size ≤ w.heap.size
  block:∀ k,lo ≤ k → k < w1.heap.size → k ∉ S → w.heap[k]? = w1.heap[k]?
structure Io (w1 w:World):Prop where
  os:w.os = w1.os
  tape:w.tape = w1.tape
  output:w.output = w1.output
theorem Io.refl (w:World):Io w w:=⟨rfl,rfl,rfl⟩
theorem Io.trans {a b c:World} (h:Io a b) (k:Io b c):Io a c:=⟨k.os.trans h.os,k.tape.trans h.tape,k.output.trans h.output⟩
structure Keeps (S:List Nat) (w w':World):Prop where
  io:Io w w'
  size:w.heap.size ≤ w'.heap.size
  block:∀ k,k < w.heap.size → k ∉ S → w'.heap[k]? = w.heap[k]?
theorem Keeps.refl (w:World):Keeps [] w w:=⟨Io.refl w,Nat.le_refl _,fun _ _ _=>rfl⟩
theorem Keeps.trans {S} {a b c:World} (h:Keeps S a b) (k:Keeps S b c):Keeps S a c :=
  ⟨h.io.trans k.io,Nat.le_trans h.size k.size,fun i hi hs=>(k.block i (Nat.lt_of_lt_of_le hi h.size) hs).trans (h.block i hi hs)⟩
inductive Res where
  | obj (b:Nat) (o:Obj)
  | same (w1:World) (lo:Nat) (S:List Nat)
  | io (w1:World)
  | row (lo:Nat) (v:Value) (e sz n:Nat) (xs:List Value)
  | gen (f:Nat → Prop) (Q:World → Prop)
abbrev pt (b:Nat) (cs:List Value) (T:TypeId):Res:=.obj b (.cells cs.toArray T (0,0))
def Res.fp:Res → Nat → Prop
  | .obj b _,k=>k = b
  | .same w1 lo S,k=>lo ≤ k ∧ k < w1.heap.size ∧ k ∉ S
  | .io _,_=>False
  | .row _ v _ _ _ _,k=>v.ownBlock = some k
  | .gen f _,k=>f k
def Res.holds (w:World):Res → Prop
  | .obj b o=>w.heap[b]? = some o
  | .same w1 lo S=>Same lo S w1 w
  | .io w1=>Io w1 w
  | .row lo v e sz n xs=>w.ownsRow lo e sz v n xs
  | .gen f Q=>(∀ k,f k → k < w.heap.size) ∧ ∀ w',Io w w' → w.heap.size ≤ w'.heap.size → (∀ k,f k → w'.heap[k]? = w.heap[k]?) → Q w'
abbrev Res.holds' (r:Res) (w:World):Prop:=r.holds w
structure MemL (w:World) (L:List Res):Prop where
  hold:∀ (i:Nat) (r:Res),L[i]? = some r → r.holds w
  apart:∀ (i j:Nat) (r s:Res),L[i]? = some r → L[j]? = some s → i ≠ j → ∀ k,r.fp k → ¬ s.fp k
theorem Res.fp_lt {w:World} {r:Res} (h:r.holds w) {k:Nat} (hk:r.fp k):k < w.heap.size:=by
  cases r with
  | obj b o =>
    simp only [Res.fp] at hk; subst hk
    exact (Array.getElem?_eq_some_iff.1 h).1
  | same w1 lo S=>exact Nat.lt_of_lt_of_le hk.2.1 h.size
  | io w1=>exact hk.elim
  | row lo v e sz n xs=>exact (World.ownsRow.lt h k hk).2
  | gen f Q=>exact h.1 k hk
theorem Res.keep {w w':World} {r:Res} (h:r.holds w) (hio:Io w w') (hs:w.heap.size ≤ w'.heap.size)
    (hk:∀ k,r.fp k → w'.heap[k]? = w.heap[k]?):r.holds w':=by
  cases r with
  | obj b o=>exact (hk b rfl).trans h
  | same w1 lo S=>exact ⟨Nat.le_trans h.size hs,fun k h1 h2 h3=>(hk k ⟨h1,h2,h3⟩).trans (h.block k h1 h2 h3)⟩
  | io w1=>exact Io.trans h hio
  | row lo v e sz n xs =>
    obtain ⟨h1,h2⟩:=h
    refine ⟨h1,?_⟩
    rcases h2 with h2 | ⟨g,cap,cur,hv,hg,hh,r⟩
    · exact .inl h2
    · refine .inr ⟨g,cap,cur,hv,hg,?_,r⟩
      rw [hk g (by simp [Res.fp,hv,Value.ownBlock]),hh]
  | gen f Q=>exact ⟨fun k h1=>Nat.lt_of_lt_of_le (h.1 k h1) hs,fun w2 i2 s2 k2=>h.2 w2 (hio.trans i2) (Nat.le_trans hs s2) fun k h1=>(k2 k h1).trans (hk k h1)⟩
section
variable {w w':World} {L:List Res}
theorem MemL.keep (h:MemL w L) (k:Keeps [] w w'):MemL w' L :=
  ⟨fun i r hi=>Res.keep (h.hold i r hi) k.io k.size fun j hj=>k.block j (Res.fp_lt (h.hold i r hi) hj) (by simp),h.apart⟩
theorem MemL.add (h:MemL w L) (k:Keeps [] w w') {r:Res} (hr:r.holds w') (hf:∀ j,r.fp j → w.heap.size ≤ j):MemL w' (r :: L):=by
  have hk:=h.keep k
  constructor
  · intro i s hi
    cases i with
    | zero=>simp at hi; subst hi; exact hr
    | succ i=>simp at hi; exact hk.hold i s hi
  · intro i j s t hi hj hij k' hs ht
    cases i with
    | zero =>
      cases j with
      | zero=>exact hij rfl
      | succ j =>
        simp at hi hj; subst hi
        have h1:=hf k' hs
        have h2:=Res.fp_lt (h.hold j t hj) ht
        omega
    | succ i =>
      cases j with
      | zero =>
        simp at hi hj; subst hj
        have h1:=hf k' ht
        have h2:=Res.fp_lt (h.hold i s hi) hs
        omega
      | succ j =>
        simp at hi hj
        exact h.apart i j s t hi hj (by omega) k' hs ht
theorem MemL.upd (h:MemL w L) (i:Nat) {r r':Res} (hi:L[i]? = some r) (hio:Io w w') (hs:w.heap.size ≤ w'.heap.size)
    (hk:∀ k,k < w.heap.size → ¬ r.fp k → w'.heap[k]? = w.heap[k]?) (hr:r'.holds w') (hf:∀ k,r'.fp k → r.fp k ∨ w.heap.size ≤ k):MemL w' (L.set i r'):=by
  have hlt:i < L.length:=(List.getElem?_eq_some_iff.1 hi).1
  constructor
  · intro j s hj
    by_cases hij:i = j
    · subst hij
      simp [hlt] at hj
      subst hj
      exact hr
    · rw [List.getElem?_set_ne hij] at hj
      exact Res.keep (h.hold j s hj) hio hs fun k hf'=>hk k (Res.fp_lt (h.hold j s hj) hf') fun hrk=>h.apart i j r s hi hj hij k hrk hf'
  · intro a b s t ha hb hab k hs' ht'
    by_cases hia:i = a
    · subst hia
      simp [hlt] at ha
      subst ha
      rw [List.getElem?_set_ne hab] at hb
      rcases hf k hs' with h1 | h1
      · exact h.apart i b r t hi hb hab k h1 ht'
      · have:=Res.fp_lt (h.hold b t hb) ht'; omega
    · rw [List.getElem?_set_ne hia] at ha
      by_cases hib:i = b
      · subst hib
        simp [hlt] at hb
        subst hb
        rcases hf k ht' with h1 | h1
        · exact h.apart a i s r ha hi hab k hs' h1
        · have:=Res.fp_lt (h.hold a s ha) hs'; omega
      · rw [List.getElem?_set_ne hib] at hb
        exact h.apart a b s t ha hb hab k hs' ht'
def sel (L:List Res):List Nat → List Res
  | []=>[]
  | i :: is=>match L[i]? with
    | some r=>r :: sel L is
    | none=>sel L is
def nodupN:List Nat → Bool
  | []=>true
  | i :: is=>!is.contains i && nodupN is
theorem qW (L:List Res):∀ (is:List Nat) (j:Nat) (r:Res),(sel L is)[j]? = some r → ∃ i ∈ is,L[i]? = some r:=by
  intro is
  induction is with
  | nil=>intro j r h; simp [sel] at h
  | cons i is ih =>
    intro j r h
    simp only [sel] at h
    split at h
    · rename_i s hs
      cases j with
      | zero=>simp at h; subst h; exact ⟨i,by simp,hs⟩
      | succ j=>simp at h; obtain ⟨k,hk,e⟩:=ih j r h; exact ⟨k,by simp [hk],e⟩
    · obtain ⟨k,hk,e⟩:=ih j r h; exact ⟨k,by simp [hk],e⟩
theorem MemL.sel (h:MemL w L) (is:List Nat) (hn:nodupN is = true):MemL w (sel L is):=by
  constructor
  · intro j r hj
    obtain ⟨i,_,e⟩:=qW L is j r hj
    exact h.hold i r e
  · induction is with
    | nil=>intro i j r s hi; simp [Fw.sel] at hi
    | cons i is ih =>
      simp only [nodupN,Bool.and_eq_true,Bool.not_eq_true',List.contains_eq_mem,decide_eq_false_iff_not] at hn
      intro a b r s ha hb hab k hr hs
      simp only [Fw.sel] at ha hb
      split at ha
      · rename_i t ht
        rw [ht] at hb
        cases a with
        | zero =>
          cases b with
          | zero=>exact hab rfl
          | succ b =>
            simp at ha hb; subst ha
            obtain ⟨m,hm,e⟩:=qW L is b s hb
            exact h.apart i m t s ht e (fun x=>hn.1 (x ▸ hm)) k hr hs
        | succ a =>
          cases b with
          | zero =>
            simp at ha hb; subst hb
            obtain ⟨m,hm,e⟩:=qW L is a r ha
            exact h.apart m i r t e ht (fun x=>hn.1 (x ▸ hm)) k hr hs
          | succ b=>simp at ha hb; exact ih hn.2 a b r s ha hb (by omega) k hr hs
      · rename_i hnone
        rw [hnone] at hb
        exact ih hn.2 a b r s ha hb hab k hr hs
theorem MemL.obj (h:MemL w L) {i b:Nat} {o:Obj} (hi:L[i]? = some (.obj b o)):w.heap[b]? = some o:=h.hold i _ hi
theorem MemL.same (h:MemL w L) {i:Nat} {w1:World} {lo:Nat} {S:List Nat} (hi:L[i]? = some (.same w1 lo S)):Same lo S w1 w:=h.hold i _ hi
theorem MemL.io (h:MemL w L) {i:Nat} {w1:World} (hi:L[i]? = some (.io w1)):Io w1 w:=h.hold i _ hi
theorem MemL.row (h:MemL w L) {i lo e sz n:Nat} {v:Value} {xs:List Value} (hi:L[i]? = some (.row lo v e sz n xs)):w.ownsRow lo e sz v n xs:=h.hold i _ hi
theorem MemL.gen (h:MemL w L) {i:Nat} {f:Nat → Prop} {Q:World → Prop} (hi:L[i]? = some (.gen f Q)):Q w :=
  (h.hold i _ hi).2 w (Io.refl w) (Nat.le_refl _) fun _ _=>rfl
theorem MemL.freeze {r:Res} (h:MemL w (r :: L)):MemL w (.gen r.fp r.holds' :: L):=by
  have h0:=h.hold 0 r rfl
  constructor
  · intro i s hi
    cases i with
    | zero =>
      simp at hi; subst hi
      exact ⟨fun k hk=>Res.fp_lt h0 hk,fun w' i' s' k'=>Res.keep h0 i' s' k'⟩
    | succ i=>exact h.hold (i + 1) s (by simpa using hi)
  · intro i j s t hi hj hij k hs ht
    cases i with
    | zero =>
      cases j with
      | zero=>exact hij rfl
      | succ j=>simp at hi; subst hi; exact h.apart 0 (j + 1) r t rfl (by simpa using hj) hij k hs ht
    | succ i =>
      cases j with
      | zero=>simp at hj; subst hj; exact h.apart (i + 1) 0 s r (by simpa using hi) rfl hij k hs ht
      | succ j=>exact h.apart (i + 1) (j + 1) s t (by simpa using hi) (by simpa using hj) hij k hs ht
theorem MemL.weak {f:Nat → Prop} {Q Q':World → Prop} (h:MemL w (.gen f Q :: L)) (hq:∀ w,Q w → Q' w):MemL w (.gen f Q' :: L):=by
  have h0:=h.hold 0 _ rfl
  constructor
  · intro i s hi
    cases i with
    | zero=>simp at hi; subst hi; exact ⟨h0.1,fun w' a b c=>hq _ (h0.2 w' a b c)⟩
    | succ i=>exact h.hold (i + 1) s (by simpa using hi)
  · intro i j s t hi hj hij k hs ht
    cases i with
    | zero =>
      cases j with
      | zero=>exact hij rfl
      | succ j=>simp at hi; subst hi; exact h.apart 0 (j + 1) (.gen f Q) t rfl (by simpa using hj) hij k hs ht
    | succ i =>
      cases j with
      | zero=>simp at hj; subst hj; exact h.apart (i + 1) 0 s (.gen f Q) (by simpa using hi) rfl hij k hs ht
      | succ j=>exact h.apart (i + 1) (j + 1) s t (by simpa using hi) (by simpa using hj) hij k hs ht
theorem MemL.both {r s:Res} (h:MemL w (r :: s :: L)):MemL w (.gen (fun k=>r.fp k ∨ s.fp k) (fun w=>r.holds' w ∧ s.holds' w) :: L):=by
  have h0:=h.hold 0 r rfl
  have h1:=h.hold 1 s rfl
  constructor
  · intro i t hi
    cases i with
    | zero =>
      simp at hi; subst hi
      exact ⟨fun k hk=>hk.elim (Res.fp_lt h0) (Res.fp_lt h1),fun w' i' s' k'=>⟨Res.keep h0 i' s' fun k hk=>k' k (.inl hk),Res.keep h1 i' s' fun k hk=>k' k (.inr hk)⟩⟩
    | succ i=>exact h.hold (i + 2) t (by simpa using hi)
  · have key:∀ (i:Nat) (t:Res),L[i]? = some t → ∀ k,(r.fp k ∨ s.fp k) → ¬ t.fp k:=fun i t hi k hk ht=>hk.elim (fun hk=>h.apart 0 (i + 2) r t rfl (by simpa using hi) (by omega) k hk ht) fun hk=>h.apart 1 (i + 2) s t rfl (by simpa using hi) (by omega) k hk ht
    intro i j a b hi hj hij k ha hb
    cases i with
    | zero =>
      cases j with
      | zero=>exact hij rfl
      | succ j=>simp at hi; subst hi; exact key j b (by simpa using hj) k ha hb
    | succ i =>
      cases j with
      | zero=>simp at hj; subst hj; exact key i a (by simpa using hi) k hb ha
      | succ j=>exact h.apart (i + 2) (j + 2) a b (by simpa using hi) (by simpa using hj) (by omega) k ha hb
theorem MemL.void (h:MemL w L) {Q:World → Prop} (hq:∀ w,Q w):MemL w (.gen (fun _=>False) Q :: L) :=
  h.add (Keeps.refl w) ⟨fun _ hk=>hk.elim,fun w' _ _ _=>hq w'⟩ fun _ hk=>hk.elim
theorem MemL.start (w:World):MemL w [.same w 0 [],.io w]:=by
  constructor
  · intro i r hi
    match i,hi with
    | 0,hi=>simp at hi; subst hi; exact ⟨Nat.le_refl _,fun _ _ _ _=>rfl⟩
    | 1,hi=>simp at hi; subst hi; exact Io.refl w
  · intro i j r s hi hj hij k hr hs
    match i,j,hi,hj with
    | 0,0,_,_=>exact hij rfl
    | 0,1,hi,hj=>simp at hj; subst hj; exact hs
    | 1,0,hi,hj=>simp at hi; subst hi; exact hr
    | 1,1,_,_=>exact hij rfl
theorem MemL.keeps {w0:World} {S:List Nat} (h:MemL w L) {i j:Nat} (hi:L[i]? = some (.same w0 0 S)) (hj:L[j]? = some (.io w0)):Keeps S w0 w :=
  ⟨h.io hj,(h.same hi).size,fun k hk hs=>(h.same hi).block k (Nat.zero_le _) hk hs⟩
end
end Go.Fw
end
section
namespace Go.Fw
open Go.RowKit
structure SV where
  a:Option Addr
  len:Nat
  cap:Nat
deriving DecidableEq
abbrev SV.v (s:SV):Value:=.slice s.a s.len s.cap
abbrev SV.nil:SV:=⟨none,0,0⟩
def Cells (w:World) (b off:Nat) (vs:List Value):Prop:=∀ j v,vs[j]? = some v → w.cell? ⟨b,off + j,none⟩ = some v
def cut {α:Type} (l:List α) (off n:Nat):List α:=(l.drop off).take n
theorem lH {α:Type} (l:List α) (off n j:Nat) (v:α) (h:(cut l off n)[j]? = some v):j < n ∧ l[off + j]? = some v:=by
  unfold cut at h
  rw [List.getElem?_take] at h
  split at h
  · exact ⟨by assumption,by rw [List.getElem?_drop] at h; exact h⟩
  · cases h
theorem sY {w:World} {b off:Nat} {cs:List Value} {T:TypeId} {fz:Nat × Nat} {v:Value} (hb:w.heap[b]? = some (.cells cs.toArray T fz)) (h:cs[off]? = some v) :
    w.cell? ⟨b,off,none⟩ = some v:=by
  simp [World.cell?,hb,h]
theorem lS {w:World} {b off n:Nat} {cs vs:List Value} {T:TypeId} {fz:Nat × Nat} (hb:w.heap[b]? = some (.cells cs.toArray T fz)) (h:cut cs off n = vs):Cells w b off vs:=by
  intro j v hv
  subst h
  exact sY hb (lH _ _ _ _ _ hv).2
section
variable {L:List Res} {w:World}
theorem MemL.cell (h:MemL w L) {i b off:Nat} {cs:List Value} {T:TypeId} {v:Value} (hi:L[i]? = some (pt b cs T)) (hv:cs[off]? = some v) :
    w.cell? ⟨b,off,none⟩ = some v:=sY (h.obj hi) hv
theorem MemL.cells (h:MemL w L) {i b off n:Nat} {cs vs:List Value} {T:TypeId} (hi:L[i]? = some (pt b cs T)) (hv:cut cs off n = vs):Cells w b off vs:=lS (h.obj hi) hv
theorem Same.cell {lo:Nat} {S:List Nat} {w1:World} (h:Same lo S w1 w) {a:Addr} {v:Value} (hc:w1.cell? a = some v) (hlo:lo ≤ a.block) (hS:a.block ∉ S):w.cell? a = some v:=by
  have hlt:a.block < w1.heap.size:=World.block_lt_of_cell? w1 a hc
  rw [World.cell?_of_block (h.block a.block hlo hlt hS)]
  exact hc
theorem Same.cells {lo:Nat} {S:List Nat} {w1:World} (h:Same lo S w1 w) {b off:Nat} {vs:List Value} (hc:Cells w1 b off vs) (hlo:lo ≤ b) (hS:b ∉ S):Cells w b off vs :=
  fun j v hv=>h.cell (hc j v hv) hlo hS
end
section
variable {P:Program} {n:Nat} {F:List (Nat × Value)} {a:Act} {dd:List Deferred} {w:World} {o:Oper}
theorem aF {x:Operand} {v:Value} (hF:Fr n F a dd) (ho:o.op = .move x) (hx:ev F x = some v):(execOp a.eval o).run P w = .ok (.value v) w:=by
  simp [execOp,ho,hF.eval hx]
theorem aH {x:Operand} {v:Value} (hF:Fr n F a dd) (ho:o.op = .assign x) (hx:ev F x = some v):(execOp a.eval o).run P w = .ok (.value v) w:=by
  simp [execOp,ho,hF.eval hx]
theorem aP {c x y:Operand} {b:Bool} {v:Value} (hF:Fr n F a dd) (ho:o.op = .pick c x y) (hc:ev F c = some (.bool b)) (hb:b = true) (hx:ev F x = some v):(execOp a.eval o).run P w = .ok (.value v) w:=by
  simp [execOp,ho,hF.eval hc,hF.eval hx,hb,asBool]
theorem aZ {c x y:Operand} {b:Bool} {v:Value} (hF:Fr n F a dd) (ho:o.op = .pick c x y) (hc:ev F c = some (.bool b)) (hb:b = false) (hx:ev F y = some v):(execOp a.eval o).run P w = .ok (.value v) w:=by
  simp [execOp,ho,hF.eval hc,hF.eval hx,hb,asBool]
theorem kT {x:Int} (h : -9223372036854775808 ≤ x ∧ x ≤ 9223372036854775807):IntKind.i64.wrap x = x:=IntWalk.i64_in x h
theorem bW {t yt:TypeId} {x y:Operand} {k:IntKind} {i j:Int} (hF:Fr n F a dd) (ho:o.op = .binOp .add t x y yt) (hx:ev F x = some (.int k i)) (hy:ev F y = some (.int k j)) :
    (execOp a.eval o).run P w = .ok (.value (.int k (k.wrap (i + j)))) w:=by
  simp [execOp,ho,hF.eval hx,hF.eval hy,eqGuard,binOp,Op.intArith]
theorem eS {t yt:TypeId} {x y:Operand} {k:IntKind} {i j:Int} (hF:Fr n F a dd) (ho:o.op = .binOp .sub t x y yt) (hx:ev F x = some (.int k i)) (hy:ev F y = some (.int k j)) :
    (execOp a.eval o).run P w = .ok (.value (.int k (k.wrap (i - j)))) w:=by
  simp [execOp,ho,hF.eval hx,hF.eval hy,eqGuard,binOp,Op.intArith]
theorem cK {t yt:TypeId} {x y:Operand} {k:IntKind} {i j:Int} (hF:Fr n F a dd) (ho:o.op = .binOp .lss t x y yt) (hx:ev F x = some (.int k i)) (hy:ev F y = some (.int k j)) :
    (execOp a.eval o).run P w = .ok (.value (.bool (decide (i < j)))) w:=by
  simp [execOp,ho,hF.eval hx,hF.eval hy,eqGuard,binOp,Op.intCmp]
theorem qP {t yt:TypeId} {x y:Operand} {k:IntKind} {i j:Int} (hF:Fr n F a dd) (ho:o.op = .binOp .leq t x y yt) (hx:ev F x = some (.int k i)) (hy:ev F y = some (.int k j)) :
    (execOp a.eval o).run P w = .ok (.value (.bool (decide (i ≤ j)))) w:=by
  simp [execOp,ho,hF.eval hx,hF.eval hy,eqGuard,binOp,Op.intCmp]
theorem eR {t yt:TypeId} {x y:Operand} {k:IntKind} {i j:Int} (hF:Fr n F a dd) (ho:o.op = .binOp .gtr t x y yt) (hx:ev F x = some (.int k i)) (hy:ev F y = some (.int k j)) :
    (execOp a.eval o).run P w = .ok (.value (.bool (decide (j < i)))) w:=by
  simp [execOp,ho,hF.eval hx,hF.eval hy,eqGuard,binOp,Op.intCmp]
theorem jH {t yt:TypeId} {x y:Operand} {k:IntKind} {i j:Int} (hF:Fr n F a dd) (ho:o.op = .binOp .geq t x y yt) (hx:ev F x = some (.int k i)) (hy:ev F y = some (.int k j)) :
    (execOp a.eval o).run P w = .ok (.value (.bool (decide (j ≤ i)))) w:=by
  simp [execOp,ho,hF.eval hx,hF.eval hy,eqGuard,binOp,Op.intCmp]
theorem dG {t yt:TypeId} {x y:Operand} {k:IntKind} {i j:Int} (hF:Fr n F a dd) (ho:o.op = .binOp .eql t x y yt) (hx:ev F x = some (.int k i)) (hy:ev F y = some (.int k j)) :
    (execOp a.eval o).run P w = .ok (.value (.bool (decide (i = j)))) w:=by
  simp [execOp,ho,hF.eval hx,hF.eval hy,eqGuard,binOp,Op.intCmp]
  rfl
theorem dD {t yt:TypeId} {x y:Operand} {k:IntKind} {i j:Int} (hF:Fr n F a dd) (ho:o.op = .binOp .neq t x y yt) (hx:ev F x = some (.int k i)) (hy:ev F y = some (.int k j)) :
    (execOp a.eval o).run P w = .ok (.value (.bool (!decide (i = j)))) w:=by
  simp [execOp,ho,hF.eval hx,hF.eval hy,eqGuard,binOp,Op.intCmp]
  rfl
theorem run_equalIn_bool (d:Nat) {t:TypeId} {i j:Bool} (hu:P.underlying t = some .bool):(Op.equalIn (d + 1) t (.bool i) (.bool j)).run P w = .ok (decide (i = j)) w:=by
  simp [Op.equalIn,run_underlying hu]
  cases i <;> cases j <;> rfl
theorem run_equal_bool {t:TypeId} {i j:Bool} (hu:P.underlying t = some .bool):(Op.equal t (.bool i) (.bool j)).run P w = .ok (decide (i = j)) w :=
  run_equalIn_bool 9999 hu
theorem aJa {t yt:TypeId} {x y:Operand} {i j:Bool} (hu:P.underlying t = some .bool) (hF:Fr n F a dd) (ho:o.op = .binOp .eql t x y yt) (hx:ev F x = some (.bool i)) (hy:ev F y = some (.bool j)) :
    (execOp a.eval o).run P w = .ok (.value (.bool (decide (i = j)))) w:=by
  simp only [execOp,ho,hF.eval hx,hF.eval hy,eqGuard,binOp]
  simp [run_equal_bool hu]
theorem aBi {t yt:TypeId} {x y:Operand} {i j:Bool} (hu:P.underlying t = some .bool) (hF:Fr n F a dd) (ho:o.op = .binOp .neq t x y yt) (hx:ev F x = some (.bool i)) (hy:ev F y = some (.bool j)) :
    (execOp a.eval o).run P w = .ok (.value (.bool (!decide (i = j)))) w:=by
  simp only [execOp,ho,hF.eval hx,hF.eval hy,eqGuard,binOp]
  simp [run_equal_bool hu]
theorem aJb {t yt:TypeId} {x y:Operand} {i j:ByteArray} (hF:Fr n F a dd) (ho:o.op = .binOp .eql t x y yt) (hx:ev F x = some (.string i)) (hy:ev F y = some (.string j)) :
    (execOp a.eval o).run P w = .ok (.value (.bool (i.toList == j.toList))) w:=by
  simp only [execOp,ho,hF.eval hx,hF.eval hy,eqGuard,binOp,Op.stringOp]
  rfl
def band (k:IntKind) (x y:Int):Int:=k.wrap ((BitVec.ofInt k.bits x &&& BitVec.ofInt k.bits y).toNat:Int)
def bor (k:IntKind) (x y:Int):Int:=k.wrap ((BitVec.ofInt k.bits x ||| BitVec.ofInt k.bits y).toNat:Int)
def bxor (k:IntKind) (x y:Int):Int:=k.wrap ((BitVec.ofInt k.bits x ^^^ BitVec.ofInt k.bits y).toNat:Int)
def bandn (k:IntKind) (x y:Int):Int:=k.wrap ((BitVec.ofInt k.bits x &&& ~~~ BitVec.ofInt k.bits y).toNat:Int)
def shl (k:IntKind) (x:Int) (y:Nat):Int:=k.wrap (x * 2 ^ min y k.bits)
def shr (k:IntKind) (x:Int) (y:Nat):Int:=x.fdiv (2 ^ min y k.bits)
theorem aKn {t yt:TypeId} {x y:Operand} {k:IntKind} {i j:Int} (hF:Fr n F a dd) (ho:o.op = .binOp .xor t x y yt) (hx:ev F x = some (.int k i)) (hy:ev F y = some (.int k j)) :
    (execOp a.eval o).run P w = .ok (.value (.int k (bxor k i j))) w:=by
  simp [execOp,ho,hF.eval hx,hF.eval hy,eqGuard,binOp,Op.intBits,bxor]
theorem dF {t:TypeId} {x:Operand} {b:Bool} (hF:Fr n F a dd) (ho:o.op = .unOp .not t x) (hx:ev F x = some (.bool b)):(execOp a.eval o).run P w = .ok (.value (.bool (!b))) w:=by
  simp [execOp,ho,hF.eval hx,Op.unary]
theorem aKi {t e:TypeId} {x:Operand} {s:SV} (ht:P.underlying t = some (.slice e)) (hF:Fr n F a dd) (ho:o.op = .call { callee:=.builtin .len,args:=#[x],argTypes:=#[t] }) (hx:ev F x = some s.v) :
    (execOp a.eval o).run P w = .ok (.value (.int .i64 s.len)) w:=by
  simp [execOp,ho,resolve,invoke,builtin,Builtin.len_,hF.eval hx,run_underlying ht,goInt]
theorem cZ {x:Operand} {i:Nat} {vs:List Value} {v:Value} (hF:Fr n F a dd) (ho:o.op = .extract x i) (hx:ev F x = some (.tuple vs.toArray)) (hv:vs[i]? = some v) :
    (execOp a.eval o).run P w = .ok (.value v) w:=by
  simp [execOp,ho,hF.eval hx,Instr.extract,hv]
theorem fO {fn:Fn} {fs cs:List Operand} {us vs:List Value} (hF:Fr n F a dd) (ho:o.op = .makeFunc fn fs.toArray cs.toArray) (hf:evs F fs = some us) (hc:evs F cs = some vs) :
    (execOp a.eval o).run P w = .ok (.value (.func fn us.toArray vs.toArray)) w:=by
  simp [execOp,ho,Instr.makeFunc,hF.evals hf,hF.evals hc]
theorem eB (b off m:Nat):(⟨b,off,none⟩ : Addr).add m = ⟨b,off + m,none⟩:=by unfold Addr.add; split <;> simp_all
theorem aC {t ft:TypeId} {x:Operand} {i b off off' fo:Nat} {fs:Array Field} {ti:TypeInfo} (ht:P.underlying t = some (.struct fs)) (hf:(fs[i]?).map (fun f=>(f.offset,f.type)) = some (fo,ft)) (hi:P.info? ft = some ti) (hz:Nat.beq ti.size 0 = false)
    (hF:Fr n F a dd) (ho:o.op = .fieldAddr t x i) (hx:ev F x = some (.pointer (some ⟨b,off,none⟩))) (hoff:off + fo = off') :
    (execOp a.eval o).run P w = .ok (.value (.pointer (some ⟨b,off',none⟩))) w:=by
  have hz':ti.size ≠ 0:=fun e=>by rw [e] at hz; cases hz
  subst hoff
  obtain ⟨f,hf1,hft⟩:=Option.map_eq_some_iff.1 hf
  simp only [Prod.mk.injEq] at hft
  obtain ⟨rfl,rfl⟩:=hft
  simp [execOp,ho,hF.eval hx,Instr.fieldAt,run_underlying ht,hf1,Instr.sureAddr,fieldPlace,sizeOf,typeInfo,hi,hz',eB]
theorem sM {t e:TypeId} {x y:Operand} {b off len cap sz:Nat} {k:IntKind} {i:Int} {ti:TypeInfo} (ht:P.underlying t = some (.slice e)) (hi:P.info? e = some ti) (hs:ti.size = sz)
    (hF:Fr n F a dd) (ho:o.op = .indexAddr t x y) (hx:ev F x = some (.slice (some ⟨b,off,none⟩) len cap)) (hy:ev F y = some (.int k i)) (h:0 ≤ i ∧ i < (len:Int)) :
    (execOp a.eval o).run P w = .ok (.value (.pointer (some ⟨b,off + i.toNat * sz,none⟩))) w:=by
  simp [execOp,ho,hF.eval hx,hF.eval hy,Instr.indexAt,asIntOf,run_underlying ht,h,sizeOf,typeInfo,hi,hs,eB]
theorem cP {t e:TypeId} {x y:Operand} {b off len sz:Nat} {k:IntKind} {i:Int} {ti:TypeInfo} (ht:P.underlying t = some (.array len e)) (hi:P.info? e = some ti) (hs:ti.size = sz)
    (hF:Fr n F a dd) (ho:o.op = .indexAddr t x y) (hx:ev F x = some (.pointer (some ⟨b,off,none⟩))) (hy:ev F y = some (.int k i)) (h:0 ≤ i ∧ i < (len:Int)) :
    (execOp a.eval o).run P w = .ok (.value (.pointer (some ⟨b,off + i.toNat * sz,none⟩))) w:=by
  simp [execOp,ho,hF.eval hx,hF.eval hy,Instr.indexAt,asIntOf,run_underlying ht,Instr.sureAddr,h,sizeOf,typeInfo,hi,hs,eB]
theorem aI {t:TypeId} {x:Operand} {b off:Nat} {v:Value} (ht:∀ w,(isAgg t).run P w = .ok false w) (hF:Fr n F a dd) (ho:o.op = .load t x) (hx:ev F x = some (.pointer (some ⟨b,off,none⟩)))
    (hc:w.cell? ⟨b,off,none⟩ = some v):(execOp a.eval o).run P w = .ok (.value v) w:=by
  simp [execOp,ho,hF.eval hx,Instr.loadAt,Instr.sureAddr,loadVar,ht,hc]
theorem run_loadCells (w:World) (b off:Nat) (vs:List Value) (h:Cells w b off vs):(loadCells ⟨b,off,none⟩ vs.length).run P w = .ok vs.toArray w :=
  run_loadCells_list (P:=P) w ⟨b,off,none⟩ vs fun j v hv=>by rw [eB]; exact h j v hv
theorem aQ {t:TypeId} {x:Operand} {b off sz:Nat} {vs:List Value} (ht:∀ w,(isAgg t).run P w = .ok true w) (hs:∀ w,(sizeOf t).run P w = .ok sz w) (hF:Fr n F a dd) (ho:o.op = .load t x) (hx:ev F x = some (.pointer (some ⟨b,off,none⟩)))
    (hl:vs.length = sz) (hc:Cells w b off vs):(execOp a.eval o).run P w = .ok (.value (.agg vs.toArray)) w:=by
  subst hl
  simp [execOp,ho,hF.eval hx,Instr.loadAt,Instr.sureAddr,loadVar,ht,hs,run_loadCells w b off vs hc]
end
end Go.Fw
end
section
namespace Go.Fw
def Ret (R:Value → World → Prop):Ending → World → Prop
  | .returned v,w=>R v w
  | _,_=>False
abbrev Wd (r:Option Nat):Fence:={ Fence.wide with round:=r }
theorem pM {r:Option Nat} {n:Nat} {P:Program} {f:FuncId} {args:Array Value} {w:World} {R:Ending → World → Prop}:CallsIn (Wd r) n P f args w R ↔ Calls P f args w R:=callsIn_wide
theorem aBn {r r':Option Nat} {n n':Nat} {P:Program} {l:Nat} {f:FuncId} {tmps:Array Value} {assign body:Code} {w:World} {R:Ending → World → Prop} (h:RoundIn (Wd r) n P l f tmps assign body w R):RoundIn (Wd r') n' P l f tmps assign body w R :=
  ⟨trivial,fun c cs _=>h.2 c cs (room_wide _)⟩
theorem qM {r:Option Nat} {X:Prop} (h:(Wd r).depth.isSome = true):X:=by simp [Fence.wide] at h
def Yd (P:Program) (o:Oper) (ρ:Operand → Value) (w:World) (J:Value → World → Prop):Prop :=
  match (execOp ρ o).run P w with
  | .ok (.value v) w'=>J v w'
  | .ok .skip w'=>J undef w'
  | .ok (.enter f args) w'=>Calls P f args w' (Ret J)
  | .ok (.round l f tmps assign body) w'=>RoundIn (Wd none) 0 P l f tmps assign body w' (Ret J)
  | _=>False
theorem Yd.mono {P:Program} {o:Oper} {ρ:Operand → Value} {w:World} {J J':Value → World → Prop} (h:Yd P o ρ w J) (hj:∀ v w',J v w' → J' v w'):Yd P o ρ w J':=by
  unfold Yd at *
  generalize (execOp ρ o).run P w = r at *
  cases r with
  | ok n w' =>
    cases n <;> simp only at h ⊢ <;> first
      | exact hj _ _ h
      | exact Calls.mono h (fun e w'' he=>by cases e <;> first | exact hj _ _ he | exact he)
      | exact RoundIn.mono h (fun e w'' he=>by cases e <;> first | exact hj _ _ he | exact he)
      | exact h
  | halt h' w'=>exact h
theorem Yd.noDefer {P:Program} {o:Oper} {ρ:Operand → Value} {w:World} {J:Value → World → Prop} (h:Yd P o ρ w J):∀ c,o.op ≠ .defer c:=by
  intro c hc
  unfold Yd at h
  simp only [execOp,hc,Sem.run_bind] at h
  generalize (resolve ρ c o.type).run P w = r at h
  cases r <;> simp [Result.andThen] at h
theorem Yd.wp {r:Option Nat} {P:Program} {o:Oper} {a:Act} {w:World} {K:Act → World → Prop} {Q:Exit → Act → World → Prop} (h:Yd P o a.eval w (fun v w'=>K (a.put o.dst v) w')):o.wpIn (Wd r) 0 P a w K Q:=by
  refine ⟨fun _ _=>trivial,?_⟩
  rw [Oper.semAt_eq _ _ _ h.noDefer]
  unfold Yd at h
  generalize (execOp a.eval o).run P w = x at *
  cases x with
  | ok n w' =>
    cases n <;> simp only [Oper.uponIn] at h ⊢ <;> first
      | exact h
      | exact ⟨qM,pM.2 (Calls.mono h (fun e w'' he=>by cases e <;> first | exact he | exact he.elim))⟩
      | exact ⟨qM,(aBn h).mono (fun e w'' he=>by cases e <;> first | exact he | exact he.elim)⟩
      | exact h.elim
  | halt h' w'=>exact h.elim
theorem Yd.val {P:Program} {o:Oper} {ρ:Operand → Value} {w:World} {v:Value} {J:Value → World → Prop} (hr:(execOp ρ o).run P w = .ok (.value v) w) (h:J v w):Yd P o ρ w J:=by
  unfold Yd; rw [hr]; exact h
abbrev Wp (r:Option Nat) (P:Program) (c:Code) (Q:Exit → Act → World → Prop) (a:Act) (w:World):Prop:=c.wpIn (Wd r) 0 P Q a w
abbrev wpL (r:Option Nat) (P:Program) (ops:Array Oper) (Q:Exit → Act → World → Prop) (l:List Oper) (a:Act) (w:World):Prop:=wpListIn (Wd r) 0 P ops Q l a w
abbrev bP (P:Program) (fn:Func) (R:Ending → World → Prop):Exit → Act → World → Prop:=bodyPostM (Wd none) 0 P fn R
section inorder
variable {r:Option Nat} {P:Program} {ops:Array Oper} {Q:Exit → Act → World → Prop} {o:Oper} {rest:List Oper} {n d:Nat} {F:List (Nat × Value)} {a:Act} {dd:List Deferred} {w:World} {v:Value}
theorem aA (hF:Fr n F a dd) (hr:(execOp a.eval o).run P w = .ok (.value v) w) (hg:o.guard = none) (hd:o.dst = some d) (hn:Nat.blt d n = true)
    (next:∀ a',Fr n ((d,v) :: F) a' dd → wpL r P ops Q rest a' w):wpL r P ops Q (o :: rest) a w :=
  wpListIn_plain hg fun _ hK=>Yd.wp (Yd.val hr (hK _ _ (by rw [hd]; exact next _ (hF.put hn))))
theorem aN (hF:Fr n F a dd) (hg:o.guard = none) (hd:o.dst = some d) (hn:Nat.blt d n = true)
    (h:Yd P o a.eval w (fun v w'=>∀ a',Fr n ((d,v) :: F) a' dd → wpL r P ops Q rest a' w')):wpL r P ops Q (o :: rest) a w :=
  wpListIn_plain hg fun _ hK=>Yd.wp (h.mono fun _ _ hj=>hK _ _ (by rw [hd]; exact hj _ (hF.put hn)))
theorem bD (hg:o.guard = none) (hd:o.dst = none)
    (h:Yd P o a.eval w (fun _ w'=>wpL r P ops Q rest a w')):wpL r P ops Q (o :: rest) a w :=
  wpListIn_plain hg fun _ hK=>Yd.wp (h.mono fun _ _ hj=>hK _ _ (by rw [hd]; exact hj))
theorem nD {g t:Nat} {want c:Bool} (hF:Fr n F a dd) (hg:o.guard = some (g,want)) (ht:(ops[g]?).bind (·.dst) = some t) (hc:look F t = some (.bool c)) (hw:c = want) :
    Region.wanted o (yielded ops a.tmps) = true:=by
  simp [Region.wanted,hg,hF.yield ht hc,hw]
theorem wU {g t:Nat} {want c:Bool} (hF:Fr n F a dd) (hg:o.guard = some (g,want)) (ht:(ops[g]?).bind (·.dst) = some t) (hc:look F t = some (.bool c)) (hw:c = !want) :
    Region.wanted o (yielded ops a.tmps) = false:=by
  simp [Region.wanted,hg,hF.yield ht hc,hw]
theorem aL {g t:Nat} {want c:Bool} (hF:Fr n F a dd) (hg:o.guard = some (g,want)) (ht:(ops[g]?).bind (·.dst) = some t) (hc:look F t = some (.bool c)) (hw:c = want)
    (hr:(execOp a.eval o).run P w = .ok (.value v) w) (hd:o.dst = some d) (hn:Nat.blt d n = true)
    (next:∀ a',Fr n ((d,v) :: F) a' dd → wpL r P ops Q rest a' w):wpL r P ops Q (o :: rest) a w :=
  wpListIn_step fun _ hK=>by
    rw [if_pos (nD hF hg ht hc hw)]
    exact Yd.wp (Yd.val hr (hK _ _ (by rw [hd]; exact next _ (hF.put hn))))
theorem dV {g t:Nat} {want c:Bool} (hF:Fr n F a dd) (hg:o.guard = some (g,want)) (ht:(ops[g]?).bind (·.dst) = some t) (hc:look F t = some (.bool c)) (hw:c = want)
    (hd:o.dst = some d) (hn:Nat.blt d n = true)
    (h:Yd P o a.eval w (fun v w'=>∀ a',Fr n ((d,v) :: F) a' dd → wpL r P ops Q rest a' w')):wpL r P ops Q (o :: rest) a w :=
  wpListIn_step fun _ hK=>by
    rw [if_pos (nD hF hg ht hc hw)]
    exact Yd.wp (h.mono fun _ _ hj=>hK _ _ (by rw [hd]; exact hj _ (hF.put hn)))
theorem aE {g t:Nat} {want c:Bool} (hF:Fr n F a dd) (hg:o.guard = some (g,want)) (ht:(ops[g]?).bind (·.dst) = some t) (hc:look F t = some (.bool c)) (hw:c = !want)
    (hd:o.dst = some d) (hn:Nat.blt d n = true)
    (next:∀ a',Fr n ((d,undef) :: F) a' dd → wpL r P ops Q rest a' w):wpL r P ops Q (o :: rest) a w :=
  wpListIn_step fun _ hK=>by
    rw [if_neg (by rw [wU hF hg ht hc hw]; exact Bool.false_ne_true)]
    exact ⟨fun _ _=>trivial,hK _ _ (by rw [hd]; exact next _ (hF.put hn))⟩
end inorder
section code
variable {r:Option Nat} {P:Program} {Q:Exit → Act → World → Prop} {a:Act} {dd:List Deferred} {w:World}
theorem aG {x y:Code} (h:Wp r P x (Exit.then (Wp r P y Q) Q) a w):Wp r P (.seq x y) Q a w:=wpIn_seq h
theorem aW (h:Q .normal a w):Wp r P .skip Q a w:=wpIn_skip h
theorem bX {id:Nat} (h:Q (.exit id) a w):Wp r P (.exit id) Q a w:=wpIn_exit h
theorem c_ret (h:Q .ret a w):Wp r P .ret Q a w:=wpIn_ret h
theorem aU {id:Nat} {c:Code} (h:Wp r P c (Exit.inBlock id Q) a w):Wp r P (.block id c) Q a w:=wpIn_block h
theorem aD {i:Nat} {l:List Oper} (h:wpL r P l.toArray Q l a w):Wp r P (.region i l.toArray false) Q a w:=wpIn_region_lit h
theorem aJ {ops:Array Oper} (h:Q .normal a w):wpL r P ops Q [] a w:=h
theorem aB {K:Act → World → Prop} (h:K a w):Exit.then K Q .normal a w:=h
theorem bK {i:Nat} (h:Q .normal a w):Exit.inBlock i Q .normal a w:=h
theorem bC {K:Act → World → Prop} {i:Nat} (h:Q (.exit i) a w):Exit.then K Q (.exit i) a w:=h
theorem cO {i:Nat} (h:Q .normal a w):Exit.inBlock i Q (.exit i) a w:=by simpa [Exit.inBlock] using h
theorem aGq {i j:Nat} (hij:Nat.beq j i = false) (h:Q (.exit j) a w):Exit.inBlock i Q (.exit j) a w:=by
  have:j ≠ i:=fun e=>by subst e; simp at hij
  simpa [Exit.inBlock,this] using h
theorem mY {K:Act → World → Prop} (h:Q .ret a w):Exit.then K Q .ret a w:=h
theorem aH1 {i:Nat} (h:Q .ret a w):Exit.inBlock i Q .ret a w:=h
theorem aT {c:Operand} {x y:Code} {n:Nat} {F:List (Nat × Value)} {b:Bool} (hF:Fr n F a dd) (hc:ev F c = some (.bool b)) (ht:b = true → Wp r P x Q a w) (hf:b = false → Wp r P y Q a w) :
    Wp r P (.cond c x y) Q a w:=wpIn_cond_split (hF.eval hc) ht hf
theorem aAu {X:Type} {c:Code} (I:X → Act → World → Prop) (μ:X → Nat) (x₀:X) (h₀:I x₀ a w)
    (round:∀ x a w,I x a w → Wp r P c (Exit.then (fun a' w'=>∃ y,I y a' w' ∧ μ y < μ x) Q) a w):Wp r P (.loop c) Q a w:=by
  intro b k cs hro hb hr
  have key:∀ m x a w,μ x = m → I x a w →
      ∃ e a' w',Q e a' w' ∧ ArrivesIn (Machine.fenced P (Wd r)) P (lone (b.atR a (.code c :: .inLoop c :: k)) cs w) b k cs e a' w':=by
    intro m
    induction m using Nat.strongRecOn with
    | _ m ih =>
      intro x a w hn hI
      obtain ⟨e,a₁,w₁,hq,harr⟩:=round x a w hI b (.inLoop c :: k) cs hro hb hr
      cases e with
      | normal =>
        obtain ⟨y,hI₁,hlt⟩:=hq
        obtain ⟨e₂,a₂,w₂,hq₂,harr₂⟩:=ih (μ y) (hn ▸ hlt) y a₁ w₁ rfl hI₁
        exact ⟨e₂,a₂,w₂,hq₂,.of_steps (StepsIn.trans harr (.one (fenced_calm hb hr rfl) stepR_inLoop)) harr₂⟩
      | exit id=>exact ⟨_,a₁,w₁,hq,.pass (x:=.inLoop c) rfl (fun _ _=>.inl (by simp)) harr⟩
      | goto l=>exact ⟨_,a₁,w₁,hq,.pass (x:=.inLoop c) rfl (fun _ _=>.inl (by simp)) harr⟩
      | ret=>exact ⟨_,a₁,w₁,hq,.pass (x:=.inLoop c) rfl (fun _ _=>.inl (by simp)) harr⟩
      | panic ch=>exact ⟨_,a₁,w₁,hq,.pass (x:=.inLoop c) rfl (fun _ _=>.inl (by simp)) harr⟩
      | outgrown=>exact ⟨_,a₁,w₁,hq,.pass (x:=.inLoop c) rfl (fun _ _=>.inl (by simp)) harr⟩
  obtain ⟨e,a',w',hq,harr⟩:=key _ x₀ a w rfl h₀
  exact ⟨e,a',w',hq,.of_steps (.one (fenced_calm hb hr rfl) stepR_loop) harr⟩
theorem aEd {c:Code} {R:Act → World → Prop} (h:Wp r P c (Exit.then R Q) a w) (next:∀ a w,R a w → Q .normal a w):Wp r P c Q a w :=
  wpIn_mono h fun e a w q=>by cases e <;> first | exact next _ _ q | exact q
theorem aR {f:FuncId} {fn:Func} {c:Code} {vs:List Value} {m:Nat} {R:Value → World → Prop} (hf:P.funcs[f]? = some fn) (hb:fn.body = some c) (hm:fn.ntmps = m) (hn:Nat.ble vs.length m = true)
    (h:∀ a,Fr m (idx 0 vs) a → Wp none P c (bP P fn (Ret R)) a w):Calls P f vs.toArray w (Ret R):=by
  refine callsIn_wide.1 (callsIn_of_wp_marks (F:=Wd none) (n:=0) hf hb trivial ?_ rfl)
  subst hm
  exact h _ (Fr.enter vs fn.ntmps hn)
theorem mS {fn:Func} {R:Value → World → Prop} {v:Value} (hd:a.defers = []) (hr:(results fn a.tmps).run P w = .ok v w) (h:R v w):LeavesInM (Wd none) 0 P fn a.tmps (Ret R) a.defers .returning w:=by
  rw [hd]; exact ⟨v,hr,h⟩
theorem bJ {fn:Func} {t n:Nat} {F:List (Nat × Value)} {v:Value} {R:Value → World → Prop} (hr:fn.results = #[.tmp t]) (hF:Fr n F a) (hv:look F t = some v) (h:R v w):bP P fn (Ret R) .ret a w:=by
  refine mS (v:=v) hF.defers ?_ h
  have:=hF.get t v hv
  simp [results,hr,this]
theorem eO {fn:Func} {n:Nat} {F:List (Nat × Value)} {R:Value → World → Prop} (hr:fn.results = #[]) (hF:Fr n F a) (h:R (.tuple #[]) w):bP P fn (Ret R) .normal a w :=
  mS (v:=.tuple #[]) hF.defers (by simp [results,hr]) h
theorem aAx {fn:Func} {n:Nat} {F:List (Nat × Value)} {R:Value → World → Prop} (hr:fn.results = #[]) (hF:Fr n F a) (h:R (.tuple #[]) w):bP P fn (Ret R) .ret a w :=
  mS (v:=.tuple #[]) hF.defers (by simp [results,hr]) h
def resOf (P:Program) (w:World) (tmps:Array Value):List ResultVar → List Value → Prop
  | [],[]=>True
  | .tmp t :: rs,v :: vs=>tmps[t]? = some v ∧ resOf P w tmps rs vs
  | .cell t ty :: rs,v :: vs=>(∃ p,tmps[t]? = some (.pointer (some p)) ∧ (loadVar ty p).run P w = .ok v w) ∧ resOf P w tmps rs vs
  | _,_=>False
def resFn (tmps:Array Value):ResultVar → Sem Value
  | .tmp t=>pure (tmps.getD t undef)
  | .cell a t=>do loadVar t (← asAddr (tmps.getD a undef))
theorem rS (tmps:Array Value) (rs:List ResultVar) (vs:List Value) (h:resOf P w tmps rs vs):(rs.mapM (resFn tmps)).run P w = .ok vs w:=by
  induction rs generalizing vs with
  | nil=>cases vs with
    | nil=>simp
    | cons _ _=>exact h.elim
  | cons r rs ih =>
    cases r with
    | tmp t=>cases vs with
      | nil=>exact h.elim
      | cons v vs =>
        obtain ⟨h1,h2⟩:=h
        simp only [List.mapM_cons,Sem.run_bind]
        simp [resFn,h1,ih _ h2]
    | cell t ty=>cases vs with
      | nil=>exact h.elim
      | cons v vs =>
        obtain ⟨⟨p,h0,h1⟩,h2⟩:=h
        simp only [List.mapM_cons,Sem.run_bind]
        simp [resFn,h0,asAddr,h1,ih _ h2]
theorem nX {fn:Func} {tmps:Array Value} {rs:List ResultVar} {vs:List Value} (hr:fn.results = rs.toArray) (h:resOf P w tmps rs vs) :
    (results fn tmps).run P w = .ok (if vs.length = 1 then vs.headD undef else .tuple vs.toArray) w:=by
  have:=rS tmps rs vs h
  have e:results fn tmps = (do
      let us ← fn.results.mapM (resFn tmps)
      pure (if h:us.size = 1 then us[0] else .tuple us)):=rfl
  rw [e,hr,List.mapM_toArray,Sem.run_bind,Sem.run_map,this]
  simp only [Result.andThen_ok,Sem.run_pure]
  match vs with
  | []=>rfl
  | [v]=>rfl
  | _ :: _ :: _=>rfl
theorem dJ {fn:Func} {rs:List ResultVar} {vs:List Value} {v:Value} {n:Nat} {F:List (Nat × Value)} {R:Value → World → Prop} (hr:fn.results = rs.toArray) (hF:Fr n F a) (hv:resOf P w a.tmps rs vs)
    (he:(if vs.length = 1 then vs.headD undef else .tuple vs.toArray) = v) (h:R v w):bP P fn (Ret R) .ret a w :=
  mS hF.defers (by rw [nX hr hv,he]) h
theorem cI {tmps:Array Value}:resOf P w tmps [] []:=trivial
theorem cL {n:Nat} {F:List (Nat × Value)} {t:Nat} {v:Value} {rs:List ResultVar} {vs:List Value} (hF:Fr n F a dd) (hv:look F t = some v) (h:resOf P w a.tmps rs vs):resOf P w a.tmps (.tmp t :: rs) (v :: vs) :=
  ⟨hF.get t v hv,h⟩
theorem bZ {n:Nat} {F:List (Nat × Value)} {t ty b off sz:Nat} {us:List Value} {rs:List ResultVar} {vs:List Value} (hF:Fr n F a dd) (hv:look F t = some (.pointer (some ⟨b,off,none⟩)))
    (ht:∀ w,(isAgg ty).run P w = .ok true w) (hs:∀ w,(sizeOf ty).run P w = .ok sz w) (hl:us.length = sz) (hc:Cells w b off us) (h:resOf P w a.tmps rs vs):resOf P w a.tmps (.cell t ty :: rs) (.agg us.toArray :: vs):=by
  refine ⟨⟨_,hF.get t _ hv,?_⟩,h⟩
  subst hl
  simp [loadVar,ht,hs,run_loadCells w b off us hc]
theorem iK {n:Nat} {F:List (Nat × Value)} {t ty b off:Nat} {u:Value} {rs:List ResultVar} {vs:List Value} (hF:Fr n F a dd) (hv:look F t = some (.pointer (some ⟨b,off,none⟩)))
    (ht:∀ w,(isAgg ty).run P w = .ok false w) (hc:w.cell? ⟨b,off,none⟩ = some u) (h:resOf P w a.tmps rs vs):resOf P w a.tmps (.cell t ty :: rs) (u :: vs):=by
  refine ⟨⟨_,hF.get t _ hv,?_⟩,h⟩
  simp [loadVar,ht,hc]
end code
end Go.Fw
end
section
namespace Go.Fw
def aft (o:Oper):List Nat:=(o.after.toList.filter (fun e=>Region.binds .any e)).map (·.on)
def aftOf (ops:Array Oper) (i:Nat):List Nat:=match ops[i]? with | some o=>aft o | none=>[]
def dstOf (ops:Array Oper) (i:Nat):Option Tmp:=match ops[i]? with | some o=>o.dst | none=>none
def readsOf (ops:Array Oper) (i:Nat):List Tmp:=match ops[i]? with | some o=>o.looksAt ops | none=>[]
def memN (i:Nat):List Nat → Bool
  | []=>false
  | j :: r=>Nat.beq i j || memN i r
theorem eQ {i:Nat} {l:List Nat}:memN i l = true ↔ i ∈ l:=by
  induction l with
  | nil=>simp [memN]
  | cons j r ih=>simp [memN,ih]
def isD (d:Tmp):Option Tmp → Bool
  | some e=>Nat.beq d e
  | none=>false
def chk (ops:Array Oper):Bool:=(List.range ops.size).all fun i =>
  (aftOf ops i).all (fun p=>Nat.blt p i) &&
  (match dstOf ops i with
   | none=>true
   | some d=>!memN d (readsOf ops i) && (List.range ops.size).all fun j=>Nat.beq j i || (!isD d (dstOf ops j) && (!memN d (readsOf ops j) || memN i (aftOf ops j) || memN j (aftOf ops i))))
def chkq (ops:Array Oper) (i:Nat):Bool :=
  match dstOf ops i with
  | none=>true
  | some d=>(List.range ops.size).all fun j=>Nat.beq j i || !memN d (readsOf ops j) || memN i (aftOf ops j)
def noSel (o:Oper):Bool:=match o.op with | .select ..=>false | _=>true
def okq (ops:Array Oper) (T:List Nat) (i:Nat):Bool :=
  !memN i T && (aftOf ops i).all (memN · T) && chkq ops i && (match ops[i]? with | some o=>noSel o | none=>false)
def blk (ops:Array Oper) (T A:List Nat):Bool:=(List.range ops.size).all fun k=>memN k T || memN k A || (aftOf ops k).any (fun p=>!memN p T)
def allDone (ops:Array Oper) (T:List Nat):Bool:=(List.range ops.size).all (memN · T)
section
variable {ops:Array Oper}
theorem xB (h:chk ops = true) {i p:Nat} (hi:i < ops.size) (hp:p ∈ aftOf ops i):p < i:=by
  have:=List.all_eq_true.1 h i (List.mem_range.2 hi)
  simp only [Bool.and_eq_true,List.all_eq_true] at this
  exact Nat.le_of_ble_eq_true (this.1 p hp)
theorem aHn {d:Tmp} {x:Option Tmp}:isD d x = true ↔ x = some d:=by
  cases x with
  | none=>simp [isD]
  | some e=>simp [isD]; exact eq_comm
theorem oG (h:chk ops = true) {i d:Nat} (hi:i < ops.size) (hd:dstOf ops i = some d) :
    d ∉ readsOf ops i ∧ ∀ j,j < ops.size → j ≠ i → dstOf ops j ≠ some d ∧ (d ∈ readsOf ops j → i ∈ aftOf ops j ∨ j ∈ aftOf ops i):=by
  have:=List.all_eq_true.1 h i (List.mem_range.2 hi)
  rw [hd] at this
  simp only [Bool.and_eq_true,List.all_eq_true,List.mem_range,Bool.or_eq_true,Bool.not_eq_true',Nat.beq_eq] at this
  obtain ⟨_,h1,h2⟩:=this
  refine ⟨fun hm=>(by rw [eQ.2 hm] at h1; cases h1),fun j hj hji=>?_⟩
  rcases h2 j hj with h3 | ⟨h3,h4⟩
  · exact absurd h3 hji
  · refine ⟨fun e=>?_,fun hr=>?_⟩
    · rw [aHn.2 e] at h3; cases h3
    · rcases h4 with (h4 | h4) | h4
      · rw [eQ.2 hr] at h4; cases h4
      · exact .inl (eQ.1 h4)
      · exact .inr (eQ.1 h4)
theorem tN {i d j:Nat} (h:chkq ops i = true) (hd:dstOf ops i = some d) (hj:j < ops.size) (hji:j ≠ i) (hr:d ∈ readsOf ops j):i ∈ aftOf ops j:=by
  unfold chkq at h
  rw [hd] at h
  simp only [List.all_eq_true,List.mem_range,Bool.or_eq_true,Bool.not_eq_true',Nat.beq_eq] at h
  rcases h j hj with (h3 | h3) | h3
  · exact absurd h3 hji
  · rw [eQ.2 hr] at h3; cases h3
  · exact eQ.1 h3
def YieldsAt (P:Program) (ops:Array Oper) (o:Oper) (a:Act) (w:World) (v:Value):Prop :=
  (Region.wanted o (yielded ops a.tmps) = true ∧ (execOp a.eval o).run P w = .ok (.value v) w) ∨ (Region.wanted o (yielded ops a.tmps) = false ∧ v = undef)
theorem vW {o:Oper} {a a':Act} (h:∀ t ∈ o.looksAt ops,a.tmps[t]? = a'.tmps[t]?):(∀ x ∈ o.op.operands,a.eval x = a'.eval x) ∧ Region.wanted o (yielded ops a.tmps) = Region.wanted o (yielded ops a'.tmps):=by
  constructor
  · intro x hx
    cases x with
    | tmp t =>
      have:t ∈ o.looksAt ops:=by
        simp only [Oper.looksAt,List.mem_append,List.mem_filterMap]
        exact .inl ⟨.tmp t,by simpa using hx,rfl⟩
      simp only [Act.eval,Array.getD_eq_getD_getElem?,h t this]
    | const v=>rfl
    | global g=>rfl
    | func f=>rfl
  · unfold Region.wanted
    cases hg:o.guard with
    | none=>rfl
    | some p =>
      obtain ⟨j,want⟩:=p
      have:yielded ops a.tmps j = yielded ops a'.tmps j:=by
        unfold yielded
        cases hd:(ops[j]?).bind (·.dst) with
        | none=>rfl
        | some d =>
          have hm:d ∈ o.looksAt ops:=by
            simp [Oper.looksAt,hg,hd]
          simp only [Option.bind_some,h d hm]
      simp only [this]
theorem uE {o:Oper} (h:noSel o = true):∀ cs b,o.op ≠ .select cs b:=by
  intro cs b e
  simp [noSel,e] at h
theorem YieldsAt.congr {P:Program} {o:Oper} {a a':Act} {w:World} {v:Value} (hs:noSel o = true) (h:∀ t ∈ o.looksAt ops,a.tmps[t]? = a'.tmps[t]?) (hy:YieldsAt P ops o a w v):YieldsAt P ops o a' w v:=by
  obtain ⟨h1,h2⟩:=vW h
  unfold YieldsAt at *
  rw [← h2,← execOp_congr o (uE hs) h1]
  exact hy
structure Pq (P:Program) (ops:Array Oper) (T:List Nat) (Cs:World → Prop) (a:Act) (i:Nat) (v:Value):Prop where
  aft:∀ p ∈ aftOf ops i,p ∈ T
  q:chkq ops i = true
  ns:∀ o,ops[i]? = some o → noSel o = true
  yields:∀ o,ops[i]? = some o → ∀ w,Cs w → YieldsAt P ops o a w v
structure Lag (ops:Array Oper) (T:List Nat) (pend:List (Nat × Value)) (s:Act) (listed:Array Bool) (a:Act):Prop where
  size:listed.size = ops.size
  list:∀ i,i < ops.size → (listed.getD i true = true ↔ i ∈ T ∧ ∀ p ∈ pend,p.1 ≠ i)
  tlt:∀ i ∈ T,i < ops.size
  closed:∀ i,i < ops.size → listed.getD i true = true → ∀ p ∈ aftOf ops i,listed.getD p true = true
  pendT:∀ p ∈ pend,p.1 ∈ T
  nodup:pend.Pairwise (fun p q=>p.1 ≠ q.1)
  defers:s.defers = a.defers
  tsize:s.tmps.size = a.tmps.size
  same:∀ t,(∀ p ∈ pend,dstOf ops p.1 ≠ some t) → s.tmps[t]? = a.tmps[t]?
  late:∀ p ∈ pend,∀ d,dstOf ops p.1 = some d → d < a.tmps.size → s.tmps[d]? = some p.2
def unl (ops:Array Oper) (listed:Array Bool):Nat:=(List.range ops.size).countP (fun i=>!listed.getD i true)
def DW (r:Option Nat) (P:Program) (ops:Array Oper) (Q:Exit → Act → World → Prop) (T:List Nat) (Cs C:World → Prop) (s:Act):Prop :=
  ∀ fuel listed pend a w,Cs w → C w → Lag ops T pend s listed a → (∀ p ∈ pend,Pq P ops T Cs s p.1 p.2) → unl ops listed ≤ fuel → wpAnyIn (Wd r) 0 P .any ops Q fuel listed a w
theorem oN {listed:Array Bool} (hs:listed.size = ops.size) {i:Nat}:i ∈ Region.ready .any ops listed ↔ i < ops.size ∧ listed.getD i true = false ∧ ∀ p ∈ aftOf ops i,listed.getD p false = true:=by
  simp only [Region.ready,List.mem_filter,List.mem_range,Bool.and_eq_true,Bool.not_eq_true']
  constructor
  · rintro ⟨h1,h2,h3⟩
    refine ⟨h1,h2,fun p hp=>?_⟩
    unfold aftOf at hp
    cases ho:ops[i]? with
    | none=>simp [ho] at hp
    | some o =>
      simp only [ho,Option.map_some,Option.getD_some,Array.all_eq_true'] at h3 hp
      simp only [aft,List.mem_map,List.mem_filter] at hp
      obtain ⟨e,⟨he,hb⟩,rfl⟩:=hp
      have:=h3 e (by simpa using he)
      simpa [hb] using this
  · rintro ⟨h1,h2,h3⟩
    refine ⟨h1,h2,?_⟩
    have ho:ops[i]? = some ops[i]:=by simp [h1]
    simp only [ho,Option.map_some,Option.getD_some,Array.all_eq_true']
    intro e he
    cases hb:Region.binds .any e with
    | false=>rfl
    | true =>
      have:=h3 e.on (by
        simp only [aftOf,ho,aft,List.mem_map,List.mem_filter]
        exact ⟨e,⟨by simpa using he,hb⟩,rfl⟩)
      simpa using this
theorem eT {listed:Array Bool} {p:Nat} (h:listed.getD p false = true):listed.getD p true = true:=by
  simp only [Array.getD_eq_getD_getElem?] at *
  cases hx:listed[p]? with
  | none=>simp
  | some b=>simpa [hx] using h
theorem pQ {listed:Array Bool} {p:Nat} (hp:p < listed.size) (h:listed.getD p true = true):listed.getD p false = true:=by
  simp only [Array.getD_eq_getD_getElem?] at *
  simpa [hp] using h
theorem zW {listed:Array Bool} (hchk:chk ops = true) (hs:listed.size = ops.size):∀ i,i < ops.size → listed.getD i true = false → Region.ready .any ops listed ≠ []:=by
  intro i
  induction i using Nat.strongRecOn with
  | _ i ih =>
    intro hi hl
    by_cases hall:∀ p ∈ aftOf ops i,listed.getD p false = true
    · exact List.ne_nil_of_mem ((oN hs).2 ⟨hi,hl,hall⟩)
    · simp only [Classical.not_forall] at hall
      obtain ⟨p,hp,hf⟩:=hall
      have hlt:=xB hchk hi hp
      refine ih p hlt (by omega) ?_
      cases hx:listed.getD p true with
      | false=>rfl
      | true=>exact absurd (pQ (by omega) hx) hf
theorem tG {listed:Array Bool} (hs:listed.size = ops.size) {i:Nat} (hi:i < ops.size) (hl:listed.getD i true = false):unl ops (listed.setIfInBounds i true) + 1 ≤ unl ops listed:=by
  unfold unl
  have key:∀ l:List Nat,i ∈ l → l.Nodup → (∀ j ∈ l,j < ops.size) → l.countP (fun j=>!(listed.setIfInBounds i true).getD j true) + 1 ≤ l.countP (fun j=>!listed.getD j true):=by
    have hset:∀ j,(listed.setIfInBounds i true).getD j true = (if j = i then true else listed.getD j true):=by
      intro j
      simp only [Array.getD_eq_getD_getElem?,Array.getElem?_setIfInBounds]
      split
      · rename_i e; subst e
        split
        · simp
        · simp [hs,hi] at *
      · rename_i e
        have:j ≠ i:=fun x=>e x.symm
        simp [this]
    intro l
    induction l with
    | nil=>intro hm; cases hm
    | cons j l ih =>
      intro hm hn hlt
      simp only [List.countP_cons,hset]
      by_cases hji:j = i
      · subst hji
        have hnot:j ∉ l:=(List.nodup_cons.1 hn).1
        have heq:l.countP (fun x=>!if x = j then true else listed.getD x true) = l.countP (fun x=>!listed.getD x true):=by
          refine List.countP_congr fun x hx=>?_
          have:x ≠ j:=fun e=>hnot (e ▸ hx)
          simp [this]
        rw [heq]
        simp only [hl]
        simp
      · have hmem:i ∈ l:=by
          rcases List.mem_cons.1 hm with e | e
          · exact absurd e.symm hji
          · exact e
        have:=ih hmem (List.nodup_cons.1 hn).2 (fun x hx=>hlt x (List.mem_cons_of_mem _ hx))
        simp only [hset] at this
        simp only [hji,if_false]
        omega
  exact key _ (List.mem_range.2 hi) List.nodup_range (fun j hj=>List.mem_range.1 hj)
theorem setD {listed:Array Bool} {i:Nat} (hi:i < listed.size) (j:Nat):(listed.setIfInBounds i true).getD j true = (if j = i then true else listed.getD j true):=by
  simp only [Array.getD_eq_getD_getElem?,Array.getElem?_setIfInBounds]
  split
  · rename_i e; subst e; simp
  · rename_i e
    have:j ≠ i:=fun x=>e x.symm
    simp [this]
theorem mV {a:Act} {d t:Nat} {v:Value}:(a.put (some d) v).tmps[t]? = if d = t then (if d < a.tmps.size then some v else none) else a.tmps[t]?:=by
  simp only [Act.put,Array.getElem?_setIfInBounds]
end
theorem wV {r:Option Nat} {P:Program} {ops:Array Oper} {Q:Exit → Act → World → Prop} {j:Nat} {o:Oper} {a:Act} {w:World} {v:Value} {K:Act → World → Prop} (ho:ops[j]? = some o) (hy:YieldsAt P ops o a w v) (h:K (a.put o.dst v) w):wpOpIn (Wd r) 0 P ops Q j K a w:=by
  unfold wpOpIn
  simp only [ho]
  rcases hy with ⟨h1,h2⟩ | ⟨h1,rfl⟩
  · rw [if_pos h1]
    exact Yd.wp (Yd.val h2 h)
  · rw [if_neg (by rw [h1]; exact Bool.false_ne_true)]
    exact ⟨fun _ _=>trivial,h⟩
section
variable {r:Option Nat} {P:Program} {ops:Array Oper} {Q:Exit → Act → World → Prop} {T:List Nat} {Cs C:World → Prop} {s:Act}
theorem Lag.step {pend:List (Nat × Value)} {listed:Array Bool} {a:Act} (hchk:chk ops = true) (st:Lag ops T pend s listed a) {j:Nat} {v:Value} (hj:(j,v) ∈ pend) (hlt:j < ops.size)
    (hr:∀ p ∈ aftOf ops j,listed.getD p false = true):Lag ops T (pend.filter (fun p=>!Nat.beq p.1 j)) s (listed.setIfInBounds j true) (a.put (dstOf ops j) v):=by
  have hls:j < listed.size:=by rw [st.size]; exact hlt
  have huniq:∀ p ∈ pend,p.1 = j → p = (j,v):=by
    have hpw:=st.nodup
    intro p hp hpj
    rcases List.pairwise_iff_getElem.1 hpw with hh
    obtain ⟨x,hx,rfl⟩:=List.getElem_of_mem hp
    obtain ⟨y,hy,he⟩:=List.getElem_of_mem hj
    rcases Nat.lt_trichotomy x y with h | h | h
    · exact absurd (by rw [he]; exact hpj) (hh x y hx hy h)
    · subst h; exact he
    · exact absurd (by rw [he]; exact hpj.symm) (hh y x hy hx h)
  have hmem:∀ p,p ∈ pend.filter (fun p=>!Nat.beq p.1 j) ↔ p ∈ pend ∧ p.1 ≠ j:=by
    intro p
    simp only [List.mem_filter,Bool.not_eq_true',← Bool.not_eq_true,Nat.beq_eq]
  constructor
  · simp [st.size]
  · intro i hi
    rw [setD hls]
    by_cases hij:i = j
    · subst hij
      simp only [if_true,true_iff]
      exact ⟨st.pendT _ hj,fun p hp=>((hmem p).1 hp).2⟩
    · simp only [hij,if_false]
      rw [st.list i hi]
      constructor
      · rintro ⟨h1,h2⟩; exact ⟨h1,fun p hp=>h2 p ((hmem p).1 hp).1⟩
      · rintro ⟨h1,h2⟩
        refine ⟨h1,fun p hp hpi=>?_⟩
        by_cases hpj:p.1 = j
        · exact hij (hpi.symm.trans hpj)
        · exact h2 p ((hmem p).2 ⟨hp,hpj⟩) hpi
  · exact st.tlt
  · intro i hi hl p hp
    have hpi:=xB hchk hi hp
    rw [setD hls] at hl ⊢
    split
    · rfl
    · split at hl
      · rename_i e; subst e
        exact eT (hr p hp)
      · exact st.closed i hi hl p hp
  · intro p hp; exact st.pendT p ((hmem p).1 hp).1
  · exact st.nodup.filter _
  · rw [st.defers]; cases dstOf ops j <;> rfl
  · rw [st.tsize]; cases dstOf ops j <;> simp [Act.put]
  · intro t ht
    cases hd:dstOf ops j with
    | none =>
      refine st.same t fun p hp=>?_
      by_cases hpj:p.1 = j
      · rw [hpj,hd]; simp
      · exact ht p ((hmem p).2 ⟨hp,hpj⟩)
    | some d =>
      rw [mV]
      by_cases hdt:d = t
      · subst hdt
        rw [if_pos rfl]
        split
        · rename_i hlt'
          exact st.late _ hj d hd hlt'
        · rename_i hge
          rw [Array.getElem?_eq_none (by rw [st.tsize]; omega)]
      · rw [if_neg hdt]
        refine st.same t fun p hp=>?_
        by_cases hpj:p.1 = j
        · rw [hpj,hd]; simpa using hdt
        · exact ht p ((hmem p).2 ⟨hp,hpj⟩)
  · intro p hp d hd hlt'
    refine st.late p ((hmem p).1 hp).1 d hd ?_
    cases hdj:dstOf ops j <;> simp [hdj,Act.put] at hlt' <;> exact hlt'
theorem Lag.reads {pend:List (Nat × Value)} {listed:Array Bool} {a:Act} (st:Lag ops T pend s listed a) (hq:∀ p ∈ pend,Pq P ops T Cs s p.1 p.2)
    {j:Nat} (hlt:j < ops.size) (hself:∀ d,dstOf ops j = some d → d ∉ readsOf ops j) (hr:∀ p ∈ aftOf ops j,listed.getD p false = true):∀ t ∈ readsOf ops j,s.tmps[t]? = a.tmps[t]?:=by
  intro t ht
  refine st.same t fun p hp hd=>?_
  by_cases hpj:p.1 = j
  · rw [hpj] at hd; exact hself t hd ht
  · have h1:=tN (hq p hp).q hd hlt (fun e=>hpj e.symm) ht
    have h2:=eT (hr _ h1)
    exact ((st.list p.1 (st.tlt _ (st.pendT p hp))).1 h2).2 p hp rfl
theorem iY {j:Nat} {o:Oper} (ho:ops[j]? = some o):readsOf ops j = o.looksAt ops:=by simp [readsOf,ho]
theorem fY {j:Nat} {o:Oper} (ho:ops[j]? = some o):dstOf ops j = o.dst:=by simp [dstOf,ho]
theorem Lag.yields {pend:List (Nat × Value)} {listed:Array Bool} {a:Act} {w:World} (hchk:chk ops = true) (st:Lag ops T pend s listed a) (hq:∀ p ∈ pend,Pq P ops T Cs s p.1 p.2)
    {j:Nat} {v:Value} {o:Oper} (ho:ops[j]? = some o) (hj:(j,v) ∈ pend) (hr:∀ p ∈ aftOf ops j,listed.getD p false = true) (hw:Cs w):YieldsAt P ops o a w v:=by
  have hlt:j < ops.size:=(Array.getElem?_eq_some_iff.1 ho).1
  have h:=(hq _ hj).yields o ho w hw
  refine h.congr ((hq _ hj).ns o ho) fun t ht=>?_
  exact st.reads hq hlt (fun d hd=>(oG hchk hlt hd).1) hr t (by rw [iY ho]; exact ht)
theorem aEm (hchk:chk ops = true) (hall:allDone ops T = true) (h:∀ w,C w → Q .normal s w):DW r P ops Q T Cs C s:=by
  have hT:∀ i,i < ops.size → i ∈ T:=fun i hi=>eQ.1 (List.all_eq_true.1 hall i (List.mem_range.2 hi))
  have fin:∀ listed pend a w,C w → Lag ops T pend s listed a → Region.ready .any ops listed = [] → Q .normal a w:=by
    intro listed pend a w hC st hr
    have hl:∀ i,i < ops.size → listed.getD i true = true:=by
      intro i hi
      cases hx:listed.getD i true with
      | true=>rfl
      | false=>exact absurd hr (zW hchk st.size i hi hx)
    have hp:pend = []:=by
      cases pend with
      | nil=>rfl
      | cons p r =>
        have:=st.tlt _ (st.pendT p (by simp))
        exact absurd rfl (((st.list p.1 this).1 (hl _ this)).2 p (by simp))
    subst hp
    have hs:s = a:=by
      have h1:=st.defers
      have h2:s.tmps = a.tmps:=Array.ext_getElem? fun t=>st.same t (by simp)
      cases s; cases a; simp_all
    exact hs ▸ h w hC
  intro fuel
  induction fuel with
  | zero =>
    intro listed pend a w _ hC st _ hf
    have hr:Region.ready .any ops listed = []:=by
      cases hx:Region.ready .any ops listed with
      | nil=>rfl
      | cons i r =>
        have hi:=(oN st.size).1 (by rw [hx]; exact List.mem_cons_self:i ∈ _)
        have:=tG st.size hi.1 hi.2.1
        omega
    exact ⟨hr,fin _ _ _ _ hC st hr⟩
  | succ fuel ih =>
    intro listed pend a w hCs hC st hq hf
    refine ⟨fun hr=>fin _ _ _ _ hC st hr,fun i hi=>?_⟩
    obtain ⟨h1,h2,h3⟩:=(oN st.size).1 hi
    have hpd:∃ v,(i,v) ∈ pend:=by
      apply Classical.byContradiction
      intro hno
      have:listed.getD i true = true:=(st.list i h1).2 ⟨hT i h1,fun p hp hpi=>hno ⟨p.2,hpi ▸ hp⟩⟩
      rw [h2] at this; cases this
    obtain ⟨v,hv⟩:=hpd
    have ho:ops[i]? = some ops[i]:=by simp [h1]
    refine wV ho (st.yields hchk hq ho hv h3 hCs) ?_
    have st':=st.step hchk hv h1 h3
    rw [fY ho] at st'
    refine ih _ _ _ _ hCs hC st' (fun p hp=>hq p (List.mem_filter.1 hp).1) ?_
    have:=tG st.size h1 h2
    omega
theorem aDa (hchk:chk ops = true) {i:Nat} {o:Oper} {v:Value} (ho:ops[i]? = some o) (hok:okq ops T i = true) (hy:∀ w,Cs w → YieldsAt P ops o s w v) (next:DW r P ops Q (i :: T) Cs C (s.put o.dst v)):DW r P ops Q T Cs C s:=by
  have hlt:i < ops.size:=(Array.getElem?_eq_some_iff.1 ho).1
  simp only [okq,ho,Bool.and_eq_true,Bool.not_eq_true',List.all_eq_true] at hok
  obtain ⟨⟨⟨hT,haft⟩,hcq⟩,hns⟩:=hok
  have hT:i ∉ T:=fun h=>by rw [eQ.2 h] at hT; cases hT
  have haft:∀ p ∈ aftOf ops i,p ∈ T:=fun p hp=>eQ.1 (haft p hp)
  have hself:∀ d,o.dst = some d → d ∉ o.looksAt ops:=fun d hd=>by
    have:=(oG hchk hlt (by rw [fY ho]; exact hd)).1
    rwa [iY ho] at this
  have hput:∀ t,o.dst ≠ some t → (s.put o.dst v).tmps[t]? = s.tmps[t]?:=by
    intro t ht
    cases hd:o.dst with
    | none=>rfl
    | some d=>rw [mV,if_neg (fun e=>ht (by rw [hd,e]))]
  intro fuel listed pend a w hCs hC st hq hf
  have hni:∀ p ∈ pend,p.1 ≠ i:=fun p hp e=>hT (e ▸ st.pendT p hp)
  refine next fuel listed ((i,v) :: pend) a w hCs hC ?_ ?_ hf
  · constructor
    · exact st.size
    · intro j hj
      rw [st.list j hj]
      constructor
      · rintro ⟨h1,h2⟩
        refine ⟨List.mem_cons_of_mem _ h1,fun p hp=>?_⟩
        rcases List.mem_cons.1 hp with rfl | hp
        · intro e
          have e':i = j:=e
          subst e'
          exact hT h1
        · exact h2 p hp
      · rintro ⟨h1,h2⟩
        refine ⟨?_,fun p hp=>h2 p (List.mem_cons_of_mem _ hp)⟩
        rcases List.mem_cons.1 h1 with rfl | h1
        · exact absurd rfl (h2 (j,v) List.mem_cons_self)
        · exact h1
    · intro j hj
      rcases List.mem_cons.1 hj with rfl | hj
      · exact hlt
      · exact st.tlt j hj
    · exact st.closed
    · intro p hp
      rcases List.mem_cons.1 hp with rfl | hp
      · exact List.mem_cons_self
      · exact List.mem_cons_of_mem _ (st.pendT p hp)
    · exact List.pairwise_cons.2 ⟨fun p hp e=>hni p hp e.symm,st.nodup⟩
    · rw [← st.defers]; cases o.dst <;> rfl
    · rw [← st.tsize]; cases o.dst <;> simp [Act.put]
    · intro t ht
      rw [hput t (by have:=ht (i,v) List.mem_cons_self; rwa [fY ho] at this)]
      exact st.same t fun p hp=>ht p (List.mem_cons_of_mem _ hp)
    · intro p hp d hd hd'
      rcases List.mem_cons.1 hp with rfl | hp
      · rw [fY ho] at hd
        rw [hd,mV,if_pos rfl,if_pos (by rw [st.tsize]; exact hd')]
      · rw [hput d ?_]
        · exact st.late p hp d hd hd'
        · intro e
          have h1:=((oG hchk hlt (by rw [fY ho]; exact e)).2 p.1 (st.tlt _ (st.pendT p hp)) (hni p hp)).1
          exact h1 hd
  · intro p hp
    rcases List.mem_cons.1 hp with rfl | hp
    · refine ⟨fun q hq'=>List.mem_cons_of_mem _ (haft q hq'),hcq,fun o' ho'=>?_,fun o' ho' w' hw'=>?_⟩
      · rw [ho] at ho'; cases ho'; exact hns
      · rw [ho] at ho'; cases ho'
        refine (hy w' hw').congr hns fun t ht=>?_
        rw [hput t (fun e=>hself t e ht)]
    · have h:=hq p hp
      refine ⟨fun q hq'=>List.mem_cons_of_mem _ (h.aft q hq'),h.q,h.ns,fun o' ho' w' hw'=>?_⟩
      refine (h.yields o' ho' w' hw').congr (h.ns o' ho') fun t ht=>?_
      rw [hput t ?_]
      intro e
      have h1:=tN hcq (by rw [fY ho]; exact e) (st.tlt _ (st.pendT p hp)) (hni p hp) (by rw [iY ho']; exact ht)
      exact hT (h.aft _ h1)
def ancs (ops:Array Oper):Nat → List Nat → List Nat
  | 0,l=>l
  | k + 1,l=>ancs ops k (l ++ (l.flatMap (aftOf ops)).filter (fun p=>!memN p l)).eraseDups
def isMove (ops:Array Oper) (j:Nat):Bool:=match ops[j]? with
  | some o=>(match o.op with
    | .move _=>true
    | _=>false)
  | none=>false
theorem zI {P:Program} {o:Oper} {a:Act} {w x:World} {v:Value} {j:Nat} (ho:ops[j]? = some o) (hm:isMove ops j = true) (h:YieldsAt P ops o a w v):YieldsAt P ops o a x v:=by
  unfold isMove at hm
  rw [ho] at hm
  simp only at hm
  split at hm
  · rename_i y hy
    rcases h with ⟨h1,h2⟩ | h
    · refine .inl ⟨h1,?_⟩
      simp [execOp,hy] at h2 ⊢
      exact h2
    · exact .inr h
  · cases hm
def sync (ops:Array Oper) (T:List Nat) (e:Nat):Bool:=T.all (fun j=>isMove ops j || memN j (ancs ops ops.size (aftOf ops e)))
theorem yL {listed:Array Bool} (hs:listed.size = ops.size) (hcl:∀ i,i < ops.size → listed.getD i true = true → ∀ p ∈ aftOf ops i,listed.getD p true = true) :
    ∀ k l,(∀ i ∈ l,listed.getD i true = true) → ∀ i ∈ ancs ops k l,listed.getD i true = true:=by
  intro k
  induction k with
  | zero=>intro l h i hi; exact h i hi
  | succ k ih =>
    intro l h i hi
    refine ih _ ?_ i hi
    intro j hj
    rw [List.mem_eraseDups] at hj
    rcases List.mem_append.1 hj with hj | hj
    · exact h j hj
    · obtain ⟨hj,_⟩:=List.mem_filter.1 hj
      obtain ⟨m,hm,hjm⟩:=List.mem_flatMap.1 hj
      by_cases hmlt:m < ops.size
      · exact hcl m hmlt (h m hm) j hjm
      · simp [aftOf,Array.getElem?_eq_none (by omega:ops.size ≤ m)] at hjm
def SyncP (ops:Array Oper) (T:List Nat) (e:Nat):Prop :=
  ∀ listed:Array Bool,listed.size = ops.size → (∀ i,i < ops.size → listed.getD i true = true → ∀ p ∈ aftOf ops i,listed.getD p true = true) →
    (∀ k ∈ aftOf ops e,listed.getD k true = true) → ∀ j ∈ T,isMove ops j = true ∨ listed.getD j true = true
theorem aBu {ops:Array Oper} {T:List Nat} {e:Nat} (h:sync ops T e = true):SyncP ops T e:=fun _ hs hcl ha j hj =>
  (Bool.or_eq_true _ _ ▸ List.all_eq_true.1 h j hj:isMove ops j = true ∨ _).imp id fun h=>yL hs hcl _ _ ha _ (eQ.1 h)
def Ex (r:Option Nat) (P:Program) (ops:Array Oper) (Q:Exit → Act → World → Prop) (T:List Nat) (Cs C:World → Prop) (s:Act) (e:Nat):Prop :=
  ∃ o,ops[e]? = some o ∧ Region.wanted o (yielded ops s.tmps) = true ∧ noSel o = true ∧
    ∀ w,Cs w → C w → Yd P o s.eval w (fun v w'=>∃ Cs' C':World → Prop,Cs' w' ∧ C' w' ∧ ((∀ x,Cs' x → Cs x) ∨ SyncP ops T e) ∧ DW r P ops Q (e :: T) Cs' C' (s.put o.dst v))
def exAll (r:Option Nat) (P:Program) (ops:Array Oper) (Q:Exit → Act → World → Prop) (T:List Nat) (Cs C:World → Prop) (s:Act):List Nat → Prop
  | []=>True
  | e :: es=>Ex r P ops Q T Cs C s e ∧ exAll r P ops Q T Cs C s es
theorem aDb {A:List Nat} (h:exAll r P ops Q T Cs C s A):∀ e ∈ A,Ex r P ops Q T Cs C s e:=by
  induction A with
  | nil=>intro e he; cases he
  | cons x r ih =>
    intro e he
    rcases List.mem_cons.1 he with rfl | he
    · exact h.1
    · exact ih h.2 e he
theorem aHg (hchk:chk ops = true) (A:List Nat) (hb:blk ops T A = true) (hn:∃ e ∈ A,e < ops.size ∧ memN e T = false) (hA:exAll r P ops Q T Cs C s A):DW r P ops Q T Cs C s:=by
  have hA:=aDb hA
  obtain ⟨e₀,he₀,hlt₀,hT₀⟩:=hn
  have hT₀:e₀ ∉ T:=fun h=>by rw [eQ.2 h] at hT₀; cases hT₀
  intro fuel
  induction fuel with
  | zero =>
    intro listed pend a w _ _ st _ hf
    have hl:listed.getD e₀ true = false:=by
      cases hx:listed.getD e₀ true with
      | false=>rfl
      | true=>exact absurd ((st.list e₀ hlt₀).1 hx).1 hT₀
    have:=tG st.size hlt₀ hl
    omega
  | succ fuel ih =>
    intro listed pend a w hCs hC st hq hf
    have hl₀:listed.getD e₀ true = false:=by
      cases hx:listed.getD e₀ true with
      | false=>rfl
      | true=>exact absurd ((st.list e₀ hlt₀).1 hx).1 hT₀
    refine ⟨fun hr=>absurd hr (zW hchk st.size e₀ hlt₀ hl₀),fun i hi=>?_⟩
    obtain ⟨h1,h2,h3⟩:=(oN st.size).1 hi
    have hun:=tG st.size h1 h2
    by_cases hiT:i ∈ T
    · have hpd:∃ v,(i,v) ∈ pend:=by
        apply Classical.byContradiction
        intro hno
        have:listed.getD i true = true:=(st.list i h1).2 ⟨hiT,fun p hp hpi=>hno ⟨p.2,hpi ▸ hp⟩⟩
        rw [h2] at this; cases this
      obtain ⟨v,hv⟩:=hpd
      have ho:ops[i]? = some ops[i]:=by simp [h1]
      refine wV ho (st.yields hchk hq ho hv h3 hCs) ?_
      have st':=st.step hchk hv h1 h3
      rw [fY ho] at st'
      exact ih _ _ _ _ hCs hC st' (fun p hp=>hq p (List.mem_filter.1 hp).1) (by omega)
    · have hiA:i ∈ A:=by
        have:=List.all_eq_true.1 hb i (List.mem_range.2 h1)
        simp only [Bool.or_eq_true,List.any_eq_true,Bool.not_eq_true'] at this
        rcases this with (h | h) | ⟨p,hp,hpT⟩
        · exact absurd (eQ.1 h) hiT
        · exact eQ.1 h
        · have hpl:=eT (h3 p hp)
          have hplt:=xB hchk h1 hp
          have:=((st.list p (by omega)).1 hpl).1
          rw [eQ.2 this] at hpT; cases hpT
      obtain ⟨o,ho,hwant,hns,hyd⟩:=hA i hiA
      have hreads:∀ t ∈ o.looksAt ops,s.tmps[t]? = a.tmps[t]?:=fun t ht =>
        st.reads hq h1 (fun d hd=>(oG hchk h1 hd).1) h3 t (by rw [iY ho]; exact ht)
      obtain ⟨hev,hwe⟩:=vW hreads
      unfold wpOpIn
      simp only [ho]
      rw [if_pos (by rw [← hwe]; exact hwant)]
      refine Yd.wp ?_
      have hyd':=hyd w hCs hC
      unfold Yd at hyd' ⊢
      rw [← execOp_congr o (uE hns) hev]
      change Yd P o s.eval w _
      refine Yd.mono (J:=fun v w'=>∃ Cs' C':World → Prop,Cs' w' ∧ C' w' ∧ ((∀ x,Cs' x → Cs x) ∨ SyncP ops T i) ∧ DW r P ops Q (i :: T) Cs' C' (s.put o.dst v)) hyd' ?_
      rintro v w' ⟨Cs',C',hCs',hC',hsub,hdw⟩
      have hls:i < listed.size:=by rw [st.size]; exact h1
      have hnp:∀ p ∈ pend,p.1 ≠ i:=fun p hp e=>hiT (e ▸ st.pendT p hp)
      have hdst:∀ p ∈ pend,∀ d,dstOf ops p.1 = some d → o.dst ≠ some d:=by
        intro p hp d hd e
        exact ((oG hchk h1 (by rw [fY ho]; exact e)).2 p.1 (st.tlt _ (st.pendT p hp)) (hnp p hp)).1 hd
      refine hdw fuel _ pend _ w' hCs' hC' ?_ ?_ (by omega)
      · constructor
        · simp [st.size]
        · intro j hj
          rw [setD hls]
          by_cases hji:j = i
          · subst hji
            simp only [if_true,true_iff]
            exact ⟨List.mem_cons_self,hnp⟩
          · simp only [hji,if_false]
            rw [st.list j hj]
            simp [hji]
        · intro j hj
          rcases List.mem_cons.1 hj with rfl | hj
          · exact h1
          · exact st.tlt j hj
        · intro j hj hl p hp
          rw [setD hls] at hl ⊢
          split
          · rfl
          · split at hl
            · rename_i e; subst e
              exact eT (h3 p hp)
            · exact st.closed j hj hl p hp
        · intro p hp; exact List.mem_cons_of_mem _ (st.pendT p hp)
        · exact st.nodup
        · have:=st.defers
          cases o.dst <;> exact this
        · have:=st.tsize
          cases o.dst <;> simp [Act.put,this]
        · intro t ht
          have hst:=st.same t ht
          cases hd:o.dst with
          | none=>exact hst
          | some d=>rw [mV,mV,st.tsize]; split <;> first | rfl | exact hst
        · intro p hp d hd hlt'
          have hne:=hdst p hp d hd
          have h0:d < a.tmps.size:=by cases hx:o.dst <;> simp [hx,Act.put] at hlt' <;> exact hlt'
          have:=st.late p hp d hd h0
          cases hx:o.dst with
          | none=>exact this
          | some x=>rw [mV,if_neg (fun e=>hne (by rw [hx,e]))]; exact this
      · intro p hp
        have h:=hq p hp
        have hpa:p.1 ∉ aftOf ops i:=fun hm =>
          ((st.list p.1 (st.tlt _ (st.pendT p hp))).1 (eT (h3 _ hm))).2 p hp rfl
        refine ⟨fun q hq'=>List.mem_cons_of_mem _ (h.aft q hq'),h.q,h.ns,fun o' ho' x hx=>?_⟩
        have hy0:YieldsAt P ops o' s x p.2:=by
          rcases hsub with hsub | hsync
          · exact h.yields o' ho' x (hsub x hx)
          · rcases hsync listed st.size st.closed (fun k hk=>eT (h3 k hk)) p.1 (st.pendT p hp) with hmv | this
            · exact zI ho' hmv (h.yields o' ho' w hCs)
            · exact absurd rfl (((st.list p.1 (st.tlt _ (st.pendT p hp))).1 this).2 p hp)
        refine hy0.congr (h.ns o' ho') fun t ht=>?_
        cases hd:o.dst with
        | none=>rfl
        | some d =>
          rw [mV,if_neg ?_]
          intro e
          subst e
          rcases ((oG hchk h1 (by rw [fY ho]; exact hd)).2 p.1 (st.tlt _ (st.pendT p hp)) (hnp p hp)).2 (by rw [iY ho']; exact ht) with h4 | h4
          · exact hiT (h.aft _ h4)
          · exact hpa h4
theorem aHh {Cs2:World → Prop} (h1:∀ w,Cs w → C w → Cs2 w) (h2:∀ w,Cs2 w → Cs w) (h:DW r P ops Q T Cs2 C s):DW r P ops Q T Cs C s :=
  fun fuel listed pend a w hCs hC st hq hf=>h fuel listed pend a w (h1 w hCs hC) hC st (fun p hp=>⟨(hq p hp).aft,(hq p hp).q,(hq p hp).ns,fun o ho x hx=>(hq p hp).yields o ho x (h2 x hx)⟩) hf
theorem wZ {i:Nat} {l:List Oper} {a:Act} {w:World} (hm:P.follows .mixedOrders = true) (hCs:Cs w.drew) (hC:C w.drew) (h:DW r P l.toArray Q [] Cs C a):Wp r P (.region i l.toArray true) Q a w:=by
  refine wpIn_region_any hm (h _ _ [] a _ hCs hC ?_ (by simp) ?_)
  · constructor
    · simp
    · intro j hj
      have hj':j < l.length:=by simpa using hj
      simp [hj']
    · simp
    · intro j hj hl
      have hj':j < l.length:=by simpa using hj
      simp [hj'] at hl
    · simp
    · simp
    · rfl
    · rfl
    · intro t _; rfl
    · simp
  · unfold unl
    exact Nat.le_trans List.countP_le_length (by simp)
end
end Go.Fw
end
