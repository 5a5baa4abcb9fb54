/- Ground for this claim: The call of TracePlays returns true. Condition: the arguments are of bulk at most 1048576. -/
import Derived.Deep.Slices
import Derived.Test.YtmgnkohlfbjjnaaGreatRPl9
set_option linter.unusedVariables false
set_option linter.unusedSimpArgs false
section
namespace Go.Fw
open Go.ChangeShapes Go.WideShapes Go.ChangeAt Go.RowKit Go.Fx
section
variable {H:Type} {enc:TypeId × Value → H} {P:Program} {W:World}
structure Bulk (B:DataW H → Nat) (BA:List (DataW H) → Nat):Prop where
  nil:BA [] = 0
  cons:∀ d r,BA (d :: r) = B d + BA r
  slice:∀ es sp,BA es + 1 ≤ B (.slice es sp)
  agg:∀ ps,BA ps + 1 ≤ B (.agg ps)
  one:∀ d,1 ≤ B d
theorem Bulk.append {B:DataW H → Nat} {BA:List (DataW H) → Nat} (h:Bulk B BA) (l m:List (DataW H)):BA (l ++ m) = BA l + BA m:=by
  induction l with
  | nil=>simp [h.nil]
  | cons d l ih=>rw [List.cons_append,h.cons,h.cons,ih]; omega
def Opn (enc:TypeId × Value → H) (P:Program) (W:World) (B:DataW H → Nat) (t:TypeId) {X Q:Type} [Enc X] (rel:X → Q → Prop) (sz:Q → Nat) (ok:Q → Prop):Prop :=
  ∀ (fuel:Nat) (cs:List Value) (x:DataW H × List MemPlace),DataW.trod enc P W 0 (fun _=>true) true fuel t cs = some x → ∃ (y:X) (q:Q),cs = Enc.enc y ∧ rel y q ∧ sz q ≤ B x.1 ∧ ok q
theorem aC5 {a:Addr} {v:Value} (h:W.cell? a = some v):a.spot = none:=by
  unfold World.cell? at h
  cases hs:a.spot with
  | none=>rfl
  | some k =>
    rw [hs] at h
    split at h <;> simp at h
theorem aAw {X:Type} [Enc X] {b off:Nat} {l:List X} {x:X} (h:Cells W b off (encs l)) (k:Cells W b (off + l.length * Enc.sz X) (Enc.enc x)):Cells W b off (encs (l ++ [x])):=by
  intro j v hj
  rw [eI,qF] at hj
  by_cases hl:j < (encs l).length
  · rw [List.getElem?_append_left hl] at hj; exact h j v hj
  · rw [List.getElem?_append_right (by omega)] at hj
    rw [dW] at hl hj
    have:=k _ _ hj
    rwa [show off + l.length * Enc.sz X + (j - l.length * Enc.sz X) = off + j by omega] at this
variable {B:DataW H → Nat} {BA:List (DataW H) → Nat}
theorem gB {t:TypeId} (hB:Bulk B BA) (ht:P.underlying t = some (.int .i64)):Opn enc P W B t (X:=Int) (Q:=Int) Eq (fun _=>1) (fun x=>-9223372036854775808 ≤ x ∧ x ≤ 9223372036854775807):=by
  intro fuel cs x h
  obtain ⟨n,rfl,rfl,hw⟩:=DataW.trod_int ht h
  refine ⟨n,n,rfl,rfl,hB.one _,?_⟩
  simp only [Lit.wf,Bool.and_eq_true,decide_eq_true_eq] at hw
  exact hw
theorem aFo {t:TypeId} (hB:Bulk B BA) (ht:P.underlying t = some (.int .u8)):Opn enc P W B t (X:=UInt8) (Q:=UInt8) Eq (fun _=>1) (fun _=>True):=by
  intro fuel cs x h
  obtain ⟨n,rfl,rfl,hw⟩:=DataW.trod_int ht h
  simp only [Lit.wf,Bool.and_eq_true,decide_eq_true_eq] at hw
  have hb:0 ≤ n ∧ n ≤ 255:=hw
  refine ⟨UInt8.ofNat n.toNat,UInt8.ofNat n.toNat,?_,rfl,hB.one _,trivial⟩
  show [Value.int .u8 n] = [Value.int .u8 ((UInt8.ofNat n.toNat).toNat:Int)]
  have:((UInt8.ofNat n.toNat).toNat:Int) = n:=by
    rw [UInt8.toNat_ofNat']
    have:n.toNat % 2 ^ 8 = n.toNat:=Nat.mod_eq_of_lt (by omega)
    rw [this]; omega
  rw [this]
theorem zM {t:TypeId} (ht:P.underlying t = some .bool) {fuel:Nat} {cs:List Value} {x:DataW H × List MemPlace} (h:DataW.trod enc P W 0 (fun _=>true) true fuel t cs = some x):∃ b,cs = [.bool b]:=by
  cases fuel with
  | zero=>simp [DataW.trod] at h
  | succ n =>
    unfold DataW.trod at h
    rw [ht] at h
    split at h <;> simp_all
def szL {Q:Type} (sz:Q → Nat) (l:List Q):Nat:=(l.map sz).sum + 1
theorem lZ {t e:TypeId} {X Q:Type} [Enc X] {rel:X → Q → Prop} {sz:Q → Nat} {ok:Q → Prop} (hB:Bulk B BA) (ht:P.underlying t = some (.slice e)) (hc:P.cellsOf e = Enc.sz X) (O:Opn enc P W B e rel sz ok) :
    Opn enc P W B t (X:=SV) (Q:=List Q) (fun s l=>∃ hs:List X,LIn (Keeps [] W) s hs ∧ Each rel hs l) (szL sz) (fun l=>∀ q ∈ l,ok q):=by
  intro fuel cs x h
  rcases Go.Deep.open_slice ht h with ⟨rfl,rfl⟩ | ⟨a,len,cap,m,n,D,Pl,rfl,hb,hl,hm,hmm,rfl,hx⟩
  · exact ⟨SV.nil,[],rfl,⟨[],LIn.nil,Each.nil⟩,by simpa [szL] using hB.one _,fun q hq=>by simp at hq⟩
  · simp only [if_true] at hmm
    have hmm':=hmm.symm
    subst hmm'
    have key:∀ k,k ≤ len → ∃ (hs:List X) (l:List Q),hs.length = k ∧ Each rel hs l ∧ Cells W a.block a.off (encs hs) ∧ (l.map sz).sum ≤ BA ((List.range k).map D) ∧ (∀ q ∈ l,ok q) ∧ (hs = [] ∨ a.spot = none):=by
      intro k
      induction k with
      | zero=>intro _; exact ⟨[],[],rfl,Each.nil,fun j v hj=>by simp [hZ] at hj,by simp [hB.nil],fun q hq=>by simp at hq,.inl rfl⟩
      | succ k ih =>
        intro hk
        obtain ⟨hs,l,h1,h2,h3,h4,h5,h6⟩:=ih (by omega)
        obtain ⟨cs',c1,c2⟩:=hx k (by omega)
        obtain ⟨y,q,rfl,r1,r2,r3⟩:=O _ _ _ c2
        have r2:sz q ≤ B (D k):=r2
        rw [hc] at c1
        obtain ⟨_,hlen,hget⟩:=World.cells?_some c1
        have hpos:=Enc.pos (X:=X)
        have hl1:=Enc.len y
        have hcell:∀ j v,(Enc.enc y)[j]? = some v → W.cell? ((a.add (k * Enc.sz X)).add j) = some v:=fun j v hj=>by
          have hj':j < Enc.sz X:=by rw [← hl1]; exact (List.getElem?_eq_some_iff.1 hj).1
          have:=hget j hj'
          rw [hj] at this
          exact this
        have hspot:a.spot = none:=by
          by_cases hk0:k = 0
          · subst hk0
            have h0:∃ v,(Enc.enc y)[0]? = some v:=⟨_,List.getElem?_eq_getElem (by rw [hl1]; exact hpos)⟩
            obtain ⟨v,hv⟩:=h0
            have:=aC5 (hcell 0 v hv)
            simpa [Addr.add] using this
          · rcases h6 with h6 | h6
            · subst h6; simp at h1; omega
            · exact h6
        refine ⟨hs ++ [y],l ++ [q],by simp [h1],h2.snoc r1,aAw h3 ?_,?_,?_,.inr hspot⟩
        · intro j v hj
          have:=hcell j v hj
          obtain ⟨ab,ao,asp⟩:=a
          simp only at hspot
          subst hspot
          rw [eB,eB] at this
          rw [h1]; exact this
        · have e:(List.range (k + 1)).map D = (List.range k).map D ++ [D k]:=by rw [List.range_succ,List.map_append]; rfl
          rw [e,hB.append]
          simp only [List.map_append,List.sum_append,List.map_cons,List.map_nil,List.sum_cons,List.sum_nil,hB.cons,hB.nil]
          omega
        · intro q' hq'
          rcases List.mem_append.1 hq' with hq' | hq'
          · exact h5 _ hq'
          · simp at hq'; subst hq'; exact r3
    obtain ⟨hs,l,h1,h2,h3,h4,h5,h6⟩:=key len (Nat.le_refl _)
    have hS:SliceOf 0 W ⟨some a,len,cap⟩ hs:=⟨h1.symm,hl,h6,Nat.zero_le _,h3⟩
    refine ⟨⟨some a,len,cap⟩,l,rfl,⟨hs,fun w k=>hS.keep k,h2⟩,?_,h5⟩
    have:=hB.slice ((List.range len).map D) ((List.range (cap - len)).map fun j=>D (len + j))
    simp only [szL]; omega
theorem aHi {X:Type} {hs l:List X} (h:Each Eq hs l):hs = l:=by
  apply List.ext_getElem? 
  intro i
  by_cases hi:i < l.length
  · obtain ⟨x,h1,h2⟩:=Go.Fx.Each.getr h (List.getElem?_eq_getElem hi)
    rw [h1,h2,List.getElem?_eq_getElem hi]
  · have:=h.len
    rw [List.getElem?_eq_none (by omega),List.getElem?_eq_none (by omega)]
theorem qN {t e:TypeId} {X:Type} [Enc X] {sz:X → Nat} {ok:X → Prop} (hB:Bulk B BA) (ht:P.underlying t = some (.slice e)) (hc:P.cellsOf e = Enc.sz X) (O:Opn enc P W B e (X:=X) Eq sz ok) :
    Opn enc P W B t (X:=SV) (Q:=List X) (fun s l=>LIn (Keeps [] W) s l) (szL sz) (fun l=>∀ q ∈ l,ok q):=by
  intro fuel cs x h
  obtain ⟨y,q,h1,⟨hs,h2,h3⟩,h4,h5⟩:=lZ hB ht hc O fuel cs x h
  rw [aHi h3] at h2
  exact ⟨y,q,h1,h2,h4,h5⟩
theorem yB {t:TypeId} {fs:Array Field} (ht:P.underlying t = some (.struct fs)) {fuel:Nat} {cs:List Value} {x:DataW H × List MemPlace} (h:DataW.trod enc P W 0 (fun _=>true) true fuel t cs = some x) :
    ∃ (xs:List (DataW H × List MemPlace)) (n:Nat),x.1 = .agg (xs.map (·.1)) ∧ cs.length = P.cellsOf t ∧ xs.length = fs.size ∧
      ∀ (i:Nat) (f:Field),fs[i]? = some f → DataW.trod enc P W 0 (fun _=>true) true n f.type ((cs.drop f.offset).take (P.cellsOf f.type)) = xs[i]?:=by
  obtain ⟨xs,n,_,rfl,h1,h2,h3⟩:=DataW.trod_struct ht h
  exact ⟨xs,n,rfl,h1,h2,h3⟩
theorem peel {cs A T:List Value} {o n o':Nat} (h:(cs.drop o).take n = A) (e:o + n = o') (k:cs.drop o' = T):cs.drop o = A ++ T:=by
  subst e
  rw [← List.take_append_drop n (cs.drop o),h,List.drop_drop,k]
theorem iW {cs:List Value} {n:Nat} (h:cs.length = n):cs.drop n = []:=List.drop_of_length_le (by omega)
theorem aFd {α β:Type} {f:α → Option β}:∀ {l:List α} {r:List β},l.mapM f = some r → r.length = l.length ∧ ∀ (i:Nat) (x:α),l[i]? = some x → f x = r[i]?:=by
  intro l
  induction l with
  | nil=>intro r h; simp at h; subst h; exact ⟨rfl,fun i x hx=>by simp at hx⟩
  | cons a l ih =>
    intro r h
    rw [List.mapM_cons] at h
    simp only [Option.bind_eq_bind,Option.bind_eq_some_iff,Option.pure_def,Option.some.injEq] at h
    obtain ⟨b,h1,bs,h2,rfl⟩:=h
    obtain ⟨k1,k2⟩:=ih h2
    refine ⟨by simp [k1],fun i x hx=>?_⟩
    cases i with
    | zero=>simp at hx; subst hx; simpa using h1
    | succ i=>simp at hx; simpa using k2 i x hx
theorem aCy {t e:TypeId} {n:Nat} (ht:P.underlying t = some (.array n e)) {fuel:Nat} {cs:List Value} {x:DataW H × List MemPlace} (h:DataW.trod enc P W 0 (fun _=>true) true fuel t cs = some x) :
    ∃ (xs:List (DataW H × List MemPlace)) (m:Nat),x.1 = .agg (xs.map (·.1)) ∧ cs.length = P.cellsOf t ∧ xs.length = n ∧
      ∀ (i:Nat),i < n → DataW.trod enc P W 0 (fun _=>true) true m e ((cs.drop (i * P.cellsOf e)).take (P.cellsOf e)) = xs[i]?:=by
  cases fuel with
  | zero=>simp [DataW.trod] at h
  | succ m =>
    unfold DataW.trod at h
    rw [ht] at h
    split at h <;> simp_all
    obtain ⟨hl,xs,hp,hd⟩:=h
    obtain ⟨k1,k2⟩:=aFd hp
    exact ⟨xs,by rw [← hd],by simpa using k1,m,fun i hi=>k2 i i (by simp [hi])⟩
theorem xN {t e:TypeId} {n:Nat} {X:Type} [Enc X] {sz:X → Nat} {ok:X → Prop} (ht:P.underlying t = some (.array n e)) (hc:P.cellsOf e = Enc.sz X) (hn:P.cellsOf t = n * Enc.sz X) (O:Opn enc P W B e (X:=X) Eq sz ok)
    {fuel:Nat} {cs:List Value} {x:DataW H × List MemPlace} (h:DataW.trod enc P W 0 (fun _=>true) true fuel t cs = some x):∃ v:Vec X n,cs = encs v.l ∧ ∀ q ∈ v.l,ok q:=by
  obtain ⟨xs,m,-,h1,h2,h3⟩:=aCy ht h
  rw [hc] at h3
  rw [hn] at h1
  have key:∀ k,k ≤ n → ∃ l:List X,l.length = k ∧ cs.take (k * Enc.sz X) = encs l ∧ ∀ q ∈ l,ok q:=by
    intro k
    induction k with
    | zero=>intro _; exact ⟨[],rfl,by simp [hZ],fun q hq=>by simp at hq⟩
    | succ k ih =>
      intro hk
      obtain ⟨l,k1,k2,k3⟩:=ih (by omega)
      have hx:=h3 k (by omega)
      rw [List.getElem?_eq_getElem (show k < xs.length by omega)] at hx
      obtain ⟨y,q,r1,rfl,r3,r4⟩:=O _ _ _ hx
      refine ⟨l ++ [y],by simp [k1],?_,fun q' hq'=>?_⟩
      · rw [eI,qF,← r1,← k2,Nat.succ_mul,List.take_add]
      · rcases List.mem_append.1 hq' with hq' | hq'
        · exact k3 _ hq'
        · simp at hq'; subst hq'; exact r4
  obtain ⟨l,k1,k2,k3⟩:=key n (Nat.le_refl _)
  refine ⟨⟨l,k1⟩,?_,k3⟩
  rw [← k2,List.take_of_length_le (by omega)]
end
theorem trodAll_of {H:Type} {enc:TypeId × Value → H} {P:Program} (hl:laidOutB P = true) {W W':World} (hb:Keeps [] W W'):∀ {ts:List TypeId} {vs:List Value} {ds:List (DataW H)} {ps:List MemPlace},
    (∀ t ∈ ts,P.readableRec t = true ∧ t < P.types.size) → DataW.TrodAll enc P W 0 (fun _=>true) true ts vs ds ps → (∀ x ∈ ps,x.block < W.heap.size) → DataW.TrodAll enc P W' 0 (fun b=>decide (b < W.heap.size)) true ts vs ds ps
  | [],[],[],_,_,h,_=>h
  | t :: ts,v :: vs,d :: ds,_,ht,⟨p,q,h1,h2,e⟩,hlt=>by
    subst e
    exact ⟨p,q,aIe hl (ht t List.mem_cons_self).1 (ht t List.mem_cons_self).2 h1 hb (fun x hx=>hlt x (List.mem_append_left _ hx)),trodAll_of hl hb (fun t' h'=>ht t' (List.mem_cons_of_mem _ h')) h2 (fun x hx=>hlt x (List.mem_append_right _ hx)),rfl⟩
  | [],_ :: _,_,_,_,h,_=>by cases h
  | [],[],_ :: _,_,_,h,_=>by cases h
  | _ :: _,[],_,_,_,h,_=>by cases h
  | _ :: _,_ :: _,[],_,_,h,_=>by cases h
end Go.Fw
end
section
namespace Go.Fw
open Go.ChangeShapes Go.WideShapes Go.ChangeAt Go.RowKit Go.Fx
def SF (P:Program) (t:TypeId) (tos:List (Nat × Nat)):Prop:=∃ fs:Array Field,P.underlying t = some (.struct fs) ∧ fs.toList.map (fun f=>(f.type,f.offset)) = tos
structure RecT (P:Program):Prop where
  i3:P.underlying 3 = some (.int .i64)
  b4:P.underlying 4 = some .bool
  u5:P.underlying 5 = some (.int .u8)
  e34:P.underlying 34 = some (.int .i64)
  l23:P.underlying 23 = some (.slice 5)
  l28:P.underlying 28 = some (.slice 23)
  l33:P.underlying 33 = some (.slice 60)
  l52:P.underlying 52 = some (.slice 3)
  l56:P.underlying 56 = some (.slice 128)
  l57:P.underlying 57 = some (.slice 151)
  l58:P.underlying 58 = some (.slice 156)
  a48:P.underlying 48 = some (.array 8 5)
  s46:SF P 46 [(3,0),(3,1),(3,2),(3,3)]
  s50:SF P 50 [(46,0),(48,4),(3,12)]
  s128:SF P 128 [(3,0),(46,1),(46,5)]
  s151:SF P 151 [(3,0),(50,1),(50,14)]
  s156:SF P 156 [(3,0),(3,1),(23,2),(23,3)]
  s60:SF P 60 [(3,0),(3,1),(4,2),(56,3),(57,4),(58,5),(52,6)]
  s30:SF P 30 [(23,0),(28,1)]
  s36:SF P 36 [(30,0),(33,2),(34,3)]
  cells:(P.cellsOf 3,P.cellsOf 4,P.cellsOf 5,P.cellsOf 23,P.cellsOf 28,P.cellsOf 30,P.cellsOf 33,P.cellsOf 34,P.cellsOf 36,P.cellsOf 46,P.cellsOf 48,P.cellsOf 50,P.cellsOf 52,P.cellsOf 56,P.cellsOf 57,P.cellsOf 58,P.cellsOf 60,P.cellsOf 128,P.cellsOf 151,P.cellsOf 156) = (1,1,1,1,1,2,1,1,4,4,8,13,1,1,1,1,7,9,27,4)
abbrev Iw (x:Int):Prop:=-9223372036854775808 ≤ x ∧ x ≤ 9223372036854775807
def RanV (v:LVal):Prop:=Iw v.kind ∧ Iw v.table ∧ Iw v.row ∧ Iw v.x
def RanS (s:LSlot):Prop:=RanV s.ptr ∧ Iw s.mask
def RanTurn (t:LTurn):Prop:=Iw t.reg ∧ RanV t.old ∧ RanV t.new
def RanCell (t:LCell):Prop:=Iw t.slot ∧ RanS t.old ∧ RanS t.new
def RanPiece (p:QPiece):Prop:=Iw p.table ∧ Iw p.from_
def RanMark (m:QMark):Prop:=Iw m.at_ ∧ Iw m.next ∧ (∀ t ∈ m.regs,RanTurn t) ∧ (∀ t ∈ m.slots,RanCell t) ∧ (∀ p ∈ m.pieces,RanPiece p) ∧ ∀ x ∈ m.sent,Iw x
def RanRecord (r:QRecord):Prop:=(∀ m ∈ r.marks,RanMark m) ∧ Iw r.end_
def szB (l:List UInt8):Nat:=szL (fun _=>1) l
def szPiece (p:QPiece):Nat:=szB p.old + szB p.new
def szMark (m:QMark):Nat:=szL (fun _=>1) m.regs + szL (fun _=>1) m.slots + szL szPiece m.pieces + szL (fun _=>1) m.sent
def szInput (i:QInput):Nat:=szB i.ctx + szL szB i.tables
def szRecord (r:QRecord):Nat:=szInput r.in_ + szL szMark r.marks
section
variable {H:Type} {enc:TypeId × Value → H} {P:Program} {W:World} {B:DataW H → Nat} {BA:List (DataW H) → Nat}
theorem iV {t:TypeId} {tos:List (Nat × Nat)} (hs:SF P t tos) {fuel:Nat} {cs:List Value} {x:DataW H × List MemPlace} (h:DataW.trod enc P W 0 (fun _=>true) true fuel t cs = some x) :
    ∃ (xs:List (DataW H × List MemPlace)) (n:Nat),x.1 = .agg (xs.map (·.1)) ∧ cs.length = P.cellsOf t ∧ xs.length = tos.length ∧
      ∀ (i:Nat) (ty off:Nat),tos[i]? = some (ty,off) → DataW.trod enc P W 0 (fun _=>true) true n ty ((cs.drop off).take (P.cellsOf ty)) = xs[i]?:=by
  obtain ⟨fs,hu,ht⟩:=hs
  obtain ⟨xs,n,h1,h2,h3,h4⟩:=yB hu h
  refine ⟨xs,n,h1,h2,by rw [h3,← ht]; simp,fun i ty off hi=>?_⟩
  rw [← ht,List.getElem?_map] at hi
  cases hf:fs.toList[i]? with
  | none=>rw [hf] at hi; simp at hi
  | some f =>
    rw [hf] at hi
    simp only [Option.map_some,Option.some.injEq,Prod.mk.injEq] at hi
    obtain ⟨rfl,rfl⟩:=hi
    exact h4 i f (by simpa using hf)
variable (hB:Bulk B BA) (R:RecT P)
include hB R
theorem tB:Opn enc P W B 46 (X:=LVal) Eq (fun _=>1) RanV:=by
  intro fuel cs x h
  obtain ⟨xs,n,hx,hl,hn,hf⟩:=iV R.s46 h
  have hc:=R.cells
  simp only [Prod.mk.injEq] at hc
  match xs,hn with
  | [y0,y1,y2,y3],_ =>
    obtain ⟨a0,_,e0,rfl,b0,o0⟩:=gB hB R.i3 _ _ _ (hf 0 3 0 rfl)
    obtain ⟨a1,_,e1,rfl,b1,o1⟩:=gB hB R.i3 _ _ _ (hf 1 3 1 rfl)
    obtain ⟨a2,_,e2,rfl,b2,o2⟩:=gB hB R.i3 _ _ _ (hf 2 3 2 rfl)
    obtain ⟨a3,_,e3,rfl,b3,o3⟩:=gB hB R.i3 _ _ _ (hf 3 3 3 rfl)
    have hcs:=peel e0 (o':=1) (by omega) (peel e1 (o':=2) (by omega) (peel e2 (o':=3) (by omega) (peel e3 (o':=4) (by omega) (iW (by omega)))))
    exact ⟨⟨a0,a1,a2,a3⟩,⟨a0,a1,a2,a3⟩,hcs,rfl,hB.one _,o0,o1,o2,o3⟩
theorem uG:Opn enc P W B 50 (X:=LSlot) Eq (fun _=>1) RanS:=by
  intro fuel cs x h
  obtain ⟨xs,n,hx,hl,hn,hf⟩:=iV R.s50 h
  have hc:=R.cells
  simp only [Prod.mk.injEq] at hc
  match xs,hn with
  | [y0,y1,y2],_ =>
    obtain ⟨a0,_,e0,rfl,b0,o0⟩:=tB hB R _ _ _ (hf 0 46 0 rfl)
    obtain ⟨v,e1,_⟩:=xN (n:=8) (X:=UInt8) R.a48 (by rw [hc.2.2.1]; rfl) (by have:=hc.2.2.2.2.2.2.2.2.2.2.1; rw [this]; rfl) (aFo hB R.u5) (hf 1 48 4 rfl)
    obtain ⟨a2,_,e2,rfl,b2,o2⟩:=gB hB R.i3 _ _ _ (hf 2 3 12 rfl)
    have hcs:=peel e0 (o':=4) (by omega) (peel e1 (o':=12) (by omega) (peel e2 (o':=13) (by omega) (iW (by omega))))
    exact ⟨⟨a0,v,a2⟩,⟨a0,v,a2⟩,hcs,rfl,hB.one _,o0,o2⟩
theorem aFn:Opn enc P W B 128 (X:=LTurn) Eq (fun _=>1) RanTurn:=by
  intro fuel cs x h
  obtain ⟨xs,n,hx,hl,hn,hf⟩:=iV R.s128 h
  have hc:=R.cells
  simp only [Prod.mk.injEq] at hc
  match xs,hn with
  | [y0,y1,y2],_ =>
    obtain ⟨a0,_,e0,rfl,b0,o0⟩:=gB hB R.i3 _ _ _ (hf 0 3 0 rfl)
    obtain ⟨a1,_,e1,rfl,b1,o1⟩:=tB hB R _ _ _ (hf 1 46 1 rfl)
    obtain ⟨a2,_,e2,rfl,b2,o2⟩:=tB hB R _ _ _ (hf 2 46 5 rfl)
    have hcs:=peel e0 (o':=1) (by omega) (peel e1 (o':=5) (by omega) (peel e2 (o':=9) (by omega) (iW (by omega))))
    exact ⟨⟨a0,a1,a2⟩,⟨a0,a1,a2⟩,hcs.trans (by rw [List.append_nil]; rfl),rfl,hB.one _,o0,o1,o2⟩
theorem aFl:Opn enc P W B 151 (X:=LCell) Eq (fun _=>1) RanCell:=by
  intro fuel cs x h
  obtain ⟨xs,n,hx,hl,hn,hf⟩:=iV R.s151 h
  have hc:=R.cells
  simp only [Prod.mk.injEq] at hc
  match xs,hn with
  | [y0,y1,y2],_ =>
    obtain ⟨a0,_,e0,rfl,b0,o0⟩:=gB hB R.i3 _ _ _ (hf 0 3 0 rfl)
    obtain ⟨a1,_,e1,rfl,b1,o1⟩:=uG hB R _ _ _ (hf 1 50 1 rfl)
    obtain ⟨a2,_,e2,rfl,b2,o2⟩:=uG hB R _ _ _ (hf 2 50 14 rfl)
    have hcs:=peel e0 (o':=1) (by omega) (peel e1 (o':=14) (by omega) (peel e2 (o':=27) (by omega) (iW (by omega))))
    exact ⟨⟨a0,a1,a2⟩,⟨a0,a1,a2⟩,hcs.trans (by rw [List.append_nil]; rfl),rfl,hB.one _,o0,o1,o2⟩
theorem kQ:Opn enc P W B 23 (X:=SV) (Q:=List UInt8) (fun s l=>LIn (Keeps [] W) s l) szB (fun _=>True):=by
  intro fuel cs x h
  have hc:=R.cells
  simp only [Prod.mk.injEq] at hc
  obtain ⟨y,q,h1,h2,h3,_⟩:=qN (X:=UInt8) hB R.l23 (by rw [hc.2.2.1]; rfl) (aFo hB R.u5) fuel cs x h
  exact ⟨y,q,h1,h2,h3,trivial⟩
theorem zN:Opn enc P W B 52 (X:=SV) (Q:=List Int) (fun s l=>LIn (Keeps [] W) s l) (szL fun _=>1) (fun l=>∀ x ∈ l,Iw x):=by
  have hc:=R.cells
  simp only [Prod.mk.injEq] at hc
  exact qN (X:=Int) hB R.l52 (by rw [hc.1]; rfl) (gB hB R.i3)
theorem aDo:Opn enc P W B 156 (QPieceIn (Keeps [] W)) szPiece RanPiece:=by
  intro fuel cs x h
  obtain ⟨xs,n,hx,hl,hn,hf⟩:=iV R.s156 h
  have hc:=R.cells
  simp only [Prod.mk.injEq] at hc
  match xs,hn with
  | [y0,y1,y2,y3],_ =>
    obtain ⟨a0,_,e0,rfl,b0,o0⟩:=gB hB R.i3 _ _ _ (hf 0 3 0 rfl)
    obtain ⟨a1,_,e1,rfl,b1,o1⟩:=gB hB R.i3 _ _ _ (hf 1 3 1 rfl)
    obtain ⟨a2,q2,e2,r2,b2,o2⟩:=kQ hB R _ _ _ (hf 2 23 2 rfl)
    obtain ⟨a3,q3,e3,r3,b3,o3⟩:=kQ hB R _ _ _ (hf 3 23 3 rfl)
    have hcs:=peel e0 (o':=1) (by omega) (peel e1 (o':=2) (by omega) (peel e2 (o':=3) (by omega) (peel e3 (o':=4) (by omega) (iW (by omega)))))
    refine ⟨⟨a0,a1,a2,a3⟩,⟨a0,a1,q2,q3⟩,hcs,⟨a2,a3,rfl,r2,r3⟩,?_,o0,o1⟩
    have:=hB.agg ([y0,y1,y2,y3].map (·.1))
    rw [← hx] at this
    simp only [List.map_cons,List.map_nil,hB.cons,hB.nil] at this
    simp only [szPiece]; omega
theorem aFm:Opn enc P W B 60 (QMarkIn (Keeps [] W)) szMark RanMark:=by
  intro fuel cs x h
  obtain ⟨xs,n,hx,hl,hn,hf⟩:=iV R.s60 h
  have hc:=R.cells
  simp only [Prod.mk.injEq] at hc
  match xs,hn with
  | [y0,y1,y2,y3,y4,y5,y6],_ =>
    obtain ⟨a0,_,e0,rfl,b0,o0⟩:=gB hB R.i3 _ _ _ (hf 0 3 0 rfl)
    obtain ⟨a1,_,e1,rfl,b1,o1⟩:=gB hB R.i3 _ _ _ (hf 1 3 1 rfl)
    obtain ⟨a2,e2⟩:=zM R.b4 (hf 2 4 2 rfl)
    obtain ⟨a3,q3,e3,r3,b3,o3⟩:=qN (X:=LTurn) hB R.l56 (by have:=hc.2.2.2.2.2.2.2.2.2.2.2.2.2.2.2.2.2.1; rw [this]; rfl) (aFn hB R) _ _ _ (hf 3 56 3 rfl)
    obtain ⟨a4,q4,e4,r4,b4,o4⟩:=qN (X:=LCell) hB R.l57 (by have:=hc.2.2.2.2.2.2.2.2.2.2.2.2.2.2.2.2.2.2.1; rw [this]; rfl) (aFl hB R) _ _ _ (hf 4 57 4 rfl)
    obtain ⟨a5,q5,e5,⟨h5,r5,p5⟩,b5,o5⟩:=lZ hB R.l58 (by have:=hc.2.2.2.2.2.2.2.2.2.2.2.2.2.2.2.2.2.2.2; rw [this]; rfl) (aDo hB R) _ _ _ (hf 5 58 5 rfl)
    obtain ⟨a6,q6,e6,r6,b6,o6⟩:=zN hB R _ _ _ (hf 6 52 6 rfl)
    have hcs:=peel e0 (o':=1) (by omega) (peel e1 (o':=2) (by omega) (peel e2 (o':=3) (by omega) (peel e3 (o':=4) (by omega) (peel e4 (o':=5) (by omega) (peel e5 (o':=6) (by omega) (peel e6 (o':=7) (by omega) (iW (by omega))))))))
    refine ⟨⟨a0,a1,a2,a3,a4,a5,a6⟩,⟨a0,a1,a2,q3,q4,q5,q6⟩,hcs,⟨a3,a4,a5,h5,a6,rfl,r3,r4,r5,p5,r6⟩,?_,o0,o1,o3,o4,o5,o6⟩
    have:=hB.agg ([y0,y1,y2,y3,y4,y5,y6].map (·.1))
    rw [← hx] at this
    simp only [List.map_cons,List.map_nil,hB.cons,hB.nil] at this
    simp only [szMark]; omega
theorem aDn:Opn enc P W B 30 (QInputIn (Keeps [] W)) szInput (fun _=>True):=by
  intro fuel cs x h
  obtain ⟨xs,n,hx,hl,hn,hf⟩:=iV R.s30 h
  have hc:=R.cells
  simp only [Prod.mk.injEq] at hc
  match xs,hn with
  | [y0,y1],_ =>
    obtain ⟨a0,q0,e0,r0,b0,o0⟩:=kQ hB R _ _ _ (hf 0 23 0 rfl)
    obtain ⟨a1,q1,e1,⟨h1,r1,p1⟩,b1,o1⟩:=lZ hB R.l28 (by rw [hc.2.2.2.1]; rfl) (kQ hB R) _ _ _ (hf 1 28 1 rfl)
    have hcs:=peel e0 (o':=1) (by omega) (peel e1 (o':=2) (by omega) (iW (by omega)))
    refine ⟨⟨a0,a1⟩,⟨q0,q1⟩,hcs,⟨a0,a1,h1,rfl,r0,r1,p1⟩,?_,trivial⟩
    have:=hB.agg ([y0,y1].map (·.1))
    rw [← hx] at this
    simp only [List.map_cons,List.map_nil,hB.cons,hB.nil] at this
    simp only [szInput]; omega
theorem opn_record:Opn enc P W B 36 (QRecordIn (Keeps [] W)) szRecord RanRecord:=by
  intro fuel cs x h
  obtain ⟨xs,n,hx,hl,hn,hf⟩:=iV R.s36 h
  have hc:=R.cells
  simp only [Prod.mk.injEq] at hc
  match xs,hn with
  | [y0,y1,y2],_ =>
    obtain ⟨a0,q0,e0,⟨s0,t0,h0,rfl,r0,r0',p0⟩,b0,o0⟩:=aDn hB R _ _ _ (hf 0 30 0 rfl)
    obtain ⟨a1,q1,e1,⟨h1,r1,p1⟩,b1,o1⟩:=lZ hB R.l33 (by have:=hc.2.2.2.2.2.2.2.2.2.2.2.2.2.2.2.2.1; rw [this]; rfl) (aFm hB R) _ _ _ (hf 1 33 2 rfl)
    obtain ⟨a2,_,e2,rfl,b2,o2⟩:=gB hB R.e34 _ _ _ (hf 2 34 3 rfl)
    have hcs:=peel e0 (o':=2) (by omega) (peel e1 (o':=3) (by omega) (peel e2 (o':=4) (by omega) (iW (by omega))))
    refine ⟨⟨⟨s0,t0⟩,a1,a2⟩,⟨q0,q1,a2⟩,hcs,⟨s0,t0,h0,a1,h1,rfl,r0,r0',p0,r1,p1⟩,?_,o1,o2⟩
    have:=hB.agg ([y0,y1,y2].map (·.1))
    rw [← hx] at this
    simp only [List.map_cons,List.map_nil,hB.cons,hB.nil] at this
    simp only [szRecord]; omega
end
end Go.Fw
end
section
namespace Go.Sp
open Go Go.Fw Go.Fx Go.Proofs
theorem jN {X:Type} {enc:X → List UInt8} {sz:X → Nat} {c:Nat} (h:∀ x,(enc x).length ≤ c * sz x) (xs:List X):(xs.flatMap enc).length ≤ c * (xs.map sz).sum:=by
  induction xs with
  | nil=>simp
  | cons x xs ih =>
    have:=h x
    simp only [List.flatMap_cons,List.length_append,List.map_cons,List.sum_cons,Nat.mul_add]; omega
theorem pB {X:Type} {sz:X → Nat} (h:∀ x,1 ≤ sz x) (xs:List X):xs.length ≤ (xs.map sz).sum:=by
  induction xs with
  | nil=>simp
  | cons x xs ih=>have:=h x; simp only [List.length_cons,List.map_cons,List.sum_cons]; omega
theorem nC {X:Type} {sz:X → Nat} {xs:List X} {x:X} (h:x ∈ xs):sz x ≤ (xs.map sz).sum:=by
  induction xs with
  | nil=>cases h
  | cons y xs ih =>
    simp only [List.map_cons,List.sum_cons]
    rcases List.mem_cons.1 h with rfl | h
    · omega
    · have:=ih h; omega
theorem qX {X:Type} (xs:List X):(xs.map fun _=>1).sum = xs.length:=by
  induction xs with
  | nil=>rfl
  | cons x xs ih=>simp [ih]; omega
theorem jD (l:List UInt8):szB l = l.length + 1:=by simp only [szB,szL,qX]
theorem jS (m:QMark):szMark m = m.regs.length + m.slots.length + (m.pieces.map szPiece).sum + m.sent.length + 4:=by
  simp only [szMark,szL,qX]; omega
theorem kD (p:QRecord):szRecord p = p.in_.ctx.length + (p.in_.tables.map szB).sum + (p.marks.map szMark).sum + 3:=by
  simp only [szRecord,szInput,szL,jD]; omega
theorem aA0 (t:LTurn):(encTurn t).length ≤ 23 * 1:=by
  have:=kU t.old; have:=kU t.new
  simp only [encTurn,List.length_append,List.length_singleton]; omega
theorem aAy (t:LCell):(encCell t).length ≤ 23 * 1:=by
  have:=nN t.old; have:=nN t.new
  simp only [encCell,List.length_append,List.length_singleton]; omega
theorem yZ (p:QPiece):(encPiece p).length ≤ 23 * szPiece p:=by
  simp only [encPiece,List.length_append,List.length_singleton,cD,szPiece,jD]; omega
theorem aAz (m:QMark):(encMark m).length ≤ 23 * szMark m:=by
  have h1:=jN aA0 m.regs
  have h2:=jN aAy m.slots
  have h3:=jN yZ m.pieces
  have h4:=jN (enc:=lows 8) (sz:=fun _=>1) (c:=8) (fun x=>by simp [cD]) m.sent
  rw [qX] at h1 h2 h4
  simp only [encMark,List.length_append,List.length_singleton,cD,jS]; omega
theorem xE (p:QRecord):(encRecord p).length ≤ 23 * szRecord p:=by
  have h1:=jN (enc:=encRow) (sz:=szB) (c:=23) (fun x=>by simp only [encRow,List.length_append,cD,jD]; omega) p.in_.tables
  have h2:=jN aAz p.marks
  rw [rG,kD]; omega
theorem nJ {p:QRecord} (h:szRecord p ≤ 1048576):SmallE p ∧ SmallR p:=by
  have h1:=xE p
  rw [kD] at h
  have ht:=pB (sz:=szB) (fun x=>by rw [jD]; omega) p.in_.tables
  have hm:=pB (sz:=szMark) (fun x=>by rw [jS]; omega) p.marks
  have hmm:∀ m ∈ p.marks,m.regs.length ≤ 1048576 ∧ m.slots.length ≤ 1048576 ∧ m.pieces.length ≤ 1048576 ∧ m.sent.length ≤ 1048576:=fun m hx=>by
    have k1:=nC (sz:=szMark) hx
    rw [jS] at k1
    have k2:=pB (sz:=szPiece) (fun x=>by simp only [szPiece,jD]; omega) m.pieces
    omega
  refine ⟨⟨by rw [kD] at h1; omega,fun m hx=>by have:=hmm m hx; omega,fun m hx=>by have:=hmm m hx; omega⟩,by omega,by omega,fun m hx=>?_⟩
  have:=hmm m hx
  exact ⟨by omega,by omega,by omega,by omega⟩
end Go.Sp
end
section
namespace Go.Sp
open Go Go.Fw Go.Fx Go.Proofs
theorem copyB {l:List UInt8} (h:l.length ≤ 1099511627776):Sh.bA l = some l:=by
  unfold Sh.bA
  rw [dB (by simp; omega) (by simp; omega)]; rfl
theorem copyI {l:List Int} (h:l.length ≤ 1099511627776):Sh.fK l = some l:=by
  unfold Sh.fK
  rw [dB (by simp; omega) (by simp; omega)]; rfl
theorem qU {l:List UInt8} (h:l.length ≤ 1099511627776):Sh.pP l = some l:=by
  unfold Sh.pP
  rw [copyB h]
  simp only [Option.bind_some]
  rw [dB (by simp; omega) (by simp; omega)]
  simp only [Option.bind_some]
  rw [show ([161,162]:List UInt8) = spU8 from rfl,uU rfl]; rfl
structure LendM (m:QMark):Prop where
  small:SmallM m
  bytes:∀ p ∈ m.pieces,p.old.length ≤ 1099511627776 ∧ p.new.length ≤ 1099511627776
structure LendR (p:QRecord):Prop where
  small:SmallR p
  ctx:p.in_.ctx.length ≤ 1099511627776
  tables:∀ t ∈ p.in_.tables,t.length ≤ 1099511627776
  marks:∀ m ∈ p.marks,LendM m
theorem rX {X:Type} {l:List X} {i:Nat} (h:i < l.length):l.take i ++ [l[i]] = l.take (i + 1):=by
  rw [List.take_add_one,List.getElem?_eq_getElem h,Option.toList_some]
theorem sJ {m:QMark} (h:LendM m):Sh.oN m = some m:=by
  obtain ⟨⟨h1,h2,h3,h4⟩,h5⟩:=h
  unfold Sh.oN
  rw [dB (bytes:=72) (l:=[]) (m:=m.regs) (by simp; omega) (by simp; omega)]
  simp only [Option.bind_some,List.nil_append]
  rw [dB (bytes:=72) (l:=m.regs) (by simp; omega) (by simp; omega)]
  simp only [Option.bind_some]
  rw [show ([LTurn.mk (-7) LVal.zero LVal.zero,LTurn.mk (-8) LVal.zero LVal.zero]:List LTurn) = spTurn from rfl,uU rfl]
  simp only [Option.bind_some,bB,Sh.qC]
  rw [dB (bytes:=104) (l:=[]) (m:=m.slots) (by simp; omega) (by simp; omega)]
  simp only [Option.bind_some,List.nil_append]
  rw [dB (bytes:=104) (l:=m.slots) (by simp; omega) (by simp; omega)]
  simp only [Option.bind_some]
  rw [show ([LCell.mk (-7) LSlot.zero LSlot.zero,LCell.mk (-8) LSlot.zero LSlot.zero]:List LCell) = spCell from rfl,uU rfl]
  simp only [Option.bind_some,bB,Sh.qD]
  rw [copyI h4]
  simp only [Option.bind_some]
  rw [dB (bytes:=8) (l:=m.sent) (by simp; omega) (by simp; omega)]
  simp only [Option.bind_some]
  rw [show ([-7,-8]:List Int) = spInt from rfl,uU rfl]
  simp only [Option.bind_some,bB,Sh.qE]
  obtain ⟨g,e1,e2⟩:=cM (body:=fun (v:QMark × Int)=>match v with | (v1628,v1646)=>Sh.hA m v1628 v1646) m.pieces.length (fun i (a:Unit)=>(QMark.mk m.at_ m.next m.done m.regs m.slots (m.pieces.take i) m.sent,(i:Int))) (fun i a=>True) (fun g=>g = Sum.inl m)
    (fun i a hi _=>.inl ⟨(),by
      have hb:=h5 _ (List.getElem_mem hi)
      show Sh.hA m _ (i:Int) = _
      simp only [Sh.hA,cG,hi,decide_true,cond_true,bO hi,Option.bind_some,qU hb.1,qU hb.2]
      rw [dB (bytes:=64) (by simp; omega) (by simp; omega)]
      simp only [Option.bind_some,rX hi,next64 hi (show m.pieces.length ≤ _ by omega)],trivial⟩)
    (fun a _=>⟨Sum.inl m,by
      show Sh.hA m _ _ = _
      simp [Sh.hA],rfl⟩) m.pieces.length 0 () (by omega) trivial
  subst e2
  refine cE e1 ?_
  simp only [Fx.fin,Sh.qF]
  rw [dB (bytes:=64) (l:=m.pieces) (by simp; omega) (by simp; omega)]
  simp only [Option.bind_some]
  rw [show ([QPiece.mk 0 (-7) [] [],QPiece.mk 0 (-8) [] []]:List QPiece) = spPiece from rfl,uU rfl]
  rfl
theorem aCd {p:QRecord} (h:LendR p):Sh.tZ p = some p:=by
  obtain ⟨⟨h1,h2,_⟩,h3,h4,h5⟩:=h
  unfold Sh.tZ
  rw [qU h3]
  simp only [Option.bind_some]
  obtain ⟨g,e1,e2⟩:=cM (body:=fun (v:QInput × Int)=>match v with | (v1763,v1773)=>Sh.mK p v1763 v1773) p.in_.tables.length (fun i (a:Unit)=>(QInput.mk p.in_.ctx (p.in_.tables.take i),(i:Int))) (fun i a=>True) (fun g=>g = Sum.inl p.in_)
    (fun i a hi _=>.inl ⟨(),by
      have hb:=h4 _ (List.getElem_mem hi)
      show Sh.mK p _ (i:Int) = _
      simp only [Sh.mK,cG,hi,decide_true,cond_true,bO hi,Option.bind_some,qU hb]
      rw [dB (bytes:=24) (by simp; omega) (by simp; omega)]
      simp only [Option.bind_some,rX hi,next64 hi (show p.in_.tables.length ≤ _ by omega)],trivial⟩)
    (fun a _=>⟨Sum.inl p.in_,by
      show Sh.mK p _ _ = _
      simp [Sh.mK],rfl⟩) p.in_.tables.length 0 () (by omega) trivial
  subst e2
  refine cE e1 ?_
  simp only [Fx.fin,Sh.vF]
  obtain ⟨g,f1,f2⟩:=cM (body:=fun (v:QRecord × Int)=>match v with | (v2694,v2709)=>Sh.mL p v2694 v2709) p.marks.length (fun i (a:Unit)=>(QRecord.mk p.in_ (p.marks.take i) p.end_,(i:Int))) (fun i a=>True) (fun g=>g = Sum.inl p)
    (fun i a hi _=>.inl ⟨(),by
      have hb:=h5 _ (List.getElem_mem hi)
      show Sh.mL p _ (i:Int) = _
      simp only [Sh.mL,cG,hi,decide_true,cond_true,bO hi,Option.bind_some,sJ hb]
      rw [dB (bytes:=120) (by simp; omega) (by simp; omega)]
      simp only [Option.bind_some,rX hi,next64 hi (show p.marks.length ≤ _ by omega)],trivial⟩)
    (fun a _=>⟨Sum.inl p,by
      show Sh.mL p _ _ = _
      simp [Sh.mL],rfl⟩) p.marks.length 0 () (by omega) trivial
  subst f2
  refine cE f1 ?_
  simp only [Fx.fin,Sh.vG]
  rw [dB (bytes:=120) (l:=p.marks) (by simp; omega) (by simp; omega)]
  simp only [Option.bind_some]
  rw [show ([QMark.mk (-7) 0 false [] [] [] [],QMark.mk (-8) 0 false [] [] [] []]:List QMark) = spMark from rfl,uU rfl]
  rfl
theorem aB8 {X:Type} {l:List X} {a b:X}:Fx.get (l ++ [a,b]) (l.length:Int) = some a:=by simp [Fx.get]
theorem vZ {X:Type} {l:List X} {a b:X} (h:l.length ≤ 1099511627776):Fx.get (l ++ [a,b]) (IntKind.i64.wrap ((l.length:Int) + 1)) = some b:=by
  rw [w64 (by omega)]
  have:((l.length:Int) + 1).toNat = l.length + 1:=by omega
  simp [Fx.get,this]
  omega
theorem two64 {n:Nat} (h:n ≤ 1099511627776):decide (IntKind.i64.wrap ((n:Int) + 2) = (n:Int) + 2) = true:=decide_eq_true (w64 (by omega))
theorem tA {l:List UInt8} (h:l.length ≤ 1099511627776):Sh.sK l = some true:=by
  simp only [Sh.sK,two64 h,Fx.must,cond_true,spU8,aB8,vZ h,Option.bind_some]
  rfl
theorem sE {m:QMark} (h:LendM m):Sh.oM m m = some true:=by
  have hm:=gH h.small
  obtain ⟨⟨h1,h2,h3,h4⟩,h5⟩:=h
  have j2:Sh.nL m false = some true:=by
    unfold Sh.nL
    rw [cond_false]
    exact cE (pass (g:=Sum.inl ()) m.pieces.length (by omega) (fun i hi=>by
      have hb:=h5 _ (List.getElem_mem hi)
      simp [Sh.nM,hi,bO hi,tA hb.1,tA hb.2,bB,Sh.qB]) (by simp [Sh.nM])) rfl
  have j1:Sh.nK m false = some true:=by
    unfold Sh.nK
    rw [cond_false]
    simp [spInt,spPiece,aB8,vZ h4,vZ h3,bB,j2]
  unfold Sh.oM
  simp only [two64 h1,two64 h2,two64 h3,two64 h4,Fx.must,cond_true,hm,Option.bind_some,Bool.not_true,cond_false]
  simp [spTurn,spCell,aB8,vZ h1,vZ h2,bB,j1]
theorem yN {p:QRecord} (h:LendR p):Sh.tX p p = some true:=by
  have hm:=kG h.small
  obtain ⟨⟨h1,h2,_⟩,h3,h4,h5⟩:=h
  have j2:Sh.tA p p = some true:=by
    unfold Sh.tA
    exact cE (pass (g:=Sum.inl ()) p.marks.length (by omega) (fun i hi=>by
      simp [Sh.tC,hi,bO hi,sE (h5 _ (List.getElem_mem hi))]) (by simp [Sh.tC])) rfl
  have j1:Sh.sZ p p false = some true:=by
    unfold Sh.sZ
    rw [cond_false]
    exact cE (pass (g:=Sum.inl ()) p.in_.tables.length (by omega) (fun i hi=>by
      simp [Sh.tB,hi,bO hi,tA (h4 _ (List.getElem_mem hi))]) (by simp [Sh.tB])) j2
  unfold Sh.tX
  simp only [two64 h2,Fx.must,cond_true,hm,Option.bind_some,Bool.not_true,cond_false]
  simp [spMark,aB8,vZ h2,tA h3,bB,j1]
theorem aCc {p:QRecord} (h:szRecord p ≤ 1048576):LendR p:=by
  have hs:=(nJ h).2
  rw [kD] at h
  refine ⟨hs,by omega,fun t ht=>?_,fun m hm=>⟨hs.2.2 m hm,fun q hq=>?_⟩⟩
  · have:=nC (sz:=szB) ht
    rw [jD] at this; omega
  · have k1:=nC (sz:=szMark) hm
    rw [jS] at k1
    have k2:=nC (sz:=szPiece) hq
    simp only [szPiece,jD] at k2
    omega
end Go.Sp
end
section
namespace Go.Sp
open Go Go.Fw Go.Fx Go.Proofs
structure LitM (m:QMark):Prop where
  regs:m.regs.length ≤ 1099511627776
  slots:m.slots.length ≤ 1099511627776
  pieces:m.pieces.length ≤ 1099511627776
  old:∀ p ∈ m.pieces,p.old.length ≤ 1099511627776
  new:∀ p ∈ m.pieces,p.new.length ≤ 1099511627776
  sent:m.sent.length ≤ 1099511627776
structure LitR (r:QRecord):Prop where
  ctx:r.in_.ctx.length ≤ 1099511627776
  tables:r.in_.tables.length ≤ 1099511627776
  each:∀ t ∈ r.in_.tables,t.length ≤ 1099511627776
  marks:r.marks.length ≤ 1099511627776
  mark:∀ m ∈ r.marks,LitM m
theorem get3 (v:Vec UInt8 8):∃ y,Fx.get v.l 3 = some y:=by
  obtain ⟨y,e,_⟩:=kM v (i:=3) (by decide) (by decide)
  exact ⟨y,e⟩
theorem aAd {r:QRecord} (h:LitR r):Sh.kU r = some ():=by
  have h1:=h.ctx
  have h2:=h.tables
  have h3:=h.marks
  have e1:Fx.loop (fun v=>Sh.kZ r v) 0 = some (.inl ()):=pass r.in_.ctx.length (by omega) (fun i hi=>by
    simp only [Sh.kZ,cG,hi,decide_true,cond_true,bO hi,Option.bind_some]) (by simp [Sh.kZ])
  have e2:Fx.loop (fun v=>Sh.lA r v) 0 = some (.inl ()):=pass r.in_.tables.length (by omega) (fun i hi=>by
    have ht:=h.each _ (List.getElem_mem hi)
    have e:Fx.loop (fun v=>Sh.lB r (i:Int) v) 0 = some (.inl ()):=pass (r.in_.tables[i]).length (by omega) (fun j hj=>by
      simp only [Sh.lB,bO hi,Option.bind_some,cG,hj,decide_true,cond_true,bO hj]) (by simp [Sh.lB,bO hi])
    simp only [Sh.lA,cG,hi,decide_true,cond_true]
    exact cE e rfl) (by simp [Sh.lA])
  have e3:Fx.loop (fun v=>Sh.lC r v) 0 = some ():=pass r.marks.length (by omega) (fun i hi=>by
    have hm:=h.mark _ (List.getElem_mem hi)
    have hg:=bO hi
    simp only [Sh.lC,cG,hi,decide_true,cond_true,hg,Option.bind_some]
    generalize r.marks[i] = m at *
    have k1:=hm.regs; have k2:=hm.slots; have k3:=hm.pieces; have k4:=hm.sent
    have a1:Fx.loop (fun v=>Sh.iX m v) 0 = some (.inl ()):=pass m.regs.length (by omega) (fun j hj=>by
      simp only [Sh.iX,cG,hj,decide_true,cond_true,bO hj,Option.bind_some]) (by simp [Sh.iX])
    have a2:Fx.loop (fun v=>Sh.iY m v) 0 = some (.inl ()):=pass m.slots.length (by omega) (fun j hj=>by
      obtain ⟨y,e⟩:=get3 (m.slots[j]).new.bytes
      simp only [Sh.iY,cG,hj,decide_true,cond_true,bO hj,Option.bind_some,e]) (by simp [Sh.iY])
    have a3:Fx.loop (fun v=>Sh.iZ m v) 0 = some (.inl ()):=pass m.pieces.length (by omega) (fun j hj=>by
      have g:=bO hj
      have q1:=hm.new _ (List.getElem_mem hj)
      have q2:=hm.old _ (List.getElem_mem hj)
      have b1:Fx.loop (fun v=>Sh.jA m (j:Int) v) 0 = some (.inl ()):=pass (m.pieces[j]).new.length (by omega) (fun k hk=>by
        simp only [Sh.jA,g,Option.bind_some,cG,hk,decide_true,cond_true,bO hk]) (by simp [Sh.jA,g])
      have b2:Fx.loop (fun v=>Sh.jB m (j:Int) v) 0 = some (.inl ()):=pass (m.pieces[j]).old.length (by omega) (fun k hk=>by
        simp only [Sh.jB,g,Option.bind_some,cG,hk,decide_true,cond_true,bO hk]) (by simp [Sh.jB,g])
      simp only [Sh.iZ,cG,hj,decide_true,cond_true]
      exact cE (cE b1 b2) rfl) (by simp [Sh.iZ])
    have a4:Fx.loop (fun v=>Sh.jC m v) 0 = some (.inl ()):=pass m.sent.length (by omega) (fun j hj=>by
      simp only [Sh.jC,cG,hj,decide_true,cond_true,bO hj,Option.bind_some]) (by simp [Sh.jC])
    refine cE (o:=.inl ()) (cE a1 (cE a2 (cE a3 (cE a4 ?_)))) rfl
    simp only [Fx.fin,Sh.oW,hg,Option.bind_some]) (by simp [Sh.lC])
  unfold Sh.kU
  refine cE e1 (cE e2 ?_)
  exact e3
theorem mG:SmallS noState:=⟨by simp [noState],by simp [noState],by simp [noState],by simp [noState]⟩
theorem LendM.lit {m:QMark} (h:LendM m):LitM m:=⟨h.small.1,h.small.2.1,h.small.2.2.1,fun p hp=>(h.bytes p hp).1,fun p hp=>(h.bytes p hp).2,h.small.2.2.2⟩
end Go.Sp
end
section
namespace Go.Sp
open Go Go.Fw Go.Fx Go.Proofs
structure LitI (i:QInput):Prop where
  ctx:i.ctx.length ≤ 1099511627776
  tables:i.tables.length ≤ 1099511627776
  each:∀ t ∈ i.tables,t.length ≤ 1099511627776
def begS (i:QInput):QState:=⟨(((⟨List.replicate 11 LVal.zero,rfl⟩ : Vec LVal 11).set 1 (LVal.mk 3 0 0 0)).set 2 (LVal.mk 1 0 0 (i.ctx.length:Int))).set 10 (LVal.mk 2 0 0 256),⟨List.replicate 32 LSlot.zero,rfl⟩,i.ctx,i.tables,[],0,0,false⟩
theorem rT {i:QInput} (h:LitI i):SmallS (begS i):=⟨h.ctx,h.tables,h.each,by simp [begS]⟩
theorem aH9 {i:QInput} (h:LitI i):Sh.rD i = some (begS i):=by
  unfold Sh.rD
  rw [show Fx.get (⟨List.replicate 11 LVal.zero,rfl⟩ : Vec LVal 11).l 1 = some LVal.zero from rfl]
  simp only [Option.bind_some]
  refine Eq.trans (b:=(Sh.hS (begS i)).bind fun y42=>some y42) rfl ?_
  rw [vF (rT h)]; rfl
theorem aH0 {i:QInput} (h:LitI i):Sh.rB i = some (begS i):=by
  unfold Sh.rB
  refine Eq.trans (b:=(Sh.mQ (begS i)).bind fun y42=>some y42) rfl ?_
  rw [aCk (rT h)]; rfl
noncomputable def after (ms:List QMark) (s0:QState):Nat → QState ⊕ (Nat × Int)
  | 0=>.inl s0
  | i + 1=>match after ms s0 i with
    | .inr f=>.inr f
    | .inl s=>match ms[i]? with
      | none=>.inl s
      | some m=>match Sh.eC s m with
        | none=>.inl s
        | some (y,e)=>if e = 0 then .inl y else .inr (i,e)
theorem vT {ms:List QMark} {s0:QState} {i:Nat} {f:Nat × Int} (h:after ms s0 i = .inr f):∀ j,after ms s0 (i + j) = .inr f:=by
  intro j
  induction j with
  | zero=>exact h
  | succ j ih=>show after ms s0 (i + j + 1) = _; simp only [after,ih]
def outOf:QState ⊕ (Nat × Int) → QState × Int × Int
  | .inl s=>(s,0,0)
  | .inr (i,e)=>(noState,(i:Int),e)
structure LitMs (ms:List QMark):Prop where
  len:ms.length ≤ 549755813888
  mark:∀ m ∈ ms,LendM m
theorem tI {x:QState} {m:QMark} (hx:SmallS x) (hl:x.sent.length ≤ 1099511627775) (hm:LendM m):∃ y e,Sh.cO x m = some (y,e) ∧ Sh.eC x m = some (y,e) ∧ SmallS y ∧ y.sent.length ≤ x.sent.length + 1:=by
  have hb:=fun p hp=>(hm.bytes p hp).1
  obtain ⟨e1,c1⟩:=(tD hx hm.small).same (xQ hx hm.small hb)
  rcases c1 with ⟨e,he,hn⟩ | ⟨he,hx1,hp,c⟩
  · exact ⟨_,_,he,e1 ▸ he,mG,by simp [noState]⟩
  · have:=hp.sent
    exact ⟨_,_,he,e1 ▸ he,kS hp c.st.room _ _ _ _ hx (by simp; omega),by show (x.sent ++ m.sent).length ≤ _; simp; omega⟩
section
variable {ms:List QMark} {s0:QState} (hm:LitMs ms) (h0:SmallS s0) (hs:s0.sent.length = 0)
include hm h0 hs
theorem sD:∀ i s,i ≤ ms.length → after ms s0 i = .inl s → SmallS s ∧ s.sent.length ≤ i:=by
  intro i
  induction i with
  | zero=>intro s _ h; simp only [after,Sum.inl.injEq] at h; subst h; exact ⟨h0,by omega⟩
  | succ i ih =>
    intro s hi h
    have hlen:=hm.len
    cases h1:after ms s0 i with
    | inr f=>simp only [after,h1] at h; cases h
    | inl x =>
      obtain ⟨k1,k2⟩:=ih x (by omega) h1
      have hlt:i < ms.length:=by omega
      obtain ⟨y,e,a1,a2,a3,a4⟩:=tI k1 (by omega) (hm.mark _ (List.getElem_mem hlt))
      simp only [after,h1,List.getElem?_eq_getElem hlt,a2] at h
      split at h
      · cases h; exact ⟨a3,by omega⟩
      · cases h
theorem yK {i:Nat} {s:QState} (hi:i < ms.length) (h:after ms s0 i = .inl s):∃ y e,Sh.cO s ms[i] = some (y,e) ∧ Sh.eC s ms[i] = some (y,e) ∧ after ms s0 (i + 1) = if e = 0 then .inl y else .inr (i,e):=by
  obtain ⟨k1,k2⟩:=sD hm h0 hs i s (by omega) h
  have hlen:=hm.len
  obtain ⟨y,e,a1,a2,a3,a4⟩:=tI k1 (by omega) (hm.mark _ (List.getElem_mem hi))
  exact ⟨y,e,a1,a2,by simp only [after,h,List.getElem?_eq_getElem hi,a2]⟩
end
section
variable {r:QRecord} {s0:QState} {n:Nat} (hm:LitMs r.marks) (h0:SmallS s0) (hs:s0.sent.length = 0) (hn:n ≤ r.marks.length)
include hm h0 hs hn
theorem aJm:∀ j i s,i + j = n → after r.marks s0 i = .inl s → ∃ k,Fx.seq (Fx.loop (fun (v:QState × Int × Int)=>match v with | (a,b,c)=>Sh.iL (n:Int) r a b c) (s,(i:Int) - 1,(i:Int))) (fun (v:QState × Int)=>match v with | (a,b)=>Sh.oI (n:Int) a b) =
    some (.inl (.inl ((outOf (after r.marks s0 n)).1,(outOf (after r.marks s0 n)).2.1,(outOf (after r.marks s0 n)).2.2,k))):=by
  have hlen:=hm.len
  intro j
  induction j with
  | zero =>
    intro i s hi h
    obtain rfl:i = n:=by omega
    have hw:IntKind.i64.wrap ((i:Int) - 1 + 1) = (i:Int):=by rw [w64 (by omega)]; omega
    rw [h]
    by_cases c:i < r.marks.length
    · refine ⟨(i:Int),?_⟩
      refine cE (dQ (g:=.inr (.inl (.inl (s,0,0,(i:Int))))) ?_) rfl
      simp only [Sh.iL,cG,c,decide_true,cond_true,bO c,Option.bind_some,Bool.not_true,cond_false,hw,bB,Sum.elim_inl,Sh.rU]
    · obtain rfl:i = r.marks.length:=by omega
      refine ⟨(r.marks.length:Int),?_⟩
      refine cE (dQ (g:=.inl (s,(r.marks.length:Int) - 1)) (by simp [Sh.iL])) ?_
      simp only [Fx.fin,Sh.oI,decide_true,Bool.not_true,cond_false,hw,cond_true,bB,Sum.elim_inl,Sh.qJ]
      rfl
  | succ j ih =>
    intro i s hi h
    have c:i < r.marks.length:=by omega
    have hw:IntKind.i64.wrap ((i:Int) - 1 + 1) = (i:Int):=by rw [w64 (by omega)]; omega
    have hw1:IntKind.i64.wrap ((i:Int) + 1) = (i:Int) + 1:=w64 (by omega)
    have hw2:IntKind.i64.wrap ((i:Int) + 1 - 1) = (i:Int):=by rw [w64 (by omega)]; omega
    have hne:¬ (i:Int) = (n:Int):=by omega
    obtain ⟨y,e,a1,a2,a3⟩:=yK hm h0 hs c h
    by_cases he:e = 0
    · rw [if_pos he] at a3
      obtain ⟨k,hk⟩:=ih (i + 1) y (by omega) a3
      refine ⟨k,?_⟩
      rw [← hk]
      congr 1
      refine eK ?_ (by rw [show (((i + 1:Nat):Int) - 1) = (i:Int) by omega,show ((i + 1:Nat):Int) = (i:Int) + 1 by omega])
      simp only [Sh.iL,cG,c,decide_true,cond_true,bO c,Option.bind_some,Bool.not_true,cond_false,hw,decide_eq_false hne,bB,Sum.elim_inr,Sh.oH,a1,he,hw1]
    · rw [if_neg he] at a3
      have e1:after r.marks s0 n = .inr (i,e):=by
        have:=vT a3 j
        rwa [show i + 1 + j = n by omega] at this
      rw [e1]
      refine ⟨(i:Int) + 1,?_⟩
      refine cE (dQ (g:=.inr (.inl (.inl (noState,(i:Int),e,(i:Int) + 1)))) ?_) rfl
      simp only [Sh.iL,cG,c,decide_true,cond_true,bO c,Option.bind_some,Bool.not_true,cond_false,hw,decide_eq_false hne,bB,Sum.elim_inr,Sh.oH,a1,decide_eq_false he,Bool.not_false,hw1,hw2,Sh.qI]
      rfl
theorem aJg:∀ j i s,i + j = n → after r.marks s0 i = .inl s → Fx.seq (Fx.loop (fun (v:QState × Int)=>match v with | (a,b)=>Sh.kC r (n:Int) a b) (s,(i:Int))) (fun v=>Sh.rJ v) = some (outOf (after r.marks s0 n)):=by
  have hlen:=hm.len
  intro j
  induction j with
  | zero =>
    intro i s hi h
    obtain rfl:i = n:=by omega
    rw [h]
    exact cE (dQ (g:=.inl s) (by simp [Sh.kC])) rfl
  | succ j ih =>
    intro i s hi h
    have c:i < r.marks.length:=by omega
    have c':i < n:=by omega
    have hw1:IntKind.i64.wrap ((i:Int) + 1) = (i:Int) + 1:=w64 (by omega)
    obtain ⟨y,e,a1,a2,a3⟩:=yK hm h0 hs c h
    by_cases he:e = 0
    · rw [if_pos he] at a3
      have hk:=ih (i + 1) y (by omega) a3
      rw [← hk]
      congr 1
      refine eK ?_ (by rw [show ((i + 1:Nat):Int) = (i:Int) + 1 by omega])
      simp only [Sh.kC,cG,c',decide_true,cond_true,bO c,Option.bind_some,a2,bB,Sh.oG,he,Bool.not_true,cond_false,hw1]
    · rw [if_neg he] at a3
      have e1:after r.marks s0 n = .inr (i,e):=by
        have:=vT a3 j
        rwa [show i + 1 + j = n by omega] at this
      rw [e1]
      refine cE (dQ (g:=.inr (noState,(i:Int),e)) ?_) rfl
      simp only [Sh.kC,cG,c',decide_true,cond_true,bO c,Option.bind_some,a2,bB,Sh.oG,decide_eq_false he,Bool.not_false]
      rfl
end
structure LitP (r:QRecord):Prop where
  inp:LitI r.in_
  ms:LitMs r.marks
theorem aCx {ms:List QMark} {s0:QState} (hm:LitMs ms) (h0:SmallS s0) (hs:s0.sent.length = 0) {n:Nat} (hn:n ≤ ms.length):SmallS (outOf (after ms s0 n)).1:=by
  cases h:after ms s0 n with
  | inl s=>exact (sD hm h0 hs n s hn h).1
  | inr f=>exact mG
theorem aC1 {r:QRecord} (h:LitP r) (n:Int):∃ s a e,Sh.oB r n = some (s,a,e) ∧ Sh.nZ r n = some (s,a,e) ∧ SmallS s:=by
  have hlen:=h.ms.len
  by_cases c:0 ≤ n ∧ n ≤ (r.marks.length:Int)
  case neg =>
    refine ⟨noState,0,1,?_,?_,mG⟩
    · unfold Sh.oB
      rw [dR,decide_eq_false c]; rfl
    · unfold Sh.nZ
      by_cases c0:n < 0
      · rw [decide_eq_true c0]; rfl
      · rw [decide_eq_false c0,decide_eq_true (by omega)]; rfl
  obtain ⟨k,rfl⟩ : ∃ k:Nat,n = (k:Int):=⟨n.toNat,by omega⟩
  have hk:k ≤ r.marks.length:=by omega
  have d1:decide ((k:Int) < 0) = false:=decide_eq_false (by omega)
  have d2:decide ((r.marks.length:Int) < (k:Int)) = false:=decide_eq_false (by omega)
  by_cases g:InOk r.in_
  case neg =>
    refine ⟨noState,0,3,?_,?_,mG⟩
    · unfold Sh.oB
      rw [dR,decide_eq_true c]
      simp only [Option.bind_some,Bool.not_true,cond_false,(nZ r.in_).false g,Bool.not_false,cond_true]
      rfl
    · unfold Sh.nZ
      rw [d1,d2]
      simp only [cond_false,bB,Sh.oF,(nU r.in_).false g,Option.bind_some,Bool.not_false,cond_true]
      rfl
  have hb:=rT h.inp
  have hbs:(begS r.in_).sent.length = 0:=rfl
  obtain ⟨q,hq⟩:=aJm h.ms hb hbs hk k 0 (begS r.in_) (by omega) rfl
  have hq2:=aJg h.ms hb hbs hk k 0 (begS r.in_) (by omega) rfl
  refine ⟨(outOf (after r.marks (begS r.in_) k)).1,(outOf (after r.marks (begS r.in_) k)).2.1,(outOf (after r.marks (begS r.in_) k)).2.2,?_,?_,aCx h.ms hb hbs hk⟩
  · unfold Sh.oB
    rw [dR,decide_eq_true c]
    simp only [Option.bind_some,Bool.not_true,cond_false,(nZ r.in_).true g,bB,Sh.rT,aH9 h.inp]
    refine cE hq ?_
    rfl
  · unfold Sh.nZ
    rw [d1,d2]
    simp only [cond_false,bB,Sh.oF,(nU r.in_).true g,Option.bind_some,Bool.not_true,aH0 h.inp]
    exact hq2
theorem aG9 {l:List LTurn} (h:l.length ≤ 1099511627776):Sh.cT l = some l:=by
  unfold Sh.cT; rw [dB (by simp; omega) (by simp; omega)]; rfl
theorem aG6 {l:List LCell} (h:l.length ≤ 1099511627776):Sh.cS l = some l:=by
  unfold Sh.cS; rw [dB (by simp; omega) (by simp; omega)]; rfl
theorem aG7 {l:List QPiece} (h:l.length ≤ 1099511627776):Sh.cG l = some l:=by
  unfold Sh.cG; rw [dB (by simp; omega) (by simp; omega)]; rfl
theorem aHo {m:QMark} (h:LendM m):Sh.tH m = some m:=by
  obtain ⟨⟨h1,h2,h3,h4⟩,h5⟩:=h
  obtain ⟨g,hg,e⟩:=cM (body:=fun (v:Nat × Int)=>match v with | (n1397,v1401)=>Sh.mF m.pieces n1397 v1401) m.pieces.length (fun i (a:Unit)=>(i,(i:Int))) (fun i a=>True) (fun g=>g = .inl m.pieces.length)
    (fun i a hi _=>.inl ⟨(),by
      obtain ⟨q1,q2⟩:=h5 _ (List.getElem_mem hi)
      simp only [Sh.mF,cG,hi,decide_true,cond_true,bO hi,Option.bind_some,Int.toNat_natCast,Nat.le_refl,Fx.must,oH q1,oH q2,next64 hi (by omega)],trivial⟩)
    (fun a _=>⟨Sum.inl m.pieces.length,by simp [Sh.mF],rfl⟩) m.pieces.length 0 () (by omega) trivial
  subst e
  unfold Sh.tH
  rw [aG9 h1,Option.bind_some,aG6 h2,Option.bind_some,sZ h4,Option.bind_some,aG7 h3,Option.bind_some]
  refine cE hg ?_
  simp only [Fx.fin,Sh.sB,Nat.le_refl,decide_true,Fx.must,cond_true]
def headOf (r:QRecord) (n:Nat):QRecord:=⟨r.in_,r.marks.take n,if n < r.marks.length then 88 else r.end_⟩
theorem aC0 {r:QRecord} (h:LitP r) (n:Int):∃ c e,Sh.qH r n = some (c,e) ∧ Sh.pW r n = some (c,e) ∧ SmallR c:=by
  have hlen:=h.ms.len
  by_cases c:0 ≤ n ∧ n ≤ (r.marks.length:Int)
  case neg =>
    refine ⟨⟨⟨[],[]⟩,[],0⟩,1,?_,?_,⟨by simp,by simp,by simp⟩⟩
    · unfold Sh.qH
      rw [dR,decide_eq_false c]; rfl
    · unfold Sh.pW
      by_cases c0:n < 0
      · rw [decide_eq_true c0]; rfl
      · rw [decide_eq_false c0,decide_eq_true (by omega)]; rfl
  obtain ⟨k,rfl⟩ : ∃ k:Nat,n = (k:Int):=⟨n.toNat,by omega⟩
  have hk:k ≤ r.marks.length:=by omega
  have d1:decide ((k:Int) < 0) = false:=decide_eq_false (by omega)
  have d2:decide ((r.marks.length:Int) < (k:Int)) = false:=decide_eq_false (by omega)
  have hsl:Fx.slc r.marks 0 (k:Int) = some (r.marks.take k):=by
    unfold Fx.slc
    rw [if_pos (by omega)]; simp
  refine ⟨headOf r k,0,?_,?_,⟨h.inp.tables,by simp [headOf]; omega,fun m hm=>(h.ms.mark m (List.mem_of_mem_take hm)).small⟩⟩
  · unfold Sh.qH
    rw [dR,decide_eq_true c]
    have e0:(bif decide ((k:Int) < (r.marks.length:Int)) then some (Sum.inl 88) else some (Sum.inl r.end_):Option (Int ⊕ (QRecord × Int))) = some (.inl (headOf r k).end_):=by
      by_cases g:k < r.marks.length
      · rw [decide_eq_true (by omega)]; simp [headOf,g]
      · rw [decide_eq_false (by omega)]; simp [headOf,g]
    simp only [Option.bind_some,Bool.not_true,cond_false]
    refine cE e0 ?_
    simp only [Fx.fin,Sh.rS]
    have hc:Sh.hS (QState.mk (⟨List.replicate 11 LVal.zero,rfl⟩ : Vec LVal 11) (⟨List.replicate 32 LSlot.zero,rfl⟩ : Vec LSlot 32) r.in_.ctx r.in_.tables [] 0 0 false) = some (QState.mk (⟨List.replicate 11 LVal.zero,rfl⟩ : Vec LVal 11) (⟨List.replicate 32 LSlot.zero,rfl⟩ : Vec LSlot 32) r.in_.ctx r.in_.tables [] 0 0 false):=vF ⟨h.inp.ctx,h.inp.tables,h.inp.each,by simp⟩
    rw [hc,Option.bind_some,hsl]
    simp only [Option.bind_some]
    obtain ⟨g,hg,e⟩:=cM (body:=fun (v:QRecord × Int)=>match v with | (a,b)=>Sh.mB (r.marks.take k) a b) (r.marks.take k).length (fun i T=>(⟨⟨r.in_.ctx,r.in_.tables⟩,T,(headOf r k).end_⟩,(i:Int))) (fun i T=>T = (r.marks.take k).take i) (fun g=>g = .inl (headOf r k))
      (fun i T hi hT=>.inl ⟨T ++ [(r.marks.take k)[i]],by
        have hl:T.length ≤ i:=by rw [hT]; simp; omega
        have hi':i < k:=by simp at hi; omega
        have hm:=h.ms.mark _ (List.mem_of_mem_take (List.getElem_mem hi))
        have e2:Fx.app 120 T [(r.marks.take k)[i]] = some (T ++ [(r.marks.take k)[i]]):=dB (by simp; omega) (by simp; omega)
        simp only [Sh.mB,cG,hi,decide_true,cond_true,bO hi,Option.bind_some,aHo hm,e2,next64 hi (by simp; omega)],by
        rw [hT,List.take_add_one (l:=r.marks.take k),List.getElem?_eq_getElem hi]; rfl⟩)
      (fun T hT=>⟨.inl (headOf r k),by rw [List.take_length] at hT; subst hT; simp [Sh.mB,headOf],rfl⟩) (r.marks.take k).length 0 [] (by omega) rfl
    subst e
    exact cE hg rfl
  · unfold Sh.pW
    rw [d1,d2]
    simp only [cond_false,bB,Sh.rI,hsl,Option.bind_some]
    by_cases g:k < r.marks.length
    · rw [decide_eq_true (by omega)]
      simp [bB,Sh.oE,headOf,g]
    · rw [decide_eq_false (by omega)]
      simp [bB,Sh.oE,headOf,g]
theorem plays_law {r:QRecord} (h:szRecord r ≤ 1048576) (n:Int):Sh.nY r n = some true:=by
  have hl:=aCc h
  have hs:=(nJ h).2
  have hms:r.marks.length ≤ 549755813888:=by
    have:=pB (sz:=szMark) (fun m=>by rw [jS]; omega) r.marks
    rw [kD] at h
    omega
  have hP:LitP r:=⟨⟨hl.ctx,hs.1,hl.tables⟩,⟨hms,hl.marks⟩⟩
  obtain ⟨s,a,e,p1,p2,p3⟩:=aC1 hP n
  obtain ⟨c,f,k1,k2,k3⟩:=aC0 hP n
  have hsp:Sh.kU r = some ():=aAd ⟨hl.ctx,hs.1,hl.tables,hs.2.1,fun m hm=>(hl.marks m hm).lit⟩
  unfold Sh.nY
  simp only [Sh.cN,Option.bind_some,Bool.not_true,cond_false,aCd hl,p1,p2,k1,k2,decide_true,eW p3,kG k3,yN hl,bB,Sh.lR,hsp,cond_true,Sh.lS]
end Go.Sp
end
