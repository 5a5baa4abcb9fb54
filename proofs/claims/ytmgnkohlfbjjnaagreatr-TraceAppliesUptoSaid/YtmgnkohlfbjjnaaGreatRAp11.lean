/- Ground for this claim: The call of TraceApplies returns true. Condition: the arguments are of bulk at most 1048576. -/
import Derived.Deep.Slices
import Derived.Test.YtmgnkohlfbjjnaaGreatRAp10
set_option linter.unusedVariables false
set_option linter.unusedSimpArgs false
section
namespace Go.Fw
open Go.ChangeShapes Go.WideShapes Go.ChangeAt Go.RowKit Go.Fx
section
variable {H:Type} {enc:TypeId × Value → H} {P:Program} {W:World}
structure Bulk (B:DataW H → Nat) (BA:List (DataW H) → Nat):Prop where
  nil:BA [] = 0
  cons:∀ d r,BA (d :: r) = B d + BA r
  slice:∀ es sp,BA es + 1 ≤ B (.slice es sp)
  agg:∀ ps,BA ps + 1 ≤ B (.agg ps)
  one:∀ d,1 ≤ B d
theorem Bulk.append {B:DataW H → Nat} {BA:List (DataW H) → Nat} (h:Bulk B BA) (l m:List (DataW H)):BA (l ++ m) = BA l + BA m:=by
  induction l with
  | nil=>simp [h.nil]
  | cons d l ih=>rw [List.cons_append,h.cons,h.cons,ih]; omega
def Opn (enc:TypeId × Value → H) (P:Program) (W:World) (B:DataW H → Nat) (t:TypeId) {X Q:Type} [Enc X] (rel:X → Q → Prop) (sz:Q → Nat) (ok:Q → Prop):Prop :=
  ∀ (fuel:Nat) (cs:List Value) (x:DataW H × List MemPlace),DataW.trod enc P W 0 (fun _=>true) true fuel t cs = some x → ∃ (y:X) (q:Q),cs = Enc.enc y ∧ rel y q ∧ sz q ≤ B x.1 ∧ ok q
theorem aB4 {a:Addr} {v:Value} (h:W.cell? a = some v):a.spot = none:=by
  unfold World.cell? at h
  cases hs:a.spot with
  | none=>rfl
  | some k =>
    rw [hs] at h
    split at h <;> simp at h
theorem zW {X:Type} [Enc X] {b off:Nat} {l:List X} {x:X} (h:Cells W b off (encs l)) (k:Cells W b (off + l.length * Enc.sz X) (Enc.enc x)):Cells W b off (encs (l ++ [x])):=by
  intro j v hj
  rw [eJ,pZ] at hj
  by_cases hl:j < (encs l).length
  · rw [List.getElem?_append_left hl] at hj; exact h j v hj
  · rw [List.getElem?_append_right (by omega)] at hj
    rw [dX] at hl hj
    have:=k _ _ hj
    rwa [show off + l.length * Enc.sz X + (j - l.length * Enc.sz X) = off + j by omega] at this
variable {B:DataW H → Nat} {BA:List (DataW H) → Nat}
theorem gB {t:TypeId} (hB:Bulk B BA) (ht:P.underlying t = some (.int .i64)):Opn enc P W B t (X:=Int) (Q:=Int) Eq (fun _=>1) (fun x=>-9223372036854775808 ≤ x ∧ x ≤ 9223372036854775807):=by
  intro fuel cs x h
  obtain ⟨n,rfl,rfl,hw⟩:=DataW.trod_int ht h
  refine ⟨n,n,rfl,rfl,hB.one _,?_⟩
  simp only [Lit.wf,Bool.and_eq_true,decide_eq_true_eq] at hw
  exact hw
theorem aEl {t:TypeId} (hB:Bulk B BA) (ht:P.underlying t = some (.int .u8)):Opn enc P W B t (X:=UInt8) (Q:=UInt8) Eq (fun _=>1) (fun _=>True):=by
  intro fuel cs x h
  obtain ⟨n,rfl,rfl,hw⟩:=DataW.trod_int ht h
  simp only [Lit.wf,Bool.and_eq_true,decide_eq_true_eq] at hw
  have hb:0 ≤ n ∧ n ≤ 255:=hw
  refine ⟨UInt8.ofNat n.toNat,UInt8.ofNat n.toNat,?_,rfl,hB.one _,trivial⟩
  show [Value.int .u8 n] = [Value.int .u8 ((UInt8.ofNat n.toNat).toNat:Int)]
  have:((UInt8.ofNat n.toNat).toNat:Int) = n:=by
    rw [UInt8.toNat_ofNat']
    have:n.toNat % 2 ^ 8 = n.toNat:=Nat.mod_eq_of_lt (by omega)
    rw [this]; omega
  rw [this]
theorem yM {t:TypeId} (ht:P.underlying t = some .bool) {fuel:Nat} {cs:List Value} {x:DataW H × List MemPlace} (h:DataW.trod enc P W 0 (fun _=>true) true fuel t cs = some x):∃ b,cs = [.bool b]:=by
  cases fuel with
  | zero=>simp [DataW.trod] at h
  | succ n =>
    unfold DataW.trod at h
    rw [ht] at h
    split at h <;> simp_all
def szL {Q:Type} (sz:Q → Nat) (l:List Q):Nat:=(l.map sz).sum + 1
theorem lS {t e:TypeId} {X Q:Type} [Enc X] {rel:X → Q → Prop} {sz:Q → Nat} {ok:Q → Prop} (hB:Bulk B BA) (ht:P.underlying t = some (.slice e)) (hc:P.cellsOf e = Enc.sz X) (O:Opn enc P W B e rel sz ok) :
    Opn enc P W B t (X:=SV) (Q:=List Q) (fun s l=>∃ hs:List X,LIn (Keeps [] W) s hs ∧ Each rel hs l) (szL sz) (fun l=>∀ q ∈ l,ok q):=by
  intro fuel cs x h
  rcases Go.Deep.open_slice ht h with ⟨rfl,rfl⟩ | ⟨a,len,cap,m,n,D,Pl,rfl,hb,hl,hm,hmm,rfl,hx⟩
  · exact ⟨SV.nil,[],rfl,⟨[],LIn.nil,Each.nil⟩,by simpa [szL] using hB.one _,fun q hq=>by simp at hq⟩
  · simp only [if_true] at hmm
    have hmm':=hmm.symm
    subst hmm'
    have key:∀ k,k ≤ len → ∃ (hs:List X) (l:List Q),hs.length = k ∧ Each rel hs l ∧ Cells W a.block a.off (encs hs) ∧ (l.map sz).sum ≤ BA ((List.range k).map D) ∧ (∀ q ∈ l,ok q) ∧ (hs = [] ∨ a.spot = none):=by
      intro k
      induction k with
      | zero=>intro _; exact ⟨[],[],rfl,Each.nil,fun j v hj=>by simp [hJ] at hj,by simp [hB.nil],fun q hq=>by simp at hq,.inl rfl⟩
      | succ k ih =>
        intro hk
        obtain ⟨hs,l,h1,h2,h3,h4,h5,h6⟩:=ih (by omega)
        obtain ⟨cs',c1,c2⟩:=hx k (by omega)
        obtain ⟨y,q,rfl,r1,r2,r3⟩:=O _ _ _ c2
        have r2:sz q ≤ B (D k):=r2
        rw [hc] at c1
        obtain ⟨_,hlen,hget⟩:=World.cells?_some c1
        have hpos:=Enc.pos (X:=X)
        have hl1:=Enc.len y
        have hcell:∀ j v,(Enc.enc y)[j]? = some v → W.cell? ((a.add (k * Enc.sz X)).add j) = some v:=fun j v hj=>by
          have hj':j < Enc.sz X:=by rw [← hl1]; exact (List.getElem?_eq_some_iff.1 hj).1
          have:=hget j hj'
          rw [hj] at this
          exact this
        have hspot:a.spot = none:=by
          by_cases hk0:k = 0
          · subst hk0
            have h0:∃ v,(Enc.enc y)[0]? = some v:=⟨_,List.getElem?_eq_getElem (by rw [hl1]; exact hpos)⟩
            obtain ⟨v,hv⟩:=h0
            have:=aB4 (hcell 0 v hv)
            simpa [Addr.add] using this
          · rcases h6 with h6 | h6
            · subst h6; simp at h1; omega
            · exact h6
        refine ⟨hs ++ [y],l ++ [q],by simp [h1],h2.snoc r1,zW h3 ?_,?_,?_,.inr hspot⟩
        · intro j v hj
          have:=hcell j v hj
          obtain ⟨ab,ao,asp⟩:=a
          simp only at hspot
          subst hspot
          rw [eD,eD] at this
          rw [h1]; exact this
        · have e:(List.range (k + 1)).map D = (List.range k).map D ++ [D k]:=by rw [List.range_succ,List.map_append]; rfl
          rw [e,hB.append]
          simp only [List.map_append,List.sum_append,List.map_cons,List.map_nil,List.sum_cons,List.sum_nil,hB.cons,hB.nil]
          omega
        · intro q' hq'
          rcases List.mem_append.1 hq' with hq' | hq'
          · exact h5 _ hq'
          · simp at hq'; subst hq'; exact r3
    obtain ⟨hs,l,h1,h2,h3,h4,h5,h6⟩:=key len (Nat.le_refl _)
    have hS:SliceOf 0 W ⟨some a,len,cap⟩ hs:=⟨h1.symm,hl,h6,Nat.zero_le _,h3⟩
    refine ⟨⟨some a,len,cap⟩,l,rfl,⟨hs,fun w k=>hS.keep k,h2⟩,?_,h5⟩
    have:=hB.slice ((List.range len).map D) ((List.range (cap - len)).map fun j=>D (len + j))
    simp only [szL]; omega
theorem aGe {X:Type} {hs l:List X} (h:Each Eq hs l):hs = l:=by
  apply List.ext_getElem? 
  intro i
  by_cases hi:i < l.length
  · obtain ⟨x,h1,h2⟩:=Go.Fx.Each.getr h (List.getElem?_eq_getElem hi)
    rw [h1,h2,List.getElem?_eq_getElem hi]
  · have:=h.len
    rw [List.getElem?_eq_none (by omega),List.getElem?_eq_none (by omega)]
theorem qG {t e:TypeId} {X:Type} [Enc X] {sz:X → Nat} {ok:X → Prop} (hB:Bulk B BA) (ht:P.underlying t = some (.slice e)) (hc:P.cellsOf e = Enc.sz X) (O:Opn enc P W B e (X:=X) Eq sz ok) :
    Opn enc P W B t (X:=SV) (Q:=List X) (fun s l=>LIn (Keeps [] W) s l) (szL sz) (fun l=>∀ q ∈ l,ok q):=by
  intro fuel cs x h
  obtain ⟨y,q,h1,⟨hs,h2,h3⟩,h4,h5⟩:=lS hB ht hc O fuel cs x h
  rw [aGe h3] at h2
  exact ⟨y,q,h1,h2,h4,h5⟩
theorem xD {t:TypeId} {fs:Array Field} (ht:P.underlying t = some (.struct fs)) {fuel:Nat} {cs:List Value} {x:DataW H × List MemPlace} (h:DataW.trod enc P W 0 (fun _=>true) true fuel t cs = some x) :
    ∃ (xs:List (DataW H × List MemPlace)) (n:Nat),x.1 = .agg (xs.map (·.1)) ∧ cs.length = P.cellsOf t ∧ xs.length = fs.size ∧
      ∀ (i:Nat) (f:Field),fs[i]? = some f → DataW.trod enc P W 0 (fun _=>true) true n f.type ((cs.drop f.offset).take (P.cellsOf f.type)) = xs[i]?:=by
  obtain ⟨xs,n,_,rfl,h1,h2,h3⟩:=DataW.trod_struct ht h
  exact ⟨xs,n,rfl,h1,h2,h3⟩
theorem peel {cs A T:List Value} {o n o':Nat} (h:(cs.drop o).take n = A) (e:o + n = o') (k:cs.drop o' = T):cs.drop o = A ++ T:=by
  subst e
  rw [← List.take_append_drop n (cs.drop o),h,List.drop_drop,k]
theorem iS {cs:List Value} {n:Nat} (h:cs.length = n):cs.drop n = []:=List.drop_of_length_le (by omega)
theorem aEb {α β:Type} {f:α → Option β}:∀ {l:List α} {r:List β},l.mapM f = some r → r.length = l.length ∧ ∀ (i:Nat) (x:α),l[i]? = some x → f x = r[i]?:=by
  intro l
  induction l with
  | nil=>intro r h; simp at h; subst h; exact ⟨rfl,fun i x hx=>by simp at hx⟩
  | cons a l ih =>
    intro r h
    rw [List.mapM_cons] at h
    simp only [Option.bind_eq_bind,Option.bind_eq_some_iff,Option.pure_def,Option.some.injEq] at h
    obtain ⟨b,h1,bs,h2,rfl⟩:=h
    obtain ⟨k1,k2⟩:=ih h2
    refine ⟨by simp [k1],fun i x hx=>?_⟩
    cases i with
    | zero=>simp at hx; subst hx; simpa using h1
    | succ i=>simp at hx; simpa using k2 i x hx
theorem aBz {t e:TypeId} {n:Nat} (ht:P.underlying t = some (.array n e)) {fuel:Nat} {cs:List Value} {x:DataW H × List MemPlace} (h:DataW.trod enc P W 0 (fun _=>true) true fuel t cs = some x) :
    ∃ (xs:List (DataW H × List MemPlace)) (m:Nat),x.1 = .agg (xs.map (·.1)) ∧ cs.length = P.cellsOf t ∧ xs.length = n ∧
      ∀ (i:Nat),i < n → DataW.trod enc P W 0 (fun _=>true) true m e ((cs.drop (i * P.cellsOf e)).take (P.cellsOf e)) = xs[i]?:=by
  cases fuel with
  | zero=>simp [DataW.trod] at h
  | succ m =>
    unfold DataW.trod at h
    rw [ht] at h
    split at h <;> simp_all
    obtain ⟨hl,xs,hp,hd⟩:=h
    obtain ⟨k1,k2⟩:=aEb hp
    exact ⟨xs,by rw [← hd],by simpa using k1,m,fun i hi=>k2 i i (by simp [hi])⟩
theorem wR {t e:TypeId} {n:Nat} {X:Type} [Enc X] {sz:X → Nat} {ok:X → Prop} (ht:P.underlying t = some (.array n e)) (hc:P.cellsOf e = Enc.sz X) (hn:P.cellsOf t = n * Enc.sz X) (O:Opn enc P W B e (X:=X) Eq sz ok)
    {fuel:Nat} {cs:List Value} {x:DataW H × List MemPlace} (h:DataW.trod enc P W 0 (fun _=>true) true fuel t cs = some x):∃ v:Vec X n,cs = encs v.l ∧ ∀ q ∈ v.l,ok q:=by
  obtain ⟨xs,m,-,h1,h2,h3⟩:=aBz ht h
  rw [hc] at h3
  rw [hn] at h1
  have key:∀ k,k ≤ n → ∃ l:List X,l.length = k ∧ cs.take (k * Enc.sz X) = encs l ∧ ∀ q ∈ l,ok q:=by
    intro k
    induction k with
    | zero=>intro _; exact ⟨[],rfl,by simp [hJ],fun q hq=>by simp at hq⟩
    | succ k ih =>
      intro hk
      obtain ⟨l,k1,k2,k3⟩:=ih (by omega)
      have hx:=h3 k (by omega)
      rw [List.getElem?_eq_getElem (show k < xs.length by omega)] at hx
      obtain ⟨y,q,r1,rfl,r3,r4⟩:=O _ _ _ hx
      refine ⟨l ++ [y],by simp [k1],?_,fun q' hq'=>?_⟩
      · rw [eJ,pZ,← r1,← k2,Nat.succ_mul,List.take_add]
      · rcases List.mem_append.1 hq' with hq' | hq'
        · exact k3 _ hq'
        · simp at hq'; subst hq'; exact r4
  obtain ⟨l,k1,k2,k3⟩:=key n (Nat.le_refl _)
  refine ⟨⟨l,k1⟩,?_,k3⟩
  rw [← k2,List.take_of_length_le (by omega)]
end
theorem trodAll_of {H:Type} {enc:TypeId × Value → H} {P:Program} (hl:laidOutB P = true) {W W':World} (hb:Keeps [] W W'):∀ {ts:List TypeId} {vs:List Value} {ds:List (DataW H)} {ps:List MemPlace},
    (∀ t ∈ ts,P.readableRec t = true ∧ t < P.types.size) → DataW.TrodAll enc P W 0 (fun _=>true) true ts vs ds ps → (∀ x ∈ ps,x.block < W.heap.size) → DataW.TrodAll enc P W' 0 (fun b=>decide (b < W.heap.size)) true ts vs ds ps
  | [],[],[],_,_,h,_=>h
  | t :: ts,v :: vs,d :: ds,_,ht,⟨p,q,h1,h2,e⟩,hlt=>by
    subst e
    exact ⟨p,q,aHa hl (ht t List.mem_cons_self).1 (ht t List.mem_cons_self).2 h1 hb (fun x hx=>hlt x (List.mem_append_left _ hx)),trodAll_of hl hb (fun t' h'=>ht t' (List.mem_cons_of_mem _ h')) h2 (fun x hx=>hlt x (List.mem_append_right _ hx)),rfl⟩
  | [],_ :: _,_,_,_,h,_=>by cases h
  | [],[],_ :: _,_,_,h,_=>by cases h
  | _ :: _,[],_,_,_,h,_=>by cases h
  | _ :: _,_ :: _,[],_,_,h,_=>by cases h
end Go.Fw
end
section
namespace Go.Fw
open Go.ChangeShapes Go.WideShapes Go.ChangeAt Go.RowKit Go.Fx
def SF (P:Program) (t:TypeId) (tos:List (Nat × Nat)):Prop:=∃ fs:Array Field,P.underlying t = some (.struct fs) ∧ fs.toList.map (fun f=>(f.type,f.offset)) = tos
structure RecT (P:Program):Prop where
  i3:P.underlying 3 = some (.int .i64)
  b4:P.underlying 4 = some .bool
  u5:P.underlying 5 = some (.int .u8)
  e34:P.underlying 34 = some (.int .i64)
  l23:P.underlying 23 = some (.slice 5)
  l28:P.underlying 28 = some (.slice 23)
  l33:P.underlying 33 = some (.slice 60)
  l52:P.underlying 52 = some (.slice 3)
  l56:P.underlying 56 = some (.slice 128)
  l57:P.underlying 57 = some (.slice 151)
  l58:P.underlying 58 = some (.slice 156)
  a48:P.underlying 48 = some (.array 8 5)
  s46:SF P 46 [(3,0),(3,1),(3,2),(3,3)]
  s50:SF P 50 [(46,0),(48,4),(3,12)]
  s128:SF P 128 [(3,0),(46,1),(46,5)]
  s151:SF P 151 [(3,0),(50,1),(50,14)]
  s156:SF P 156 [(3,0),(3,1),(23,2),(23,3)]
  s60:SF P 60 [(3,0),(3,1),(4,2),(56,3),(57,4),(58,5),(52,6)]
  s30:SF P 30 [(23,0),(28,1)]
  s36:SF P 36 [(30,0),(33,2),(34,3)]
  cells:(P.cellsOf 3,P.cellsOf 4,P.cellsOf 5,P.cellsOf 23,P.cellsOf 28,P.cellsOf 30,P.cellsOf 33,P.cellsOf 34,P.cellsOf 36,P.cellsOf 46,P.cellsOf 48,P.cellsOf 50,P.cellsOf 52,P.cellsOf 56,P.cellsOf 57,P.cellsOf 58,P.cellsOf 60,P.cellsOf 128,P.cellsOf 151,P.cellsOf 156) = (1,1,1,1,1,2,1,1,4,4,8,13,1,1,1,1,7,9,27,4)
abbrev Iw (x:Int):Prop:=-9223372036854775808 ≤ x ∧ x ≤ 9223372036854775807
def RanV (v:LVal):Prop:=Iw v.kind ∧ Iw v.table ∧ Iw v.row ∧ Iw v.x
def RanS (s:LSlot):Prop:=RanV s.ptr ∧ Iw s.mask
def RanTurn (t:LTurn):Prop:=Iw t.reg ∧ RanV t.old ∧ RanV t.new
def RanCell (t:LCell):Prop:=Iw t.slot ∧ RanS t.old ∧ RanS t.new
def RanPiece (p:QPiece):Prop:=Iw p.table ∧ Iw p.from_
def RanMark (m:QMark):Prop:=Iw m.at_ ∧ Iw m.next ∧ (∀ t ∈ m.regs,RanTurn t) ∧ (∀ t ∈ m.slots,RanCell t) ∧ (∀ p ∈ m.pieces,RanPiece p) ∧ ∀ x ∈ m.sent,Iw x
def szB (l:List UInt8):Nat:=szL (fun _=>1) l
def szPiece (p:QPiece):Nat:=szB p.old + szB p.new
def szMark (m:QMark):Nat:=szL (fun _=>1) m.regs + szL (fun _=>1) m.slots + szL szPiece m.pieces + szL (fun _=>1) m.sent
section
variable {H:Type} {enc:TypeId × Value → H} {P:Program} {W:World} {B:DataW H → Nat} {BA:List (DataW H) → Nat}
theorem iR {t:TypeId} {tos:List (Nat × Nat)} (hs:SF P t tos) {fuel:Nat} {cs:List Value} {x:DataW H × List MemPlace} (h:DataW.trod enc P W 0 (fun _=>true) true fuel t cs = some x) :
    ∃ (xs:List (DataW H × List MemPlace)) (n:Nat),x.1 = .agg (xs.map (·.1)) ∧ cs.length = P.cellsOf t ∧ xs.length = tos.length ∧
      ∀ (i:Nat) (ty off:Nat),tos[i]? = some (ty,off) → DataW.trod enc P W 0 (fun _=>true) true n ty ((cs.drop off).take (P.cellsOf ty)) = xs[i]?:=by
  obtain ⟨fs,hu,ht⟩:=hs
  obtain ⟨xs,n,h1,h2,h3,h4⟩:=xD hu h
  refine ⟨xs,n,h1,h2,by rw [h3,← ht]; simp,fun i ty off hi=>?_⟩
  rw [← ht,List.getElem?_map] at hi
  cases hf:fs.toList[i]? with
  | none=>rw [hf] at hi; simp at hi
  | some f =>
    rw [hf] at hi
    simp only [Option.map_some,Option.some.injEq,Prod.mk.injEq] at hi
    obtain ⟨rfl,rfl⟩:=hi
    exact h4 i f (by simpa using hf)
variable (hB:Bulk B BA) (R:RecT P)
include hB R
theorem sL:Opn enc P W B 46 (X:=LVal) Eq (fun _=>1) RanV:=by
  intro fuel cs x h
  obtain ⟨xs,n,hx,hl,hn,hf⟩:=iR R.s46 h
  have hc:=R.cells
  simp only [Prod.mk.injEq] at hc
  match xs,hn with
  | [y0,y1,y2,y3],_ =>
    obtain ⟨a0,_,e0,rfl,b0,o0⟩:=gB hB R.i3 _ _ _ (hf 0 3 0 rfl)
    obtain ⟨a1,_,e1,rfl,b1,o1⟩:=gB hB R.i3 _ _ _ (hf 1 3 1 rfl)
    obtain ⟨a2,_,e2,rfl,b2,o2⟩:=gB hB R.i3 _ _ _ (hf 2 3 2 rfl)
    obtain ⟨a3,_,e3,rfl,b3,o3⟩:=gB hB R.i3 _ _ _ (hf 3 3 3 rfl)
    have hcs:=peel e0 (o':=1) (by omega) (peel e1 (o':=2) (by omega) (peel e2 (o':=3) (by omega) (peel e3 (o':=4) (by omega) (iS (by omega)))))
    exact ⟨⟨a0,a1,a2,a3⟩,⟨a0,a1,a2,a3⟩,hcs,rfl,hB.one _,o0,o1,o2,o3⟩
theorem tP:Opn enc P W B 50 (X:=LSlot) Eq (fun _=>1) RanS:=by
  intro fuel cs x h
  obtain ⟨xs,n,hx,hl,hn,hf⟩:=iR R.s50 h
  have hc:=R.cells
  simp only [Prod.mk.injEq] at hc
  match xs,hn with
  | [y0,y1,y2],_ =>
    obtain ⟨a0,_,e0,rfl,b0,o0⟩:=sL hB R _ _ _ (hf 0 46 0 rfl)
    obtain ⟨v,e1,_⟩:=wR (n:=8) (X:=UInt8) R.a48 (by rw [hc.2.2.1]; rfl) (by have:=hc.2.2.2.2.2.2.2.2.2.2.1; rw [this]; rfl) (aEl hB R.u5) (hf 1 48 4 rfl)
    obtain ⟨a2,_,e2,rfl,b2,o2⟩:=gB hB R.i3 _ _ _ (hf 2 3 12 rfl)
    have hcs:=peel e0 (o':=4) (by omega) (peel e1 (o':=12) (by omega) (peel e2 (o':=13) (by omega) (iS (by omega))))
    exact ⟨⟨a0,v,a2⟩,⟨a0,v,a2⟩,hcs,rfl,hB.one _,o0,o2⟩
theorem aEk:Opn enc P W B 128 (X:=LTurn) Eq (fun _=>1) RanTurn:=by
  intro fuel cs x h
  obtain ⟨xs,n,hx,hl,hn,hf⟩:=iR R.s128 h
  have hc:=R.cells
  simp only [Prod.mk.injEq] at hc
  match xs,hn with
  | [y0,y1,y2],_ =>
    obtain ⟨a0,_,e0,rfl,b0,o0⟩:=gB hB R.i3 _ _ _ (hf 0 3 0 rfl)
    obtain ⟨a1,_,e1,rfl,b1,o1⟩:=sL hB R _ _ _ (hf 1 46 1 rfl)
    obtain ⟨a2,_,e2,rfl,b2,o2⟩:=sL hB R _ _ _ (hf 2 46 5 rfl)
    have hcs:=peel e0 (o':=1) (by omega) (peel e1 (o':=5) (by omega) (peel e2 (o':=9) (by omega) (iS (by omega))))
    exact ⟨⟨a0,a1,a2⟩,⟨a0,a1,a2⟩,hcs.trans (by rw [List.append_nil]; rfl),rfl,hB.one _,o0,o1,o2⟩
theorem aEj:Opn enc P W B 151 (X:=LCell) Eq (fun _=>1) RanCell:=by
  intro fuel cs x h
  obtain ⟨xs,n,hx,hl,hn,hf⟩:=iR R.s151 h
  have hc:=R.cells
  simp only [Prod.mk.injEq] at hc
  match xs,hn with
  | [y0,y1,y2],_ =>
    obtain ⟨a0,_,e0,rfl,b0,o0⟩:=gB hB R.i3 _ _ _ (hf 0 3 0 rfl)
    obtain ⟨a1,_,e1,rfl,b1,o1⟩:=tP hB R _ _ _ (hf 1 50 1 rfl)
    obtain ⟨a2,_,e2,rfl,b2,o2⟩:=tP hB R _ _ _ (hf 2 50 14 rfl)
    have hcs:=peel e0 (o':=1) (by omega) (peel e1 (o':=14) (by omega) (peel e2 (o':=27) (by omega) (iS (by omega))))
    exact ⟨⟨a0,a1,a2⟩,⟨a0,a1,a2⟩,hcs.trans (by rw [List.append_nil]; rfl),rfl,hB.one _,o0,o1,o2⟩
theorem kI:Opn enc P W B 23 (X:=SV) (Q:=List UInt8) (fun s l=>LIn (Keeps [] W) s l) szB (fun _=>True):=by
  intro fuel cs x h
  have hc:=R.cells
  simp only [Prod.mk.injEq] at hc
  obtain ⟨y,q,h1,h2,h3,_⟩:=qG (X:=UInt8) hB R.l23 (by rw [hc.2.2.1]; rfl) (aEl hB R.u5) fuel cs x h
  exact ⟨y,q,h1,h2,h3,trivial⟩
theorem yN:Opn enc P W B 52 (X:=SV) (Q:=List Int) (fun s l=>LIn (Keeps [] W) s l) (szL fun _=>1) (fun l=>∀ x ∈ l,Iw x):=by
  have hc:=R.cells
  simp only [Prod.mk.injEq] at hc
  exact qG (X:=Int) hB R.l52 (by rw [hc.1]; rfl) (gB hB R.i3)
theorem aCn:Opn enc P W B 156 (QPieceIn (Keeps [] W)) szPiece RanPiece:=by
  intro fuel cs x h
  obtain ⟨xs,n,hx,hl,hn,hf⟩:=iR R.s156 h
  have hc:=R.cells
  simp only [Prod.mk.injEq] at hc
  match xs,hn with
  | [y0,y1,y2,y3],_ =>
    obtain ⟨a0,_,e0,rfl,b0,o0⟩:=gB hB R.i3 _ _ _ (hf 0 3 0 rfl)
    obtain ⟨a1,_,e1,rfl,b1,o1⟩:=gB hB R.i3 _ _ _ (hf 1 3 1 rfl)
    obtain ⟨a2,q2,e2,r2,b2,o2⟩:=kI hB R _ _ _ (hf 2 23 2 rfl)
    obtain ⟨a3,q3,e3,r3,b3,o3⟩:=kI hB R _ _ _ (hf 3 23 3 rfl)
    have hcs:=peel e0 (o':=1) (by omega) (peel e1 (o':=2) (by omega) (peel e2 (o':=3) (by omega) (peel e3 (o':=4) (by omega) (iS (by omega)))))
    refine ⟨⟨a0,a1,a2,a3⟩,⟨a0,a1,q2,q3⟩,hcs,⟨a2,a3,rfl,r2,r3⟩,?_,o0,o1⟩
    have:=hB.agg ([y0,y1,y2,y3].map (·.1))
    rw [← hx] at this
    simp only [List.map_cons,List.map_nil,hB.cons,hB.nil] at this
    simp only [szPiece]; omega
theorem opn_mark:Opn enc P W B 60 (QMarkIn (Keeps [] W)) szMark RanMark:=by
  intro fuel cs x h
  obtain ⟨xs,n,hx,hl,hn,hf⟩:=iR R.s60 h
  have hc:=R.cells
  simp only [Prod.mk.injEq] at hc
  match xs,hn with
  | [y0,y1,y2,y3,y4,y5,y6],_ =>
    obtain ⟨a0,_,e0,rfl,b0,o0⟩:=gB hB R.i3 _ _ _ (hf 0 3 0 rfl)
    obtain ⟨a1,_,e1,rfl,b1,o1⟩:=gB hB R.i3 _ _ _ (hf 1 3 1 rfl)
    obtain ⟨a2,e2⟩:=yM R.b4 (hf 2 4 2 rfl)
    obtain ⟨a3,q3,e3,r3,b3,o3⟩:=qG (X:=LTurn) hB R.l56 (by have:=hc.2.2.2.2.2.2.2.2.2.2.2.2.2.2.2.2.2.1; rw [this]; rfl) (aEk hB R) _ _ _ (hf 3 56 3 rfl)
    obtain ⟨a4,q4,e4,r4,b4,o4⟩:=qG (X:=LCell) hB R.l57 (by have:=hc.2.2.2.2.2.2.2.2.2.2.2.2.2.2.2.2.2.2.1; rw [this]; rfl) (aEj hB R) _ _ _ (hf 4 57 4 rfl)
    obtain ⟨a5,q5,e5,⟨h5,r5,p5⟩,b5,o5⟩:=lS hB R.l58 (by have:=hc.2.2.2.2.2.2.2.2.2.2.2.2.2.2.2.2.2.2.2; rw [this]; rfl) (aCn hB R) _ _ _ (hf 5 58 5 rfl)
    obtain ⟨a6,q6,e6,r6,b6,o6⟩:=yN hB R _ _ _ (hf 6 52 6 rfl)
    have hcs:=peel e0 (o':=1) (by omega) (peel e1 (o':=2) (by omega) (peel e2 (o':=3) (by omega) (peel e3 (o':=4) (by omega) (peel e4 (o':=5) (by omega) (peel e5 (o':=6) (by omega) (peel e6 (o':=7) (by omega) (iS (by omega))))))))
    refine ⟨⟨a0,a1,a2,a3,a4,a5,a6⟩,⟨a0,a1,a2,q3,q4,q5,q6⟩,hcs,⟨a3,a4,a5,h5,a6,rfl,r3,r4,r5,p5,r6⟩,?_,o0,o1,o3,o4,o5,o6⟩
    have:=hB.agg ([y0,y1,y2,y3,y4,y5,y6].map (·.1))
    rw [← hx] at this
    simp only [List.map_cons,List.map_nil,hB.cons,hB.nil] at this
    simp only [szMark]; omega
end
end Go.Fw
end
section
namespace Go.Fw
open Go.ChangeShapes Go.WideShapes Go.ChangeAt Go.RowKit Go.Fx
structure StT (P:Program):Prop where
  a47:P.underlying 47 = some (.array 11 46)
  a51:P.underlying 51 = some (.array 32 50)
  s54:SF P 54 [(47,0),(51,44),(23,460),(28,461),(52,462),(3,463),(3,464),(4,465)]
  cells:(P.cellsOf 47,P.cellsOf 51,P.cellsOf 54) = (44,416,466)
def RanState (s:QState):Prop:=(∀ v ∈ s.regs.l,RanV v) ∧ (∀ v ∈ s.stack.l,RanS v) ∧ (∀ x ∈ s.sent,Iw x) ∧ Iw s.at_ ∧ Iw s.steps
def szState (s:QState):Nat:=szB s.ctx + szL szB s.tables + szL (fun _=>1) s.sent
section
variable {H:Type} {enc:TypeId × Value → H} {P:Program} {W:World} {B:DataW H → Nat} {BA:List (DataW H) → Nat}
variable (hB:Bulk B BA) (R:RecT P) (S:StT P)
include hB R S
theorem opn_state:Opn enc P W B 54 (QStateIn (Keeps [] W)) szState RanState:=by
  intro fuel cs x h
  obtain ⟨xs,n,hx,hl,hn,hf⟩:=iR S.s54 h
  have hc:=R.cells
  have hd:=S.cells
  simp only [Prod.mk.injEq] at hc hd
  match xs,hn with
  | [y0,y1,y2,y3,y4,y5,y6,y7],_ =>
    obtain ⟨v0,e0,o0⟩:=wR (n:=11) (X:=LVal) S.a47 (by have:=hc.2.2.2.2.2.2.2.2.2.1; rw [this]; rfl) (by rw [hd.1]; rfl) (sL hB R) (hf 0 47 0 rfl)
    obtain ⟨v1,e1,o1⟩:=wR (n:=32) (X:=LSlot) S.a51 (by have:=hc.2.2.2.2.2.2.2.2.2.2.2.1; rw [this]; rfl) (by rw [hd.2.1]; rfl) (tP hB R) (hf 1 51 44 rfl)
    obtain ⟨a2,q2,e2,r2,b2,o2⟩:=kI hB R _ _ _ (hf 2 23 460 rfl)
    obtain ⟨a3,q3,e3,⟨h3,r3,p3⟩,b3,o3⟩:=lS hB R.l28 (by rw [hc.2.2.2.1]; rfl) (kI hB R) _ _ _ (hf 3 28 461 rfl)
    obtain ⟨a4,q4,e4,r4,b4,o4⟩:=yN hB R _ _ _ (hf 4 52 462 rfl)
    obtain ⟨a5,_,e5,rfl,b5,o5⟩:=gB hB R.i3 _ _ _ (hf 5 3 463 rfl)
    obtain ⟨a6,_,e6,rfl,b6,o6⟩:=gB hB R.i3 _ _ _ (hf 6 3 464 rfl)
    obtain ⟨a7,e7⟩:=yM R.b4 (hf 7 4 465 rfl)
    have hcs:=peel e0 (o':=44) (by omega) (peel e1 (o':=460) (by omega) (peel e2 (o':=461) (by omega) (peel e3 (o':=462) (by omega) (peel e4 (o':=463) (by omega) (peel e5 (o':=464) (by omega) (peel e6 (o':=465) (by omega) (peel e7 (o':=466) (by omega) (iS (by omega)))))))))
    refine ⟨⟨v0,v1,a2,a3,a4,a5,a6,a7⟩,⟨v0,v1,q2,q3,q4,a5,a6,a7⟩,hcs,⟨a2,a3,h3,a4,rfl,r2,r3,p3,r4⟩,?_,o0,o1,o4,o5,o6⟩
    have:=hB.agg ([y0,y1,y2,y3,y4,y5,y6,y7].map (·.1))
    rw [← hx] at this
    simp only [List.map_cons,List.map_nil,hB.cons,hB.nil] at this
    simp only [szState]; omega
end
end Go.Fw
end
section
namespace Go.Sp
open Go Go.Fw Go.Fx Go.Proofs
theorem qO {X:Type} {sz:X → Nat} (h:∀ x,1 ≤ sz x) (xs:List X):xs.length ≤ (xs.map sz).sum:=by
  induction xs with
  | nil=>simp
  | cons x xs ih=>have:=h x; simp only [List.length_cons,List.map_cons,List.sum_cons]; omega
theorem mW {X:Type} {sz:X → Nat} {xs:List X} {x:X} (h:x ∈ xs):sz x ≤ (xs.map sz).sum:=by
  induction xs with
  | nil=>cases h
  | cons y xs ih =>
    simp only [List.map_cons,List.sum_cons]
    rcases List.mem_cons.1 h with rfl | h
    · omega
    · have:=ih h; omega
theorem qP {X:Type} (xs:List X):(xs.map fun _=>1).sum = xs.length:=by
  induction xs with
  | nil=>rfl
  | cons x xs ih=>simp [ih]; omega
theorem iZ (l:List UInt8):szB l = l.length + 1:=by simp only [szB,szL,qP]
theorem kK (m:QMark):szMark m = m.regs.length + m.slots.length + (m.pieces.map szPiece).sum + m.sent.length + 4:=by
  simp only [szMark,szL,qP]; omega
end Go.Sp
end
section
namespace Go.Sp
open Go Go.Fw Go.Fx Go.Proofs
theorem vU {s:QState} (h:szState s ≤ 1048576):SmallS s:=by
  simp only [szState,szL,iZ,qP] at h
  have ht:=qO (sz:=szB) (fun x=>by rw [iZ]; omega) s.tables
  refine ⟨by omega,by omega,fun t hm=>?_,by omega⟩
  have:=mW (sz:=szB) hm
  simp only [iZ] at this
  omega
end Go.Sp
end
section
namespace Go.Sp
open Go Go.Fw Go.Fx Go.Proofs
theorem aBo {s:QState} (h:szState s ≤ 1048576):s.sent.length ≤ 1048576:=by
  simp only [szState,szL,iZ,qP] at h
  omega
theorem oT {m:QMark} (h:szMark m ≤ 1048576):SmallM m ∧ ∀ p ∈ m.pieces,p.old.length ≤ 1099511627776:=by
  rw [kK] at h
  have h1:∀ p:QPiece,1 ≤ szPiece p:=fun p=>by unfold szPiece; rw [iZ]; omega
  have hl:=qO h1 m.pieces
  refine ⟨⟨by omega,by omega,by omega,by omega⟩,fun p hp=>?_⟩
  have:=mW (sz:=szPiece) hp
  have e:szPiece p = szB p.old + szB p.new:=rfl
  rw [iZ] at e
  omega
end Go.Sp
end
section
namespace Go.Sp
open Go Go.Fw Go.Fx Go.Proofs
theorem copyB {l:List UInt8} (h:l.length ≤ 1099511627776):Sh.bA l = some l:=by
  unfold Sh.bA
  rw [cZ (by simp; omega) (by simp; omega)]; rfl
theorem copyI {l:List Int} (h:l.length ≤ 1099511627776):Sh.fG l = some l:=by
  unfold Sh.fG
  rw [cZ (by simp; omega) (by simp; omega)]; rfl
theorem qL {l:List UInt8} (h:l.length ≤ 1099511627776):Sh.pD l = some l:=by
  unfold Sh.pD
  rw [copyB h]
  simp only [Option.bind_some]
  rw [cZ (by simp; omega) (by simp; omega)]
  simp only [Option.bind_some]
  rw [show ([161,162]:List UInt8) = spU8 from rfl,uC rfl]; rfl
structure LendM (m:QMark):Prop where
  small:SmallM m
  bytes:∀ p ∈ m.pieces,p.old.length ≤ 1099511627776 ∧ p.new.length ≤ 1099511627776
theorem rK {X:Type} {l:List X} {i:Nat} (h:i < l.length):l.take i ++ [l[i]] = l.take (i + 1):=by
  rw [List.take_add_one,List.getElem?_eq_getElem h,Option.toList_some]
theorem rR {m:QMark} (h:LendM m):Sh.oB m = some m:=by
  obtain ⟨⟨h1,h2,h3,h4⟩,h5⟩:=h
  unfold Sh.oB
  rw [cZ (bytes:=72) (l:=[]) (m:=m.regs) (by simp; omega) (by simp; omega)]
  simp only [Option.bind_some,List.nil_append]
  rw [cZ (bytes:=72) (l:=m.regs) (by simp; omega) (by simp; omega)]
  simp only [Option.bind_some]
  rw [show ([LTurn.mk (-7) LVal.zero LVal.zero,LTurn.mk (-8) LVal.zero LVal.zero]:List LTurn) = spTurn from rfl,uC rfl]
  simp only [Option.bind_some,bB,Sh.pQ]
  rw [cZ (bytes:=104) (l:=[]) (m:=m.slots) (by simp; omega) (by simp; omega)]
  simp only [Option.bind_some,List.nil_append]
  rw [cZ (bytes:=104) (l:=m.slots) (by simp; omega) (by simp; omega)]
  simp only [Option.bind_some]
  rw [show ([LCell.mk (-7) LSlot.zero LSlot.zero,LCell.mk (-8) LSlot.zero LSlot.zero]:List LCell) = spCell from rfl,uC rfl]
  simp only [Option.bind_some,bB,Sh.pR]
  rw [copyI h4]
  simp only [Option.bind_some]
  rw [cZ (bytes:=8) (l:=m.sent) (by simp; omega) (by simp; omega)]
  simp only [Option.bind_some]
  rw [show ([-7,-8]:List Int) = spInt from rfl,uC rfl]
  simp only [Option.bind_some,bB,Sh.pS]
  obtain ⟨g,e1,e2⟩:=cK (body:=fun (v:QMark × Int)=>match v with | (v1628,v1646)=>Sh.gU m v1628 v1646) m.pieces.length (fun i (a:Unit)=>(QMark.mk m.at_ m.next m.done m.regs m.slots (m.pieces.take i) m.sent,(i:Int))) (fun i a=>True) (fun g=>g = Sum.inl m)
    (fun i a hi _=>.inl ⟨(),by
      have hb:=h5 _ (List.getElem_mem hi)
      show Sh.gU m _ (i:Int) = _
      simp only [Sh.gU,cC,hi,decide_true,cond_true,bN hi,Option.bind_some,qL hb.1,qL hb.2]
      rw [cZ (bytes:=64) (by simp; omega) (by simp; omega)]
      simp only [Option.bind_some,rK hi,next64 hi (show m.pieces.length ≤ _ by omega)],trivial⟩)
    (fun a _=>⟨Sum.inl m,by
      show Sh.gU m _ _ = _
      simp [Sh.gU],rfl⟩) m.pieces.length 0 () (by omega) trivial
  subst e2
  refine cD e1 ?_
  simp only [Fx.fin,Sh.pT]
  rw [cZ (bytes:=64) (l:=m.pieces) (by simp; omega) (by simp; omega)]
  simp only [Option.bind_some]
  rw [show ([QPiece.mk 0 (-7) [] [],QPiece.mk 0 (-8) [] []]:List QPiece) = spPiece from rfl,uC rfl]
  rfl
theorem aBc {X:Type} {l:List X} {a b:X}:Fx.get (l ++ [a,b]) (l.length:Int) = some a:=by simp [Fx.get]
theorem vE {X:Type} {l:List X} {a b:X} (h:l.length ≤ 1099511627776):Fx.get (l ++ [a,b]) (IntKind.i64.wrap ((l.length:Int) + 1)) = some b:=by
  rw [w64 (by omega)]
  have:((l.length:Int) + 1).toNat = l.length + 1:=by omega
  simp [Fx.get,this]
  omega
theorem two64 {n:Nat} (h:n ≤ 1099511627776):decide (IntKind.i64.wrap ((n:Int) + 2) = (n:Int) + 2) = true:=decide_eq_true (w64 (by omega))
theorem sK {l:List UInt8} (h:l.length ≤ 1099511627776):Sh.rL l = some true:=by
  simp only [Sh.rL,two64 h,Fx.must,cond_true,spU8,aBc,vE h,Option.bind_some]
  rfl
theorem rN {m:QMark} (h:LendM m):Sh.oA m m = some true:=by
  have hm:=gH h.small
  obtain ⟨⟨h1,h2,h3,h4⟩,h5⟩:=h
  have j2:Sh.nG m false = some true:=by
    unfold Sh.nG
    rw [cond_false]
    exact cD (pass (g:=Sum.inl ()) m.pieces.length (by omega) (fun i hi=>by
      have hb:=h5 _ (List.getElem_mem hi)
      simp [Sh.nH,hi,bN hi,sK hb.1,sK hb.2,bB,Sh.pP]) (by simp [Sh.nH])) rfl
  have j1:Sh.nF m false = some true:=by
    unfold Sh.nF
    rw [cond_false]
    simp [spInt,spPiece,aBc,vE h4,vE h3,bB,j2]
  unfold Sh.oA
  simp only [two64 h1,two64 h2,two64 h3,two64 h4,Fx.must,cond_true,hm,Option.bind_some,Bool.not_true,cond_false]
  simp [spTurn,spCell,aBc,vE h1,vE h2,bB,j1]
end Go.Sp
end
section
namespace Go.Sp
open Go Go.Fw Go.Fx Go.Proofs
structure LitM (m:QMark):Prop where
  regs:m.regs.length ≤ 1099511627776
  slots:m.slots.length ≤ 1099511627776
  pieces:m.pieces.length ≤ 1099511627776
  old:∀ p ∈ m.pieces,p.old.length ≤ 1099511627776
  new:∀ p ∈ m.pieces,p.new.length ≤ 1099511627776
  sent:m.sent.length ≤ 1099511627776
structure LitR (r:QRecord):Prop where
  ctx:r.in_.ctx.length ≤ 1099511627776
  tables:r.in_.tables.length ≤ 1099511627776
  each:∀ t ∈ r.in_.tables,t.length ≤ 1099511627776
  marks:r.marks.length ≤ 1099511627776
  mark:∀ m ∈ r.marks,LitM m
theorem get3 (v:Vec UInt8 8):∃ y,Fx.get v.l 3 = some y:=by
  obtain ⟨y,e,_⟩:=kE v (i:=3) (by decide) (by decide)
  exact ⟨y,e⟩
theorem aE7 {r:QRecord} (h:LitR r):Sh.nY r = some ():=by
  have h1:=h.ctx
  have h2:=h.tables
  have h3:=h.marks
  have e1:Fx.loop (fun v=>Sh.kW r v) 0 = some (.inl ()):=pass r.in_.ctx.length (by omega) (fun i hi=>by
    simp only [Sh.kW,cC,hi,decide_true,cond_true,bN hi,Option.bind_some]) (by simp [Sh.kW])
  have e2:Fx.loop (fun v=>Sh.kX r v) 0 = some (.inl ()):=pass r.in_.tables.length (by omega) (fun i hi=>by
    have ht:=h.each _ (List.getElem_mem hi)
    have e:Fx.loop (fun v=>Sh.kY r (i:Int) v) 0 = some (.inl ()):=pass (r.in_.tables[i]).length (by omega) (fun j hj=>by
      simp only [Sh.kY,bN hi,Option.bind_some,cC,hj,decide_true,cond_true,bN hj]) (by simp [Sh.kY,bN hi])
    simp only [Sh.kX,cC,hi,decide_true,cond_true]
    exact cD e rfl) (by simp [Sh.kX])
  have e3:Fx.loop (fun v=>Sh.kZ r v) 0 = some ():=pass r.marks.length (by omega) (fun i hi=>by
    have hm:=h.mark _ (List.getElem_mem hi)
    have hg:=bN hi
    simp only [Sh.kZ,cC,hi,decide_true,cond_true,hg,Option.bind_some]
    generalize r.marks[i] = m at *
    have k1:=hm.regs; have k2:=hm.slots; have k3:=hm.pieces; have k4:=hm.sent
    have a1:Fx.loop (fun v=>Sh.iV m v) 0 = some (.inl ()):=pass m.regs.length (by omega) (fun j hj=>by
      simp only [Sh.iV,cC,hj,decide_true,cond_true,bN hj,Option.bind_some]) (by simp [Sh.iV])
    have a2:Fx.loop (fun v=>Sh.iW m v) 0 = some (.inl ()):=pass m.slots.length (by omega) (fun j hj=>by
      obtain ⟨y,e⟩:=get3 (m.slots[j]).new.bytes
      simp only [Sh.iW,cC,hj,decide_true,cond_true,bN hj,Option.bind_some,e]) (by simp [Sh.iW])
    have a3:Fx.loop (fun v=>Sh.iX m v) 0 = some (.inl ()):=pass m.pieces.length (by omega) (fun j hj=>by
      have g:=bN hj
      have q1:=hm.new _ (List.getElem_mem hj)
      have q2:=hm.old _ (List.getElem_mem hj)
      have b1:Fx.loop (fun v=>Sh.iY m (j:Int) v) 0 = some (.inl ()):=pass (m.pieces[j]).new.length (by omega) (fun k hk=>by
        simp only [Sh.iY,g,Option.bind_some,cC,hk,decide_true,cond_true,bN hk]) (by simp [Sh.iY,g])
      have b2:Fx.loop (fun v=>Sh.iZ m (j:Int) v) 0 = some (.inl ()):=pass (m.pieces[j]).old.length (by omega) (fun k hk=>by
        simp only [Sh.iZ,g,Option.bind_some,cC,hk,decide_true,cond_true,bN hk]) (by simp [Sh.iZ,g])
      simp only [Sh.iX,cC,hj,decide_true,cond_true]
      exact cD (cD b1 b2) rfl) (by simp [Sh.iX])
    have a4:Fx.loop (fun v=>Sh.jA m v) 0 = some (.inl ()):=pass m.sent.length (by omega) (fun j hj=>by
      simp only [Sh.jA,cC,hj,decide_true,cond_true,bN hj,Option.bind_some]) (by simp [Sh.jA])
    refine cD (o:=.inl ()) (cD a1 (cD a2 (cD a3 (cD a4 ?_)))) rfl
    simp only [Fx.fin,Sh.oK,hg,Option.bind_some]) (by simp [Sh.kZ])
  unfold Sh.nY
  refine cD e1 (cD e2 ?_)
  exact e3
theorem aGk {l:List (List UInt8)} (h:l.length ≤ 1099511627776) (he:∀ t ∈ l,t.length ≤ 1099511627776):Sh.qK l = some l:=by
  obtain ⟨g,hg,e⟩:=cK (body:=fun (v:List (List UInt8) × Int)=>match v with | (a,b)=>Sh.kU l a b) l.length (fun i T=>(T,(i:Int))) (fun i T=>T = l.take i) (fun g=>g = .inl l)
    (by
      intro i T hi hT
      refine .inl ⟨T ++ [l[i]],?_,by rw [hT,List.take_add_one,List.getElem?_eq_getElem hi]; rfl⟩
      have hl:T.length ≤ i:=by rw [hT]; simp; omega
      simp only [Sh.kU,cC,hi,decide_true,cond_true,bN hi,Option.bind_some,kD (he _ (List.getElem_mem hi)),cZ (l:=T) (m:=[l[i]]) (bytes:=24) (by simp; omega) (by simp; omega),next64 hi (by omega)])
    (by
      intro T hT
      rw [List.take_length] at hT
      exact ⟨.inl T,by simp [Sh.kU],by rw [hT]⟩) l.length 0 [] (by omega) rfl
  subst e
  unfold Sh.qK
  exact cD hg rfl
theorem aD4 {x:QState} (h:SmallS x):Sh.pB x = some x:=by
  unfold Sh.pB
  rw [kD h.ctx,Option.bind_some,aGk h.tables h.each,Option.bind_some,rO h.sent,Option.bind_some]
theorem zB:SmallS noState:=⟨by simp [noState],by simp [noState],by simp [noState],by simp [noState]⟩
theorem zQ {x:QState} {m:QMark} (hx:SmallS x) (hl:x.sent.length ≤ 1099511627775) (hm:SmallM m) (hb:∀ p ∈ m.pieces,p.old.length ≤ 1099511627776):∃ y e,Sh.eD x m = some (y,e) ∧ Sh.hA x m = some (y,e) ∧ SmallS y:=by
  obtain ⟨e1,c1⟩:=(xE hx hm).same (aBj hx hm hb)
  rcases c1 with ⟨e,he,hn⟩ | ⟨he,hx1,hp,c⟩
  · exact ⟨_,_,he,e1 ▸ he,zB⟩
  · have:=hp.sent
    exact ⟨_,_,he,e1 ▸ he,lV hp c.st.room _ _ _ _ hx (by simp; omega)⟩
theorem aB1 {x:QState} {m:QMark} (hx:SmallS x) (hm:SmallM m) (hb:∀ p ∈ m.pieces,p.old.length ≤ 1099511627776):∃ y e,Sh.eN x m = some (y,e) ∧ Sh.iN x m = some (y,e) ∧ SmallS y:=by
  obtain ⟨e1,c1⟩:=(aA2 hx hm).same (aEy hx hm hb)
  have hs:=hx.sent
  rcases c1 with ⟨e,he,hn⟩ | ⟨he,hx1,hp,c⟩
  · exact ⟨_,_,he,e1 ▸ he,zB⟩
  · exact ⟨_,_,he,e1 ▸ he,lV hp.turn c.st.room _ _ _ _ hx (by simp; omega)⟩
theorem aCi {m:QMark} (h:szMark m ≤ 1048576):LendM m:=by
  refine ⟨(oT h).1,fun q hq=>?_⟩
  rw [kK] at h
  have k2:=mW (sz:=szPiece) hq
  simp only [szPiece,iZ] at k2
  omega
theorem LendM.lit {m:QMark} (h:LendM m):LitM m:=⟨h.small.1,h.small.2.1,h.small.2.2.1,fun p hp=>(h.bytes p hp).1,fun p hp=>(h.bytes p hp).2,h.small.2.2.2⟩
theorem applies_law {x:QState} {m:QMark} (h:szState x ≤ 1048576) (k:szMark m ≤ 1048576):Sh.mC x m = some true:=by
  have hx:=vU h
  have hl:x.sent.length ≤ 1099511627775:=Nat.le_trans (aBo h) (by decide)
  obtain ⟨hm,hb⟩:=oT k
  have hL:=aCi k
  obtain ⟨y,e,a1,a2,a3⟩:=zQ hx hl hm hb
  obtain ⟨z,f,u1,u2,u3⟩:=aB1 hx hm hb
  have hsp:Sh.nY (QRecord.mk (QInput.mk x.ctx x.tables) [m] 0) = some ():=aE7 ⟨hx.ctx,hx.tables,hx.each,by simp,fun q hq=>by
    obtain rfl:q = m:=by simpa using hq
    exact hL.lit⟩
  unfold Sh.mC
  simp only [Sh.dV,Option.bind_some,Bool.not_true,cond_false,aD4 hx,rR hL,bB,Sh.iR,a1,a2,u1,u2,decide_true,fB hx,fB a3,fB u3,rN hL,Sh.iS,hsp,cond_true,Sh.iT]
end Go.Sp
end
