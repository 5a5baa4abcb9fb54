/- Ground for this claim: The call of TracePlays returns true. Condition: the arguments are of bulk at most 1048576. -/
import Derived.Laws.CopyRow
import Derived.Laws.Cover3
import Derived.Laws.IdiomCopy
import Derived.Laws.IdiomStrings
import Derived.Test.YtmgnkohlfbjjnaaGreatRPl2
set_option linter.unusedVariables false
set_option linter.unusedSimpArgs false
section
namespace Go.Fw
def SV.cut (s:SV) (i j sz:Nat):SV:=⟨if s.cap - i = 0 then s.a else s.a.map (·.add (i * sz)),j - i,s.cap - i⟩
theorem SliceOf.cut {X:Type} [Enc X] {lo:Nat} {w:World} {s:SV} {l:List X} (h:SliceOf lo w s l) {i j:Nat} (hij:i ≤ j) (hj:j ≤ l.length):SliceOf lo w (s.cut i j (Enc.sz X)) ((l.drop i).take (j - i)):=by
  have hl:=h.len
  have hr:=h.room
  have hc:=h.cells
  refine ⟨by simp [SV.cut]; omega,by simp only [SV.cut]; omega,?_⟩
  obtain ⟨sa,sl,sc⟩:=s
  simp only at hl hr
  subst hl
  by_cases h0:sc - i = 0
  · simp only [SV.cut,if_pos h0]
    have hd:(l.drop i).take (j - i) = []:=by rw [List.drop_eq_nil_of_le (by omega)]; simp
    cases sa with
    | none=>exact ⟨hd,h0⟩
    | some ad =>
      obtain ⟨h1,h2,h3⟩:=hc
      exact ⟨.inl hd,h2,by rw [hd]; intro k v hv; simp [hZ] at hv⟩
  · simp only [SV.cut,if_neg h0]
    cases sa with
    | none =>
      obtain ⟨h1,h2⟩:=hc
      subst h1
      exact ⟨by simp,by simp at h2; omega⟩
    | some ad =>
      obtain ⟨b,off,sp⟩:=ad
      obtain ⟨h1,h2,h3⟩:=hc
      simp only at h1
      rcases h1 with h1 | h1
      · have hd:(l.drop i).take (j - i) = []:=by rw [h1]; simp
        simp only [Option.map_some]
        exact ⟨.inl hd,by simpa [Addr.add] using (by split <;> exact h2:lo ≤ (if i * Enc.sz X = 0 then (⟨b,off,sp⟩ : Addr) else ⟨b,off + i * Enc.sz X,none⟩).block),by rw [hd]; intro k v hv; simp [hZ] at hv⟩
      subst h1
      simp only [Option.map_some,eB]
      refine ⟨.inr trivial,h2,fun k v hv=>?_⟩
      have hk:k < (encs ((l.drop i).take (j - i))).length:=(List.getElem?_eq_some_iff.1 hv).1
      have e:encs l = encs (l.take i) ++ (encs ((l.drop i).take (j - i)) ++ encs ((l.drop i).drop (j - i))):=by
        rw [← eI,← eI,List.take_append_drop,List.take_append_drop]
      have e1:(encs (l.take i)).length = i * Enc.sz X:=by rw [dW]; simp [Nat.min_eq_left (show i ≤ l.length by omega)]
      have:=h3 (i * Enc.sz X + k) v (by rw [e,List.getElem?_append_right (by omega),e1,Nat.add_sub_cancel_left,List.getElem?_append_left hk,hv])
      simpa [Addr.add,Nat.add_assoc] using this
theorem LAt.cut {X:Type} [Enc X] {lo:Nat} {w:World} {s:SV} {l:List X} (h:LAt lo w s l) {i j:Nat} (hij:i ≤ j) (hj:j ≤ l.length):LAt lo w (s.cut i j (Enc.sz X)) ((l.drop i).take (j - i)) :=
  ⟨h.sl.cut hij hj,by have:=h.big; simp; omega⟩
theorem SliceOf.isNil {X:Type} [Enc X] {lo:Nat} {w:World} {s:SV} {l:List X} (h:SliceOf lo w s l) (hn:s.a.isNone = true):l = []:=by
  have hc:=h.cells
  cases ha:s.a with
  | none=>rw [ha] at hc; exact hc.1
  | some _=>rw [ha] at hn; cases hn
theorem qE {X:Type} [Enc X] {l:List X} {i:Nat} {y:X} {v:Value} (h:l[i]? = some y) (hv:(Enc.enc y)[0]? = some v):(encs l)[i * Enc.sz X]? = some v:=by
  have:=dK (iS l i y h) hv
  simpa using this
theorem aEq {X:Type} [Enc X] {l:List X} {i:Nat} {y:X} {vs:List Value} {d:Nat} {z:X} (h:l[i]? = some y) (hd:d + vs.length ≤ Enc.sz X) (hp:put (Enc.enc y) d vs = Enc.enc z):put (encs l) (i * Enc.sz X + d) vs = encs (l.set i z):=by
  induction l generalizing i with
  | nil=>simp at h
  | cons x l ih =>
    cases i with
    | zero =>
      simp at h; subst h
      simp only [Nat.zero_mul,Nat.zero_add,List.set_cons_zero,jK]
      rw [mW (n:=vs.length) (by rw [Enc.len]; exact hd) rfl hp]
    | succ i =>
      simp only [List.set_cons_succ,jK]
      rw [show (i + 1) * Enc.sz X + d = Enc.sz X + (i * Enc.sz X + d) by rw [Nat.add_mul]; omega]
      exact gW (Enc.len _) (ih (by simpa using h))
section
variable {P:Program} {n:Nat} {F:List (Nat × Value)} {a:Act} {dd:List Deferred} {w:World} {o:Oper} {J:Value → World → Prop}
theorem iX {t yt e:TypeId} {x y:Operand} {s:SV} (ht:P.underlying t = some (.slice e)) (hF:Fr n F a dd) (ho:o.op = .binOp .eql t x y yt) (hx:ev F x = some s.v) (hy:ev F y = some (.slice none 0 0)) :
    (execOp a.eval o).run P w = .ok (.value (.bool s.a.isNone)) w:=by
  obtain ⟨sa,sl,sc⟩:=s
  have e:(binOp .eql t (.slice sa sl sc) (.slice none 0 0)).run P w = .ok (.bool sa.isNone) w:=by
    have:=run_equal_slice_nil (P:=P) w t e sa sl sc ht
    simp only [binOp,Sem.run_bind,this,Result.andThen_ok,Sem.run_pure]
  simp only [execOp,ho,hF.eval hx,hF.eval hy,SV.v,eqGuard,Bool.not_true,Bool.false_eq_true,if_false,Sem.run_bind,Sem.run_pure,Result.andThen_ok,e]
theorem aKe {X:Type} [Enc X] {t e:TypeId} {x:Operand} {ol oh:Option Operand} {s:SV} {i j lo sz:Nat} {l:List X} {w1:World} {ti:TypeInfo} (hs:SliceOf lo w1 s l) (ht:P.underlying t = some (.slice e)) (hi:P.info? e = some ti) (hsz:ti.size = sz) (hF:Fr n F a dd) (ho:o.op = .slice t x ol oh none)
    (hx:ev F x = some s.v) (hl:(ol = none ∧ i = 0) ∨ ∃ y k z,ol = some y ∧ ev F y = some (.int k z) ∧ z = (i:Nat)) (hh:(oh = none ∧ j = l.length) ∨ ∃ y k z,oh = some y ∧ ev F y = some (.int k z) ∧ z = (j:Nat)) (hij:i ≤ j ∧ j ≤ l.length) :
    (execOp a.eval o).run P w = .ok (.value (s.cut i j sz).v) w:=by
  have h1:=hs.len
  have h2:=hs.room
  subst hsz
  obtain ⟨sa,sl,sc⟩:=s
  simp only at h1 h2
  have eb:∀ (v:Value) (k:IntKind) (q c:Nat) (bc:BoundsCode),v = .int k (q:Nat) → q ≤ c → (Instr.sliceBound v c bc).run P w = .ok q w:=by
    intro v k q c bc hv hq
    subst hv
    have hq':(0:Int) ≤ (q:Int) ∧ (q:Int) ≤ (c:Int):=by omega
    simp only [Instr.sliceBound,asIntOf,Sem.run_bind,Sem.run_pure,Result.andThen_ok,if_pos hq',Int.toNat_natCast]
  have e2:(Instr.sliceBounds true sl sc (ol.map a.eval) (oh.map a.eval) none).run P w = .ok (i,j,sc) w:=by
    rcases hl with ⟨rfl,rfl⟩ | ⟨y,k,_,rfl,hy,rfl⟩ <;> rcases hh with ⟨rfl,rfl⟩ | ⟨z,k',_,rfl,hz,rfl⟩
    · simp [Instr.sliceBounds,h1]
    · simp [Instr.sliceBounds,hF.eval hz,eb _ k' j sc _ rfl (by omega)]
    · simp [Instr.sliceBounds,hF.eval hy,eb _ k i sl _ rfl (by omega),h1]
      simp [eb _ k i l.length _ rfl (by omega)]
    · simp [Instr.sliceBounds,hF.eval hy,hF.eval hz,eb _ k' j sc _ rfl (by omega),eb _ k i j _ rfl (by omega)]
  have e3:(Instr.sliceAt t (.slice sa sl sc) (ol.map a.eval) (oh.map a.eval) none).run P w = .ok (SV.cut ⟨sa,sl,sc⟩ i j ti.size).v w:=by
    by_cases hc:sc = i
    · subst hc
      simp [Instr.sliceAt,Instr.slice,run_underlying ht,e2,sizeOf,typeInfo,hi,SV.cut,SV.v]
    · have:¬ sc - i = 0:=by omega
      simp [Instr.sliceAt,Instr.slice,run_underlying ht,e2,sizeOf,typeInfo,hi,SV.cut,SV.v,hc,this]
  simp only [execOp,ho,hF.eval hx,SV.v,Option.map_none,Sem.run_bind,Result.andThen_ok,Sem.run_pure] at e3 ⊢
  simp only [e3,Result.andThen_ok]
theorem fW {X:Type} [Enc X] {t e:Nat} {ie:TypeInfo} (lo:Nat) (hlo:lo ≤ w.heap.size) (hu:P.underlying t = some (.slice e)) (hie:P.info? e = some ie) (ho:o.op = .buildSlice t 0 #[])
    (next:∀ (s:SV) w',Added (rowL lo s e ([]:List X)) w w' → J s.v w'):Yd P o a.eval w J:=by
  have hA:Added (rowL lo ⟨some ⟨w.heap.size,0,none⟩,0,0⟩ e ([]:List X)) w (w.alloc (.cells #[] e (0,0))) :=
    ⟨Keeps.alloc w _,⟨by simp [hZ],.inr ⟨w.heap.size,0,#[],rfl,hlo,heap_alloc_new w _,Nat.le_refl _,by simp [maxLen],by simp,by simp [hZ]⟩⟩,fun k hk=>by simp [Res.fp,SV.v,Value.ownBlock] at hk; omega⟩
  have h:=next _ _ hA
  have hr:(Instr.buildSlice t 0 #[]).run P w = .ok (SV.v ⟨some ⟨w.heap.size,0,none⟩,0,0⟩) (w.alloc (.cells #[] e (0,0))):=by
    have e1:∀ w,(sizeOf e).run P w = .ok ie.size w:=fun w=>by simp [sizeOf,typeInfo,hie]
    simp only [Instr.buildSlice,Sem.run_bind,run_underlying hu,Result.andThen_ok,e1,Nat.zero_mul]
    have e0:Array.range 0 = #[]:=by simp
    simp [Instr.fill,newRow]
    rw [e0,Array.map_empty]
  unfold Yd
  simp only [execOp,ho,Sem.run_bind,List.map_toArray,List.map_nil,Array.map_empty,hr,Result.andThen_ok,Sem.run_pure]
  exact h
theorem wT {X:Type} [Enc X] {t dT e lo lo' i ty:Nat} {s sx:SV} {l xs:List X} {ti:TypeInfo} {x y:Operand} (ht:P.underlying dT = some (.slice e)) (hi:P.info? e = some ti) (hs1:ti.size = 1) (hX:Enc.sz X = 1)
    (hF:Fr n F a dd) (ho:o.op = .call { callee:=.builtin .copy,args:=#[x,y],argTypes:=#[dT,t] }) (hx:ev F x = some (s.cut i l.length 1).v) (hy:ev F y = some sx.v)
    (hown:Own lo w e s l) (hsx:SliceOf lo' w sx xs) (hfit:i + xs.length ≤ l.length)
    (next:∀ w',Upd (rowL lo s e l) (rowL lo s e (put l i xs)) w w' → J (.int .i64 (xs.length:Nat)) w'):Yd P o a.eval w J:=by
  have hsz:(P.info? e).map (·.size) = some 1:=by simp [hi,hs1]
  have fin:∀ w',(Builtin.copy_ #[dT,t] o.type #[(s.cut i l.length 1).v,sx.v]).run P w = .ok (goInt xs.length) w' → Upd (rowL lo s e l) (rowL lo s e (put l i xs)) w w' → Yd P o a.eval w J:=by
    intro w' hr hU
    have h:=next w' hU
    unfold Yd
    simp only [execOp,ho,resolve,invoke,builtin,Sem.run_bind,Sem.run_pure,Result.andThen_ok,List.map_toArray,List.map_cons,List.map_nil,hF.eval hx,hF.eval hy,hr]
    exact h
  have hln:=hsx.len
  by_cases hxs:xs = []
  · subst hxs
    have hput:put l i ([]:List X) = l:=by simp [put]
    refine fin w ?_ ?_
    · simp only [List.length_nil] at hln
      have:=run_copy_none (P:=P) w dT t o.type e (s.cut i l.length 1).a sx.a (s.cut i l.length 1).len (s.cut i l.length 1).cap sx.len sx.cap ht hsz (by rw [hln]; simp)
      simpa [SV.v] using this
    · rw [hput]
      exact ⟨Io.refl w,Nat.le_refl _,fun _ _ _=>rfl,hown,fun k hk=>.inl hk⟩
  · have hpos:0 < xs.length:=List.length_pos_iff.2 hxs
    obtain ⟨b,off,hb⟩:=hsx.addr hxs
    have hcx:=hsx.cells
    rw [hb] at hcx
    obtain ⟨_,_,hcx⟩:=hcx
    rcases hown.2 with ⟨h1,h2⟩ | ⟨g,cap,cur,h1,h3,h4,h5,h6,h7,h8⟩
    · omega
    · have hs:s = ⟨some ⟨g,0,none⟩,l.length,cap⟩:=by obtain ⟨a,b,c⟩:=s; cases h1; rfl
      have hcut:s.cut i l.length 1 = ⟨some ⟨g,i,none⟩,l.length - i,cap - i⟩:=by
        rw [hs]; simp only [SV.cut]; rw [if_neg (by omega)]; simp [eB]
      have hel:(encs xs).length = xs.length:=by rw [dW,hX,Nat.mul_one]
      rw [hX,Nat.mul_one] at h7 h8
      have hfit':i + (encs xs).length ≤ cur.size:=by rw [hel]; omega
      have hr:=run_copy_row (P:=P) w dT t o.type e g i (l.length - i) (cap - i) ⟨b,off,none⟩ xs.length sx.cap cur e (encs xs) ht hsz h4 (by rw [hel]; simp [Nat.min_def]; omega) (fun j v hv=>by rw [eB]; exact hcx j v hv) hfit' (gG xs)
      rw [hel] at hr
      refine fin _ (by rw [hcut,hb]; exact hr) ?_
      have hnew:∀ (cs':List Value),cs'.length = cur.size → cs'.take l.length = encs (put l i xs) → Own lo (w.setRow g cs'.toArray) e s (put l i xs):=by
        intro cs' hc1 hc2
        have hpl:(put l i xs).length = l.length:=by simp [put]; omega
        refine ⟨by rw [dW],.inr ⟨g,cap,cs'.toArray,by rw [hpl]; exact h1,h3,setRow_heap w g cur cs'.toArray e _ h4,by rw [hpl]; exact h5,h6,by simp [hc1,h7,hX],by rw [hpl,hX,Nat.mul_one]; simpa using hc2⟩⟩
      have hl1:(encs l).length = l.length:=by rw [dW,hX,Nat.mul_one]
      refine ⟨⟨rfl,rfl,rfl⟩,by simp [World.setRow],fun k _ hf=>setRow_other w g k _ fun e'=>hf (by subst e'; simp [Res.fp,h1,Value.ownBlock]),hnew _ (by simp; omega) ?_,fun k hk=>.inl hk⟩
      have e1:encs (put l i xs) = (encs l).take i ++ encs xs ++ (encs l).drop (i + xs.length):=by
        unfold put
        rw [eI,eI]
        congr 1
        · congr 1
          have e3:(encs (l.take i)).length = i:=by rw [dW,hX]; simp; omega
          have h':=eI (l.take i) (l.drop i)
          rw [List.take_append_drop] at h'
          rw [h']; exact (List.take_left' e3).symm
        · have e3:(encs (l.take (i + xs.length))).length = i + xs.length:=by rw [dW,hX]; simp; omega
          have h':=eI (l.take (i + xs.length)) (l.drop (i + xs.length))
          rw [List.take_append_drop] at h'
          rw [h']; exact (List.drop_left' e3).symm
      rw [e1,← h8]
      apply List.ext_getElem?
      intro j
      simp only [List.getElem?_take,List.getElem?_append,List.length_append,List.length_take,List.length_drop,List.getElem?_drop,hel,Array.length_toList]
      repeat' split
      all_goals first | rfl | omega | (congr 1; omega) | skip
theorem aDr {t d e lo:TypeId} {x:Operand} {s:SV} {l:List UInt8} {w1:World} {S:List Nat} {lo':Nat} (hs:SliceOf lo w1 s l) (hsm:Same lo' S w1 w) (hlo:lo' ≤ lo) (hS:∀ b ∈ S,b < lo) (ht:P.underlying t = some (.slice e)) (he:P.underlying e = some (.int .u8)) (hd:P.underlying d = some .string)
    (hF:Fr n F a dd) (ho:o.op = .convert t d x) (hx:ev F x = some s.v):(execOp a.eval o).run P w = .ok (.value (.string ⟨l.toArray⟩)) w:=by
  have h:=hs.now hsm hlo hS
  have hl:=h.len
  have hc:=h.cells
  obtain ⟨sa,sl,sc⟩:=s
  simp only at hl; subst hl
  have e:(convert t d (SV.v ⟨sa,l.length,sc⟩)).run P w = .ok (.string ⟨l.toArray⟩) w:=by
    cases sa with
    | none =>
      have hn:l = []:=hc.1
      subst hn
      rw [show SV.v ⟨none,([]:List UInt8).length,sc⟩ = .slice none 0 sc from rfl,run_convert_bytes_string w t d e none 0 sc ht he hd]
      simp [Conv.bytesToString]
      rfl
    | some ad =>
      obtain ⟨b,off,sp⟩:=ad
      obtain ⟨h1,h2,h3⟩:=hc
      refine run_convert_bytes_back (P:=P) w t d e ⟨b,off,sp⟩ sc l ht he hd fun j hj=>?_
      have h1:sp = none:=h1.resolve_left fun h=>by rw [h] at hj; exact absurd hj (Nat.not_lt_zero _)
      subst h1
      rw [eB]
      have:=h3 (j * Enc.sz UInt8) (.int .u8 (l[j].toNat:Int)) (qE (List.getElem?_eq_getElem hj) rfl)
      rwa [show j * Enc.sz UInt8 = j from Nat.mul_one j] at this
  simp only [execOp,ho,hF.eval hx,Sem.run_bind,e,Result.andThen_ok,Sem.run_pure]
theorem pE (l:List UInt8):(ByteArray.mk l.toArray).toList = l:=by simp
theorem uQ {t yt:TypeId} {x y:Operand} {i j:List UInt8} (hF:Fr n F a dd) (ho:o.op = .binOp .eql t x y yt) (hx:ev F x = some (.string ⟨i.toArray⟩)) (hy:ev F y = some (.string ⟨j.toArray⟩)) :
    (execOp a.eval o).run P w = .ok (.value (.bool (decide (i = j)))) w:=by
  rw [aJb hF ho hx hy,pE,pE]
  by_cases h:i = j <;> simp [h]
theorem vM {X:Type} [Enc X] {t e lo i d sz off:Nat} {x y:Operand} {s:SV} {l:List X} {v:Value} {vs:List Value} {p q:X} (hsz:∀ w,(sizeOf t).run P w = .ok sz w) (hown:Own lo w e s l) (hp:l[i]? = some p) (hF:Fr n F a dd) (ho:o.op = .store t x y)
    (hx:ev F x = some (.pointer (some ⟨s.blk,off,none⟩))) (hoff:off = s.off + (i * Enc.sz X + d)) (hy:ev F y = some v) (hv:v.cells = vs.toArray) (hl:vs.length = sz) (h1:∀ u ∈ vs,u.oneCell' = true) (hd:d + vs.length ≤ Enc.sz X) (hset:put (Enc.enc p) d vs = Enc.enc q)
    (next:∀ w',Upd (rowL lo s e l) (rowL lo s e (l.set i q)) w w' → J undef w'):Yd P o a.eval w J:=by
  have hi:i < l.length:=(List.getElem?_eq_some_iff.1 hp).1
  rcases hown.2 with ⟨h2,h3⟩ | ⟨g,cap,cur,h2,h3,h4,h5,h6,h7,h8⟩
  · omega
  · have hs:s = ⟨some ⟨g,0,none⟩,l.length,cap⟩:=by obtain ⟨a,b,c⟩:=s; cases h2; rfl
    have hb:s.blk = g:=by rw [hs]; rfl
    have ho0:s.off = 0:=by rw [hs]; rfl
    rw [hb,hoff,ho0,Nat.zero_add] at hx
    have hel:(encs l).length = l.length * Enc.sz X:=dW l
    have hle:i * Enc.sz X + d + vs.length ≤ l.length * Enc.sz X:=by
      have:(i + 1) * Enc.sz X ≤ l.length * Enc.sz X:=Nat.mul_le_mul_right _ hi
      rw [Nat.add_mul,Nat.one_mul] at this; omega
    have hcap:l.length * Enc.sz X ≤ cap * Enc.sz X:=Nat.mul_le_mul_right _ h5
    have hcur:cur = (cur.toList).toArray:=by simp
    rw [hcur] at h4
    refine aX (cs:=cur.toList) (cs':=put cur.toList (i * Enc.sz X + d) vs) hsz h4 hF ho hx hy hv hl h1 (by simp; omega) rfl fun w' hU=>next w' ?_
    have e1:cur.toList = encs l ++ cur.toList.drop (l.length * Enc.sz X):=by rw [← h8]; exact (List.take_append_drop _ _).symm
    have e2:put cur.toList (i * Enc.sz X + d) vs = encs (l.set i q) ++ cur.toList.drop (l.length * Enc.sz X):=by
      rw [e1,mW (n:=vs.length) (s':=encs (l.set i q)) (by omega) rfl (aEq hp hd hset)]
      congr 1
      have e3:((encs l ++ cur.toList.drop (l.length * Enc.sz X)).drop (l.length * Enc.sz X)) = cur.toList.drop (l.length * Enc.sz X):=List.drop_left' hel
      exact e3.symm
    have hown':Own lo w' e s (l.set i q):=by
      refine ⟨by rw [dW],.inr ⟨g,cap,(put cur.toList (i * Enc.sz X + d) vs).toArray,by rw [List.length_set]; exact h2,h3,hU.holds,by rw [List.length_set]; exact h5,h6,?_,?_⟩⟩
      · have:(put cur.toList (i * Enc.sz X + d) vs).length = cur.toList.length:=by simp [put]; omega
        simp [this,h7]
      · simp only [e2]
        exact List.take_left' (by rw [dW])
    exact ⟨hU.io,hU.size,fun k hk hf=>hU.block k hk fun e'=>hf (by simp only [Res.fp] at e' ⊢; subst e'; rw [hs]; rfl),hown',fun k hk=>.inl hk⟩
theorem eN {X:Type} [Enc X] {t e lo i d off:Nat} {x y:Operand} {s:SV} {l:List X} {v:Value} {p q:X} (hsz:∀ w,(sizeOf t).run P w = .ok 1 w) (hown:Own lo w e s l) (hp:l[i]? = some p) (hF:Fr n F a dd) (ho:o.op = .store t x y)
    (hx:ev F x = some (.pointer (some ⟨s.blk,off,none⟩))) (hoff:off = s.off + (i * Enc.sz X + d)) (hy:ev F y = some v) (h1:v.oneCell' = true) (hd:d < Enc.sz X) (hset:(Enc.enc p).set d v = Enc.enc q)
    (next:∀ w',Upd (rowL lo s e l) (rowL lo s e (l.set i q)) w w' → J undef w'):Yd P o a.eval w J:=by
  have hc:v.cells = #[v]:=by cases v <;> first | rfl | cases h1
  refine vM (vs:=[v]) (d:=d) hsz hown hp hF ho hx hoff hy hc rfl (by simpa using h1) (by simp; omega) ?_ next
  rw [← hset,List.set_eq_take_append_cons_drop,if_pos (by rw [Enc.len]; exact hd)]
  simp [put]
end
end Go.Fw
end
section
namespace Go.Fx
open Go Go.Fw
def loopN {σ γ:Type} (body:σ → Option (σ ⊕ γ)):Nat → σ → Option γ
  | 0,_=>none
  | n + 1,s=>match body s with
    | none=>none
    | some (.inl s')=>loopN body n s'
    | some (.inr g)=>some g
open Classical in
noncomputable def loop {σ γ:Type} (body:σ → Option (σ ⊕ γ)) (s:σ):Option γ :=
  if h:∃ g n,loopN body n s = some g then some h.choose else none
section
variable {σ γ τ X:Type}
theorem tZ {body:σ → Option (σ ⊕ γ)} {n:Nat}:∀ {m:Nat} {s:σ} {g:γ},loopN body n s = some g → n ≤ m → loopN body m s = some g:=by
  induction n with
  | zero=>intro m s g h; simp [loopN] at h
  | succ n ih =>
    intro m s g h hm
    obtain ⟨m,rfl⟩ : ∃ k,m = k + 1:=⟨m - 1,by omega⟩
    simp only [loopN] at h ⊢
    split at h
    · cases h
    · rename_i s' hb; exact ih h (by omega)
    · rename_i g' hb; exact h
theorem aDk {body:σ → Option (σ ⊕ γ)} {n m:Nat} {s:σ} {g g':γ} (h:loopN body n s = some g) (k:loopN body m s = some g'):g = g':=by
  have h1:=tZ h (Nat.le_max_left n m)
  have h2:=tZ k (Nat.le_max_right n m)
  exact Option.some.inj (h1.symm.trans h2)
theorem qK {body:σ → Option (σ ⊕ γ)} {s:σ} {g:γ}:loop body s = some g ↔ ∃ n,loopN body n s = some g:=by
  unfold loop
  split
  · rename_i h
    obtain ⟨n,hn⟩:=h.choose_spec
    constructor
    · intro e; cases e; exact ⟨n,hn⟩
    · rintro ⟨m,hm⟩; rw [aDk hn hm]
  · rename_i h
    constructor
    · intro e; cases e
    · rintro ⟨m,hm⟩; exact absurd ⟨g,m,hm⟩ h
theorem loop_eq (body:σ → Option (σ ⊕ γ)) (s:σ):loop body s = match body s with
    | none=>none
    | some (.inl s')=>loop body s'
    | some (.inr g)=>some g:=by
  have key:∀ g,loop body s = some g ↔ (match body s with
    | none=>none
    | some (.inl s')=>loop body s'
    | some (.inr g)=>some g) = some g:=by
    intro g
    rw [qK]
    constructor
    · rintro ⟨n,hn⟩
      cases n with
      | zero=>cases hn
      | succ n =>
        simp only [loopN] at hn
        split at hn
        · cases hn
        · exact qK.2 ⟨n,hn⟩
        · exact hn
    · intro h
      split at h
      · cases h
      · rename_i s' hb
        obtain ⟨n,hn⟩:=qK.1 h
        exact ⟨n + 1,by simp only [loopN,hb]; exact hn⟩
      · rename_i g' hb
        exact ⟨1,by simp only [loopN,hb]; exact h⟩
  cases h:loop body s with
  | none =>
    cases h2:(match body s with
    | none=>none
    | some (.inl s')=>loop body s'
    | some (.inr g)=>some g) with
    | none=>rfl
    | some g=>have:=(key g).2 h2; rw [h] at this; cases this
  | some g=>exact ((key g).1 h).symm
def fin (k:τ → Option γ):τ ⊕ γ → Option γ
  | .inl x=>k x
  | .inr g=>some g
def seq (t:Option (τ ⊕ γ)) (k:τ → Option γ):Option γ:=match t with
  | none=>none
  | some o=>fin k o
theorem dH {t:Option (τ ⊕ γ)} {k:τ → Option γ} {r:γ} (h:seq t k = some r):∃ o,t = some o ∧ fin k o = some r:=by
  cases t with
  | none=>cases h
  | some o=>exact ⟨o,rfl,h⟩
theorem dE {k:τ → Option γ} {g r:γ} (h:fin k (.inr g) = some r):g = r:=Option.some.inj h
theorem cT {c:Bool} {A B r:Option γ} (hc:c = true) (h:(bif c then A else B) = r):A = r:=by rw [hc] at h; exact h
theorem cF {c:Bool} {A B r:Option γ} (hc:c = false) (h:(bif c then A else B) = r):B = r:=by rw [hc] at h; exact h
theorem bind_some {t:Option τ} {k:τ → Option γ} {r:γ} (h:t.bind k = some r):∃ x,t = some x ∧ k x = some r:=Option.bind_eq_some_iff.1 h
def must (p:Bool) (k:Option γ):Option γ:=bif p then k else none
theorem cH {p:Bool} {k:Option γ} {r:γ} (h:must p k = some r):p = true ∧ k = some r:=by
  cases p
  · cases h
  · exact ⟨rfl,h⟩
def get (l:List X) (i:Int):Option X:=if 0 ≤ i then l[i.toNat]? else none
theorem aM {l:List X} {i:Int} {x:X} (h:get l i = some x):0 ≤ i ∧ l[i.toNat]? = some x:=by
  unfold get at h
  split at h
  · exact ⟨by assumption,h⟩
  · cases h
theorem bH {l:List X} {i:Int} {x:X} (h:get l i = some x):0 ≤ i ∧ i < (l.length:Int):=by
  obtain ⟨h1,h2⟩:=aM h
  have:=(List.getElem?_eq_some_iff.1 h2).1
  omega
theorem cU {n:Nat} {v:Vec X n} {i:Int} {x:X} (h:get v.l i = some x):0 ≤ i ∧ i < (n:Int):=by
  have:=bH h; rw [v.len] at this; exact this
def slc (l:List X) (i j:Int):Option (List X):=if 0 ≤ i ∧ i ≤ j ∧ j ≤ (l.length:Int) then some ((l.drop i.toNat).take (j.toNat - i.toNat)) else none
theorem nY {l m:List X} {i j:Int} (h:slc l i j = some m):(0 ≤ i ∧ i ≤ j ∧ j ≤ (l.length:Int)) ∧ m = (l.drop i.toNat).take (j.toNat - i.toNat):=by
  unfold slc at h
  split at h
  · cases h; exact ⟨by assumption,rfl⟩
  · cases h
def app (bytes:Nat) (l m:List X):Option (List X):=if (l.length + m.length) * bytes ≤ 140737488355328 ∧ l.length + m.length ≤ 4611686018427387904 then some (l ++ m) else none
theorem dM {bytes:Nat} {l m r:List X} (h:app bytes l m = some r):((l.length + m.length) * bytes ≤ 140737488355328 ∧ l.length + m.length ≤ 4611686018427387904) ∧ r = l ++ m:=by
  unfold app at h
  split at h
  · cases h; exact ⟨by assumption,rfl⟩
  · cases h
end
def LIn {X:Type} [Enc X] (B:World → Prop) (s:SV) (l:List X):Prop:=∀ w,B w → SliceOf 0 w s l
theorem LIn.nil {X:Type} [Enc X] {B:World → Prop}:LIn B SV.nil ([]:List X):=fun w _=>SliceOf.nil 0 w
theorem LIn.mono {X:Type} [Enc X] {B B':World → Prop} {s:SV} {l:List X} (h:LIn B s l) (k:∀ w,B' w → B w):LIn B' s l:=fun w hM=>h w (k w hM)
theorem LIn.slc {X:Type} [Enc X] {B:World → Prop} {s:SV} {l m:List X} {i j:Int} {sz:Nat} (h:LIn B s l) (hc:Fx.slc l i j = some m) (hsz:Enc.sz X = sz):LIn B (s.cut i.toNat j.toNat sz) m:=by
  subst hsz
  obtain ⟨h1,rfl⟩:=nY hc
  exact fun w hM=>(h w hM).cut (by omega) (by omega)
theorem dL {X:Type} [Enc X] {w:World} {s:SV} {e:Nat} {l:List X} (h:(rowL 0 s e l).holds' w):SliceOf 0 w s l:=Own.slice h
theorem Each.getr {A B:Type} {R:A → B → Prop} {hs:List A} {l:List B} (h:Each R hs l) {i:Nat} {y:B} (hy:l[i]? = some y):∃ x,hs[i]? = some x ∧ R x y:=by
  have hi:i < hs.length:=by rw [h.len]; exact (List.getElem?_eq_some_iff.1 hy).1
  exact ⟨_,List.getElem?_eq_getElem hi,h.at_ i _ _ (List.getElem?_eq_getElem hi) hy⟩
theorem Each.bd {A B:Type} {R:A → B → Prop} {hs:List A} {l:List B} {i:Int} (h:Each R hs l) (k:0 ≤ i ∧ i < (l.length:Int)):0 ≤ i ∧ i < (hs.length:Int):=by rw [h.len]; exact k
theorem Each.slc {A B:Type} {R:A → B → Prop} {hs:List A} {l m:List B} {i j:Int} (h:Each R hs l) (hc:Fx.slc l i j = some m):∃ hm,Fx.slc hs i j = some hm ∧ Each R hm m:=by
  obtain ⟨h1,rfl⟩:=nY hc
  refine ⟨(hs.drop i.toNat).take (j.toNat - i.toNat),?_,?_⟩
  · unfold Fx.slc; rw [if_pos]; rw [h.len]; exact h1
  · refine ⟨by simp [h.len],fun a x y hx hy=>?_⟩
    rw [List.getElem?_take] at hx hy
    split at hx
    · rename_i ha
      rw [if_pos ha] at hy
      rw [List.getElem?_drop] at hx hy
      exact h.at_ _ x y hx hy
    · cases hx
section
variable {w w':World} {L:List Res}
theorem dropM (h:MemL w L):∀ (n:Nat),MemL w (L.drop n):=by
  intro n
  induction n generalizing L with
  | zero=>exact h
  | succ n ih =>
    cases L with
    | nil=>exact h
    | cons r L=>exact ih h.tail
def selT (L:List Res) (is:List Nat) (n:Nat):List Res:=sel L is ++ L.drop n
def allLt (n:Nat):List Nat → Bool
  | []=>true
  | i :: is=>Nat.blt i n && allLt n is
theorem vU {n:Nat} {is:List Nat} (h:allLt n is = true):∀ i ∈ is,i < n:=by
  induction is with
  | nil=>simp
  | cons j is ih =>
    simp only [allLt,Bool.and_eq_true] at h
    intro i hi
    rcases List.mem_cons.1 hi with rfl | hi
    · exact Nat.le_of_ble_eq_true h.1
    · exact ih h.2 i hi
theorem selM (h:MemL w L) (is:List Nat) (n:Nat) (hn:(nodupN is && allLt n is) = true):MemL w (selT L is n):=by
  simp only [Bool.and_eq_true] at hn
  have h1:=h.sel is hn.1
  have h2:=dropM h n
  constructor
  · intro i r hi
    unfold selT at hi
    by_cases hl:i < (sel L is).length
    · rw [List.getElem?_append_left hl] at hi; exact h1.hold i r hi
    · rw [List.getElem?_append_right (by omega)] at hi; exact h2.hold _ r hi
  · intro i j r s hi hj hij k hr hs
    unfold selT at hi hj
    by_cases hl:i < (sel L is).length
    · rw [List.getElem?_append_left hl] at hi
      by_cases hl':j < (sel L is).length
      · rw [List.getElem?_append_left hl'] at hj; exact h1.apart i j r s hi hj hij k hr hs
      · rw [List.getElem?_append_right (by omega),List.getElem?_drop] at hj
        obtain ⟨a,ha,ea⟩:=qW L is i r hi
        have:=vU hn.2 a ha
        exact h.apart a _ r s ea hj (by omega) k hr hs
    · rw [List.getElem?_append_right (by omega),List.getElem?_drop] at hi
      by_cases hl':j < (sel L is).length
      · rw [List.getElem?_append_left hl'] at hj
        obtain ⟨a,ha,ea⟩:=qW L is j s hj
        have:=vU hn.2 a ha
        exact h.apart _ a r s hi ea (by omega) k hr hs
      · rw [List.getElem?_append_right (by omega),List.getElem?_drop] at hj
        exact h.apart _ _ r s hi hj (by omega) k hr hs
end
theorem joinM {w:World} {L:List Res} {r s:Res} (h:MemL w (r :: s :: L)):∃ q:Res,(∀ w,q.holds' w → r.holds' w) ∧ (∀ w,q.holds' w → s.holds' w) ∧ MemL w (q :: L) :=
  ⟨_,fun w h=>(h.2 w (Io.refl w) (Nat.le_refl _) fun _ _=>rfl).1,fun w h=>(h.2 w (Io.refl w) (Nat.le_refl _) fun _ _=>rfl).2,h.both⟩
theorem voidM {w:World} {L:List Res} (h:MemL w L):∃ q:Res,MemL w (q :: L):=⟨_,h.void (Q:=fun _=>True) fun _=>trivial⟩
theorem aFt {l y y' l' vs:List Value} {o c d:Nat} (hc:Fw.cut l o c = y) (hp:put y d vs = y') (hl:put l o y' = l') (h1:o + c ≤ l.length) (h2:d + vs.length ≤ c):put l (o + d) vs = l':=by
  subst hc hp hl
  have e:(put (Fw.cut l o c) d vs).length = c:=by unfold put Fw.cut; simp; omega
  unfold put at *
  rw [e]
  unfold Fw.cut
  apply List.ext_getElem?
  intro j
  simp only [List.getElem?_append,List.getElem?_take,List.getElem?_drop,List.length_append,List.length_take,List.length_drop]
  repeat' split
  all_goals first | rfl | omega | (congr 1; omega) | skip
theorem lD {l y y' l':List Value} {v:Value} {o c d:Nat} (hc:Fw.cut l o c = y) (hp:y.set d v = y') (hl:put l o y' = l') (h1:o + c ≤ l.length) (h2:d < c):l.set (o + d) v = l':=by
  have hy:y.length = c:=by subst hc; unfold Fw.cut; simp; omega
  rw [List.set_eq_take_append_cons_drop,if_pos (by omega)]
  have:=aFt (vs:=[v]) (d:=d) hc (y':=y') (by rw [← hp,List.set_eq_take_append_cons_drop,if_pos (by omega)]; simp [put]) hl h1 (by simp; omega)
  rw [← this]; simp [put]
section
variable {P:Program} {n:Nat} {F:List (Nat × Value)} {a:Act} {dd:List Deferred} {w:World} {o:Oper} {J:Value → World → Prop}
theorem iG {t d e lo:TypeId} {x:Operand} {s:SV} {l:List UInt8} (hs:SliceOf lo w s l) (ht:P.underlying t = some (.slice e)) (he:P.underlying e = some (.int .u8)) (hd:P.underlying d = some .string)
    (hF:Fr n F a dd) (ho:o.op = .convert t d x) (hx:ev F x = some s.v):(execOp a.eval o).run P w = .ok (.value (.string ⟨l.toArray⟩)) w :=
  aDr hs (S:=[]) (lo':=0) ⟨Nat.le_refl _,fun _ _ _ _=>rfl⟩ (Nat.zero_le _) (by simp) ht he hd hF ho hx
theorem cQ {X Y:Type} [Enc X] {t e lo:TypeId} {x:Operand} {s:SV} {l:List X} {m:List Y} {w1:World} (hs:SliceOf lo w1 s l) (hl:l.length = m.length) (ht:P.underlying t = some (.slice e)) (hF:Fr n F a dd) (ho:o.op = .call { callee:=.builtin .len,args:=#[x],argTypes:=#[t] }) (hx:ev F x = some s.v) :
    (execOp a.eval o).run P w = .ok (.value (.int .i64 (m.length:Int))) w:=by rw [bQ hs ht hF ho hx,hl]
theorem uO {t yt:TypeId} {x y:Operand} {i j:Int} (hF:Fr n F a dd) (ho:o.op = .binOp .add t x y yt) (hx:ev F x = some (.int .u8 i)) (hy:ev F y = some (.int .u8 j)) :
    (execOp a.eval o).run P w = .ok (.value (.int .u8 ((Fw.byteOf (i + j)).toNat:Int))) w:=by rw [bW hF ho hx hy,wrap_u8]
theorem aF2 {t yt:TypeId} {x y:Operand} {i j:Int} (hF:Fr n F a dd) (ho:o.op = .binOp .xor t x y yt) (hx:ev F x = some (.int .u8 i)) (hy:ev F y = some (.int .u8 j)) :
    (execOp a.eval o).run P w = .ok (.value (.int .u8 ((Fw.byteOf (((BitVec.ofInt 8 i ^^^ BitVec.ofInt 8 j).toNat:Int))).toNat:Int))) w:=by
  rw [aKn hF ho hx hy]; unfold bxor; rw [wrap_u8]; rfl
theorem eL {X:Type} [Enc X] {t e:TypeId} {x:Operand} {ol oh:Option Operand} {s:SV} {i j:Int} {lo sz:Nat} {l m:List X} {w1:World} {ti:TypeInfo} (hs:SliceOf lo w1 s l) (hc:Fx.slc l i j = some m) (ht:P.underlying t = some (.slice e)) (hi:P.info? e = some ti) (hsz:ti.size = sz) (hF:Fr n F a dd) (ho:o.op = .slice t x ol oh none)
    (hx:ev F x = some s.v) (hl:(ol = none ∧ i = 0) ∨ ∃ y k,ol = some y ∧ ev F y = some (.int k i)) (hh:(oh = none ∧ j = (l.length:Int)) ∨ ∃ y k,oh = some y ∧ ev F y = some (.int k j)) :
    (execOp a.eval o).run P w = .ok (.value (s.cut i.toNat j.toNat sz).v) w:=by
  obtain ⟨h1,_⟩:=nY hc
  refine aKe hs ht hi hsz hF ho hx ?_ ?_ (by omega)
  · rcases hl with ⟨rfl,rfl⟩ | ⟨y,k,rfl,hy⟩
    · exact .inl ⟨rfl,rfl⟩
    · exact .inr ⟨y,k,i,rfl,hy,by omega⟩
  · rcases hh with ⟨rfl,rfl⟩ | ⟨y,k,rfl,hy⟩
    · exact .inl ⟨rfl,by omega⟩
    · exact .inr ⟨y,k,j,rfl,hy,by omega⟩
theorem dC {X:Type} [Enc X] {x y:Operand} {t e lo' bytes:Nat} {s sx:SV} {xs l r:List X} {i:TypeInfo} {z:Value} (hr:Fx.app bytes xs l = some r) (ht:P.underlying t = some (.slice e)) (hi:P.info? e = some i) (hz:i.zero = some z)
    (hsize:i.size = Enc.sz X) (hby:i.bytes = bytes) (hzs:z.cells.size = Enc.sz X)
    (hF:Fr n F a dd) (ho:o.op = .call { callee:=.builtin .append,args:=#[x,y],argTypes:=#[t,t] }) (hx:ev F x = some s.v) (hy:ev F y = some sx.v)
    (hown:Own 0 w e s xs) (hsx:SliceOf lo' w sx l)
    (next:∀ (s':SV) w',Upd (rowL 0 s e xs) (rowL 0 s' e r) w w' → J s'.v w'):Yd P o a.eval w J:=by
  obtain ⟨hb,rfl⟩:=dM hr
  exact wS ht hi hz hsize hby hzs hF ho hx hy hown hsx hb (Nat.zero_le _) fun s' w' hU _=>next s' w' hU
theorem fC {X Y:Type} [Enc X] {x y:Operand} {t e lo' bytes:Nat} {s sx:SV} {xs l:List X} {ys m r:List Y} {i:TypeInfo} {z:Value} (hr:Fx.app bytes ys m = some r) (h1:xs.length = ys.length) (h2:l.length = m.length) (ht:P.underlying t = some (.slice e)) (hi:P.info? e = some i) (hz:i.zero = some z)
    (hsize:i.size = Enc.sz X) (hby:i.bytes = bytes) (hzs:z.cells.size = Enc.sz X)
    (hF:Fr n F a dd) (ho:o.op = .call { callee:=.builtin .append,args:=#[x,y],argTypes:=#[t,t] }) (hx:ev F x = some s.v) (hy:ev F y = some sx.v)
    (hown:Own 0 w e s xs) (hsx:SliceOf lo' w sx l)
    (next:∀ (s':SV) w',Upd (rowL 0 s e xs) (rowL 0 s' e (xs ++ l)) w w' → J s'.v w'):Yd P o a.eval w J:=by
  obtain ⟨hb,rfl⟩:=dM hr
  rw [← h1,← h2] at hb
  exact wS ht hi hz hsize hby hzs hF ho hx hy hown hsx hb (Nat.zero_le _) fun s' w' hU _=>next s' w' hU
end
section
variable {rr:Option Nat} {P:Program} {Q:Exit → Act → World → Prop} {a:Act} {dd:List Deferred} {w:World} {n:Nat} {F:List (Nat × Value)} {L:List Res} {σ γ τ:Type}
theorem aV {c:Code} {t:Option (τ ⊕ γ)} {k:τ → Option γ} {r:γ} (hF:Fr n F a dd) (hM:MemL w L) (hP:seq t k = some r) (I:List (Nat × Value) → τ → Act → World → Prop)
    (h1:∀ o,t = some o → fin k o = some r → Fr n F a dd → MemL w L → Wp rr P c (Exit.then (fun a w=>∃ x,o = .inl x ∧ I F x a w) Q) a w)
    (h2:∀ x a w,k x = some r → I F x a w → Q .normal a w):Wp rr P c Q a w:=by
  obtain ⟨o,ho,hk⟩:=dH hP
  refine aEd (h1 o ho hk hF hM) ?_
  rintro a w ⟨x,rfl,hI⟩
  exact h2 x a w hk hI
theorem bU {c:Code} {body:σ → Option (σ ⊕ γ)} {s0:σ} {o:γ} (hF:Fr n F a dd) (hM:MemL w L) (hP:loop body s0 = some o) (I:List (Nat × Value) → σ → Act → World → Prop)
    (h0:Fr n F a dd → MemL w L → I F s0 a w)
    (h1:∀ s a w o',body s = some o' → (∀ g,o' = .inr g → g = o) → I F s a w → Wp rr P c (Exit.then (fun a w=>∃ s',o' = .inl s' ∧ I F s' a w) Q) a w):Wp rr P (.loop c) Q a w:=by
  obtain ⟨m,hm⟩:=qK.1 hP
  refine aAu (fun (m:Nat) a w=>∃ s,loopN body m s = some o ∧ I F s a w) id m ⟨s0,hm,h0 hF hM⟩ ?_
  rintro m a w ⟨s,hs,hI⟩
  cases m with
  | zero=>cases hs
  | succ m =>
    cases hb:body s with
    | none=>simp [loopN,hb] at hs
    | some o' =>
      have h2:=h1 s a w o' hb (fun g hg=>by subst hg; simp only [loopN,hb] at hs; exact Option.some.inj hs) hI
      refine wpIn_mono h2 fun e a' w' q=>?_
      cases e <;> first
        | (obtain ⟨s', rfl, hI'⟩ := q
           exact ⟨m,⟨s',by simpa only [loopN,hb] using hs,hI'⟩,Nat.lt_succ_self m⟩)
        | exact q
theorem bM {i:Nat} {l:List Oper} (hm:P.follows .mixedOrders = true) (hc:Fw.chk l.toArray = true) (hM:MemL w L) (is:List Nat) (k:Nat) (hn:(nodupN is && allLt k is) = true) (h:Fw.chk l.toArray = true → DW rr P l.toArray Q [] (MemL · (selT L is k)) (MemL · L) a):Wp rr P (.region i l.toArray true) Q a w :=
  wZ hm (selM hM.drew is k hn) hM.drew (h hc)
end
end Go.Fx
end
section
namespace Go.Ev
open Go.Fw
inductive AV where
  | b (x:Bool)
  | i (k:IntKind) (n:Int)
  | s (l:List UInt8)
  | np | nsl | nf | nm | und
  | p (n off:Nat)
  | sl (n off len cap:Nat)
  | row (n:Nat) (cuts:List (Nat × Nat × Nat))
  | mp (n:Nat)
  | f (g:Nat) (fs cs:List AV)
  | y (n:Nat)
  | agg (n:Nat) (l:List AV)
  | tup (l:List AV)
deriving Inhabited
inductive Tr (α:Type) where
  | e
  | n (v:Option α) (l r:Tr α)
deriving Inhabited
def Tr.path {α:Type}:Nat → Nat → α → Tr α
  | 0,_,_=>.e
  | d + 1,k,x=>bif Nat.beq k 0 then .n (some x) .e .e else bif Nat.beq (k % 2) 1 then .n none (Tr.path d (k / 2) x) .e else .n none .e (Tr.path d (k / 2 - 1) x)
noncomputable def Tr.get {α:Type} (t:Tr α):Nat → Option α :=
  Tr.rec (motive:=fun _=>Nat → Option α) (fun _=>none) (fun v _ _ gl gr k=>bif Nat.beq k 0 then v else bif Nat.beq (k % 2) 1 then gl (k / 2) else gr (k / 2 - 1)) t
noncomputable def Tr.set {α:Type} (t:Tr α) (k:Nat) (x:α):Tr α :=
  Tr.rec (motive:=fun _=>Nat → Tr α) (fun k=>Tr.path 20 k x) (fun v l r sl sr k=>bif Nat.beq k 0 then .n (some x) l r else bif Nat.beq (k % 2) 1 then .n v (sl (k / 2)) r else .n v l (sr (k / 2 - 1))) t k
mutual
def ren (f:Nat → Nat):AV → AV
  | .p n off=>.p (f n) off
  | .sl n off len cap=>.sl (f n) off len cap
  | .row n cuts=>.row (f n) cuts
  | .mp n=>.mp (f n)
  | .y n=>.y (f n)
  | .f g a c=>.f g (rens f a) (rens f c)
  | .agg n l=>.agg n (rens f l)
  | .tup l=>.tup (rens f l)
  | v=>v
def rens (f:Nat → Nat):List AV → List AV
  | []=>[]
  | v :: r=>ren f v :: rens f r
end
mutual
def eqV:AV → AV → Bool
  | .b x,.b y=>x == y
  | .i k x,.i k' y=>decide (k = k') && decide (x = y)
  | .s x,.s y=>decide (x = y)
  | .np,.np=>true
  | .nsl,.nsl=>true
  | .nf,.nf=>true
  | .nm,.nm=>true
  | .und,.und=>true
  | .p n o,.p n' o'=>Nat.beq n n' && Nat.beq o o'
  | .sl n o l c,.sl n' o' l' c'=>Nat.beq n n' && Nat.beq o o' && Nat.beq l l' && Nat.beq c c'
  | .row n c,.row n' c'=>Nat.beq n n' && decide (c = c')
  | .mp n,.mp n'=>Nat.beq n n'
  | .y n,.y n'=>Nat.beq n n'
  | .f g a c,.f g' a' c'=>Nat.beq g g' && eqVs a a' && eqVs c c'
  | .agg n l,.agg n' l'=>Nat.beq n n' && eqVs l l'
  | .tup l,.tup l'=>eqVs l l'
  | _,_=>false
def eqVs:List AV → List AV → Bool
  | [],[]=>true
  | x :: l,y :: m=>eqV x y && eqVs l m
  | _,_=>false
end
noncomputable def getR {α:Type} (l:List α):Nat → Option α :=
  List.rec (motive:=fun _=>Nat → Option α) (fun _=>none) (fun x _ ih k=>bif Nat.beq k 0 then some x else ih (k - 1)) l
noncomputable def dropR {α:Type} (l:List α):Nat → List α :=
  List.rec (motive:=fun _=>Nat → List α) (fun _=>[]) (fun x xs ih k=>bif Nat.beq k 0 then x :: xs else ih (k - 1)) l
noncomputable def takeR {α:Type} (l:List α):Nat → List α :=
  List.rec (motive:=fun _=>Nat → List α) (fun _=>[]) (fun x _ ih k=>bif Nat.beq k 0 then [] else x :: ih (k - 1)) l
noncomputable def appR {α:Type} (l m:List α):List α :=
  List.rec (motive:=fun _=>List α) m (fun x _ ih=>x :: ih) l
noncomputable def lenR {α:Type} (l:List α):Nat :=
  List.rec (motive:=fun _=>Nat) 0 (fun _ _ ih=>ih + 1) l
noncomputable def overR {α:Type} (vs:List α):List α → List α :=
  List.rec (motive:=fun _=>List α → List α) (fun l=>l) (fun v _ ih l=>v :: ih l.tail) vs
noncomputable def putR {α:Type} (l:List α) (k:Nat) (vs:List α):List α :=
  List.rec (motive:=fun _=>Nat → List α) (fun _=>vs) (fun x xs ih k=>bif Nat.beq k 0 then overR vs (x :: xs) else x :: ih (k - 1)) l k
inductive AObj where
  | pt (n:Nat) (l:List AV) (T:Nat)
  | fz (n:Nat) (l:List AV) (T:Nat)
  | row (e sz m:Nat) (l:List AV)
  | map (es:List (AV × AV × Nat)) (clock:Nat)
  | loop (st:LoopState) (pend:Option (Option Nat))
  | defd (taken:Bool)
  | dead
deriving Inhabited
abbrev Fm:=Tr AV
structure LInfo where
  fn:Nat
  n:Nat
  tm:Fm
  ps:List Nat
  asg:Code
  body:Code
  d:Nat
abbrev Env:=List (Nat × LInfo)
def envGet:Env → Nat → Option LInfo
  | [],_=>none
  | (m,i) :: r,n=>bif Nat.beq m n then some i else envGet r n
abbrev Heap:=Tr AObj
structure St where
  h:Heap
  nx:Nat
  marks:List Nat:=[]
  wr:List Nat:=[]
deriving Inhabited
noncomputable def find (h:Heap) (n:Nat):Option AObj:=h.get n
noncomputable def upd (h:Heap) (n:Nat) (o:AObj):Heap:=h.set n o
def forceN {β:Type} (n:Nat) (k:Nat → β):β:=match n with
  | 0=>k 0
  | m + 1=>k (m + 1)
def forceI {β:Type} (n:Int) (k:Int → β):β:=match n with
  | .ofNat m=>forceN m fun m=>k (.ofNat m)
  | .negSucc m=>forceN m fun m=>k (.negSucc m)
def force {β:Type} (v:AV) (k:AV → β):β:=match v with
  | .i q n=>forceI n fun n=>k (.i q n)
  | .b true=>k (.b true)
  | .b false=>k (.b false)
  | .p n off=>forceN n fun n=>forceN off fun off=>k (.p n off)
  | v=>k v
structure Tab where
  small:Nat → Bool
  und:Nat → Option TypeDesc
  sz:Nat → Option Nat
  zero:Nat → Option AV
  plain:Nat → Bool
  fn:Nat → Option (Nat × List ResultVar × Code)
def isAggD:TypeDesc → Bool
  | .struct _ | .array _ _=>true
  | _=>false
def ofL:Value → Option AV
  | .bool b=>some (.b b)
  | .int k n=>some (.i k n)
  | .string s=>some (.s s.data.toList)
  | .pointer none=>some .np
  | .slice none 0 0=>some .nsl
  | .map none=>some .nm
  | .nilFunc=>some .nf
  | _=>none
noncomputable def ofV:Value → Option AV
  | .agg cs=>(cs.toList.mapM ofL).map fun l=>.agg (lenR l) l
  | v=>ofL v
noncomputable def aget (F:Fm):Operand → Option AV
  | .tmp t=>F.get t
  | .const v=>ofV v
  | .func g=>some (.f g [] [])
  | .global _=>none
def cellsOf:AV → List AV
  | .agg _ l=>l
  | v=>[v]
def lenOf:AV → Nat
  | .agg n _=>n
  | _=>1
def oneA:AV → Bool
  | .agg _ _=>false
  | .tup _=>false
  | .und=>false
  | _=>true
def isCell:AV → Bool
  | .agg _ _=>true
  | v=>oneA v
noncomputable def putA (n:Nat) (l:List AV) (off m:Nat) (vs:List AV):Option (List AV) :=
  bif Nat.beq off 0 && Nat.beq n m then some vs else bif Nat.ble (off + m) n then some (putR l off vs) else none
noncomputable def part (T:Tab) (t n:Nat) (cs:List AV) (off:Nat):Option AV:=do
  let d ← T.und t
  if isAggD d then
    let m ← T.sz t
    bif Nat.beq off 0 && Nat.beq m n then some (.agg n cs) else
    bif Nat.ble (off + m) n then some (.agg m (takeR (dropR cs off) m)) else none
  else getR cs off
def intBin:BinOp → IntKind → Int → Int → Option AV
  | .add,k,x,y=>some (.i k (k.wrap (x + y)))
  | .sub,k,x,y=>some (.i k (k.wrap (x - y)))
  | .mul,k,x,y=>some (.i k (k.wrap (x * y)))
  | .quo,k,x,y=>if y = 0 then none else some (.i k (k.wrap (x.tdiv y)))
  | .rem,k,x,y=>if y = 0 then none else some (.i k (x.tmod y))
  | .and,k,x,y=>some (.i k (band k x y))
  | .or,k,x,y=>some (.i k (bor k x y))
  | .xor,k,x,y=>some (.i k (bxor k x y))
  | .andNot,k,x,y=>some (.i k (bandn k x y))
  | .eql,_,x,y=>some (.b (decide (x = y)))
  | .neq,_,x,y=>some (.b (!decide (x = y)))
  | .lss,_,x,y=>some (.b (decide (x < y)))
  | .leq,_,x,y=>some (.b (decide (x ≤ y)))
  | .gtr,_,x,y=>some (.b (decide (y < x)))
  | .geq,_,x,y=>some (.b (decide (y ≤ x)))
  | _,_,_,_=>none
noncomputable def allO {β:Type} (f:β → Option Bool):List β → Option Bool
  | []=>some true
  | i :: is=>do if ← f i then allO f is else some false
noncomputable def allZ (f:List AV → List AV → Option Bool) (z:Nat):Nat → List AV → List AV → Option Bool
  | 0,_,_=>some true
  | n + 1,xs,ys=>do if ← f (takeR xs z) (takeR ys z) then allZ f z n (dropR xs z) (dropR ys z) else some false
noncomputable def aeq (T:Tab):Nat → Nat → AV → AV → Option Bool
  | 0,_,_,_=>none
  | d + 1,t,x,y=>do
    match ← T.und t,x,y with
    | .bool,.b x,.b y=>some (decide (x = y))
    | .int _,.i k x,.i k' y=>if k = k' then some (decide (x = y)) else none
    | .struct fs,.agg n xs,.agg m ys=>if !T.plain t then none else allO (fun f=>do
        if f.name == "_" then none else
        aeq T d f.type (← part T f.type n xs f.offset) (← part T f.type m ys f.offset)) fs.toList
    | .array k e,.agg n xs,.agg m ys=>do
        let z ← T.sz e
        bif Nat.beq n (k * z) && Nat.beq m (k * z) then
          if isAggD (← T.und e) then allZ (fun a b=>aeq T d e (.agg z a) (.agg z b)) z k xs ys
          else allO (fun i=>do aeq T d e (← getR xs (i * z)) (← getR ys (i * z))) (List.range k)
        else none
    | _,_,_=>none
noncomputable def abin (T:Tab) (g:Nat → Option AObj) (op:BinOp) (t:Nat):AV → AV → Option AV
  | .i k x,.i k' y =>
    match op with
    | .shl=>if y < 0 then none else some (.i k (shl k x y.toNat))
    | .shr=>if y < 0 then none else some (.i k (shr k x y.toNat))
    | _=>if k = k' then intBin op k x y else none
  | .s x,.s y=>match op with
    | .eql=>some (.b (decide (x = y)))
    | .neq=>some (.b (!decide (x = y)))
    | _=>none
  | .b x,.b y=>do match op,← T.und t with
    | .eql,.bool=>some (.b (decide (x = y)))
    | .neq,.bool=>some (.b (!decide (x = y)))
    | _,_=>none
  | .agg n x,.agg m y=>match op with
    | .eql=>if !T.plain t then none else do some (.b (← aeq T 20 t (.agg n x) (.agg m y)))
    | .neq=>if !T.plain t then none else do some (.b (!(← aeq T 20 t (.agg n x) (.agg m y))))
    | _=>none
  | .nsl,.nsl=>do match op,← T.und t with
    | .eql,.slice _=>some (.b true)
    | _,_=>none
  | .sl ..,.nsl=>do match op,← T.und t with
    | .eql,.slice _=>some (.b false)
    | _,_=>none
  | .row n _,.nsl=>do match op,← T.und t,g n with
    | .eql,.slice _,some (.row _ _ m _)=>if m = 0 then none else some (.b false)
    | _,_,_=>none
  | _,_=>none
def asNat:AV → Option Nat
  | .i _ n=>if 0 ≤ n then some n.toNat else none
  | _=>none
abbrev Look:=Nat → Option AObj
def startOf:List (Nat × Nat × Nat) → Nat
  | []=>0
  | (i,_,_) :: r=>i + startOf r
def cutLen (z:Nat):Nat → List (Nat × Nat × Nat) → Option Nat
  | len,[]=>some len
  | len,(i,j,z') :: r=>if i ≤ j ∧ j ≤ len ∧ z' = z then cutLen z (j - i) r else none
noncomputable def cutCells:List (Nat × Nat × Nat) → List AV → List AV
  | [],l=>l
  | (i,j,z) :: r,l=>cutCells r (takeR (dropR l (i * z)) ((j - i) * z))
noncomputable def sliceOf (g:Look) (z:Nat):AV → Option (Nat × List AV)
  | .nsl=>some (0,[])
  | .sl n off len cap=>match g n with
    | some (.pt N l _)=>if off + len * z ≤ N ∧ len ≤ cap then some (len,bif Nat.beq off 0 && Nat.beq N (len * z) then l else takeR (dropR l off) (len * z)) else none
    | some (.fz N l _)=>if off + len * z ≤ N ∧ len ≤ cap then some (len,bif Nat.beq off 0 && Nat.beq N (len * z) then l else takeR (dropR l off) (len * z)) else none
    | _=>none
  | .row n cuts=>match g n with
    | some (.row _ z' m l)=>if z' = z then do
        let len ← cutLen z m cuts
        some (len,cutCells cuts l)
      else none
    | _=>none
  | _=>none
noncomputable def fillA (place:Nat → Option (Nat × Nat)) (N:Nat) (cells:List AV):List (Nat × AV) → Option (List AV)
  | []=>some cells
  | (i,v) :: rest=>do
    let (off,size) ← place i
    if lenOf v ≠ size ∨ isCell v = false then none else fillA place N (← putA N cells off size (cellsOf v)) rest
noncomputable def aparts (F:Fm):List (Nat × Operand) → Option (List (Nat × AV))
  | []=>some []
  | (i,x) :: r=>do
    let v ← aget F x
    some ((i,v) :: (← aparts F r))
noncomputable def agets (F:Fm):List Operand → Option (List AV)
  | []=>some []
  | x :: r=>do
    let v ← aget F x
    some (v :: (← agets F r))
noncomputable def agetO (F:Fm):Option Operand → Option (Option AV)
  | none=>some none
  | some x=>(aget F x).map some
def mapFind (k:AV):List (AV × AV × Nat) → Option (Option AV)
  | []=>some none
  | (k',v,_) :: r=>match k,k' with
    | .i a x,.i b y=>if a = b then (if x = y then some (some v) else mapFind k r) else none
    | _,_=>none
def boundA (d:Nat):Option AV → Option Nat
  | none=>some d
  | some v=>asNat v
def mapOf (g:Look):AV → Option (List (AV × AV × Nat))
  | .nm=>some []
  | .mp n=>match g n with
    | some (.map es _)=>some es
    | _=>none
  | _=>none
def lookV (ok:Bool) (r:Option AV) (z:AV):AV:=match r,ok with
  | some v,true=>.tup [v,.b true]
  | some v,false=>v
  | none,true=>.tup [z,.b false]
  | none,false=>z
noncomputable def aval (T:Tab) (g:Look) (F:Fm) (o:Op):Option AV :=
  match o with
  | .move x | .assign x=>aget F x
  | .pick c x y=>do match ← aget F c with
    | .b t=>if t then aget F x else aget F y
    | _=>none
  | .binOp op t x y _=>do abin T g op t (← aget F x) (← aget F y)
  | .unOp op _ x=>do match op,← aget F x with
    | .not,.b x=>some (.b (!x))
    | .neg,.i k n=>some (.i k (k.wrap (0 - n)))
    | _,_=>none
  | .convert s d x=>do match ← T.und s,← T.und d,← aget F x with
    | _,.int k,.i _ n=>some (.i k (k.wrap n))
    | .slice e,.string,v=>match ← T.und e with
      | .int .u8=>do
        let l ← sliceOf g 1 v
        some (.s (← l.2.mapM fun c=>match c with | .i .u8 n=>if 0 ≤ n ∧ n < 256 then some (UInt8.ofNat n.toNat) else none | _=>none))
      | _=>none
    | _,_,_=>none
  | .fieldAddr t x f=>do match ← T.und t,← aget F x with
    | .struct fs,.p n off=>do
      let f ← fs[f]?
      if (← T.sz f.type) = 0 then none else some (.p n (off + f.offset))
    | _,_=>none
  | .field t x f=>do match ← T.und t,← aget F x with
    | .struct fs,.agg n cs=>do
      let f ← fs[f]?
      part T f.type n cs f.offset
    | _,_=>none
  | .indexAddr t x j=>do
    let i ← asNat (← aget F j)
    match ← T.und t,← aget F x with
    | .slice e,.sl n off len _=>do
      let z ← T.sz e
      if i < len then some (.p n (off + i * z)) else none
    | .slice e,.row n cuts=>do
      let z ← T.sz e
      let l ← sliceOf g z (.row n cuts)
      if i < l.1 then some (.p n ((startOf cuts + i) * z)) else none
    | .array len e,.p n off=>do
      let z ← T.sz e
      if i < len then some (.p n (off + i * z)) else none
    | _,_=>none
  | .index t x j=>do
    let i ← asNat (← aget F j)
    match ← T.und t,← aget F x with
    | .array len e,.agg n cs=>do
      let z ← T.sz e
      if i < len then part T e n cs (i * z) else none
    | .string,.s l=>do some (.i .u8 ((← l[i]?).toNat))
    | _,_=>none
  | .load t x=>do match ← aget F x with
    | .p n off=>match g n with
      | some (.pt n l _)=>part T t n l off
      | some (.row _ z m l)=>part T t (m * z) l off
      | _=>none
    | _=>none
  | .extract x i=>do match ← aget F x with
    | .tup l=>getR l i
    | _=>none
  | .nilCheck x=>do match ← aget F x with
    | .p n off=>some (.p n off)
    | .f q a b=>some (.f q a b)
    | _=>none
  | .makeFunc (.func q) fs cs=>do some (.f q (← agets F fs.toList) (← agets F cs.toList))
  | .build t ps=>do
    let vs ← aparts F ps.toList
    match ← T.und t,← T.zero t with
    | .struct fs,.agg n z=>if !fs.toList.all (fun f=>(T.sz f.type).isSome) then none else do some (.agg n (← fillA (fun i=>do
        let f ← fs[i]?
        some (f.offset,← T.sz f.type)) n z vs))
    | .array _ e,.agg n z=>do
        let sz ← T.sz e
        some (.agg n (← fillA (fun i=>some (i * sz,sz)) n z vs))
    | _,_=>none
  | .slice t x lo hi none=>do
    let l ← agetO F lo
    let r ← agetO F hi
    let i ← boundA 0 l
    match ← T.und t,← aget F x with
    | .slice e,v=>do
      let z ← T.sz e
      let l ← sliceOf g z v
      let j ← boundA l.1 r
      if i ≤ j ∧ j ≤ l.1 then
        match v with
        | .nsl=>some .nsl
        | .sl n off _ cap=>some (.sl n (if cap = i then off else off + i * z) (j - i) (cap - i))
        | .row n cuts=>some (.row n (cuts ++ [(i,j,z)]))
        | _=>none
      else none
    | .array len e,.p n off=>do
      let z ← T.sz e
      let j ← boundA len r
      if i ≤ j ∧ j ≤ len ∧ i = 0 ∧ 0 < len then some (.sl n off j len) else none
    | _,_=>none
  | .call { callee:=.builtin b,args:=xs,argTypes:=ts }=>do
    match b,← agets F xs.toList,ts.toList with
    | .len,[v],t :: _=>match ← T.und t,v with
      | .string,.s l=>some (.i .i64 l.length)
      | .slice e,v=>do some (.i .i64 (← sliceOf g (← T.sz e) v).1)
      | _,_=>none
    | .min,[.i k x,.i _ y],_=>some (.i k (if y < x then y else x))
    | .max,[.i k x,.i _ y],_=>some (.i k (if y > x then y else x))
    | _,_,_=>none
  | .lookup t x j ok=>do
    let key ← aget F j
    match ← T.und t,← aget F x with
    | .map k e,m=>match ← T.und k,mapOf g m,key with
      | .int _,some es,.i _ _=>do
        let r ← mapFind key es
        let z ← T.zero e
        some (lookV ok r z)
      | _,_,_=>none
    | _,_=>none
  | _=>none
noncomputable def fresh (s:St) (o:AObj):Option (Nat × St) :=
  match find s.h s.nx with
  | some _=>none
  | none=>some (s.nx,{ s with h:=upd s.h s.nx o,nx:=s.nx + 1 })
noncomputable def wrote (s:St) (n:Nat) (o:AObj):St:={ s with h:=upd s.h n o,wr:=bif memN n s.wr then s.wr else n :: s.wr }
abbrev CallT:=AV → List AV → St → Option (AV × St)
noncomputable def storeA (s:St) (n off m:Nat) (cs:List AV):Option St :=
  match find s.h n with
  | some (.pt N l t)=>do some (wrote s n (.pt N (← putA N l off m cs) t))
  | _=>none
noncomputable def mapPut (k v:AV) (clock:Nat) (es:List (AV × AV × Nat)):Option (List (AV × AV × Nat) × Nat):=match k,mapFind k es with
  | .i _ _,some none=>some (appR es [(k,v,clock)],clock + 1)
  | _,_=>none
noncomputable def aact (T:Tab) (call:CallT) (s:St) (F:Fm) (o:Op):Option (AV × St) :=
  match o with
  | .alloc e=>do
    let z ← T.zero e
    let (n,s) ← fresh s (.pt (lenOf z) (cellsOf z) e)
    some (.p n 0,s)
  | .box e x=>do
    let v ← aget F x
    if !isCell v then none else
    let (n,s) ← fresh s (.pt (lenOf v) (cellsOf v) e)
    some (.p n 0,s)
  | .store t x v=>do
    let v ← aget F v
    match ← aget F x with
    | .p n off=>do
      if lenOf v ≠ (← T.sz t) ∨ isCell v = false then none else
      some (.und,← storeA s n off (lenOf v) (cellsOf v))
    | _=>none
  | .buildSlice t len ps=>do match ← T.und t with
    | .slice e=>do
      let sz ← T.sz e
      let z ← T.zero e
      if len * sz = 0 ∨ 16777216 < len * sz ∨ lenOf z ≠ sz then
        (if len = 0 ∧ ps.toList.isEmpty = true then do
          let (n,s) ← fresh s (.pt 0 [] e)
          some (.sl n 0 0 0,s)
        else none)
      else do
      let cs ← fillA (fun i=>some (i * sz,sz)) (len * sz) ((List.range len).flatMap fun _=>cellsOf z) (← aparts F ps.toList)
      let (n,s) ← fresh s (.pt (len * sz) cs e)
      some (.sl n 0 len len,s)
    | _=>none
  | .convert t t' x=>do
    if t ≠ t' then none else
    match ← T.und t,← aget F x with
    | .slice e,.sl n off len cap=>match ← T.und e,find s.h n with
      | .int .u8,some (.pt N l q)=>some (.sl n off len cap,wrote s n (.fz N l q))
      | _,_=>none
    | _,_=>none
  | .makeMap _ none=>do
    let (n,s) ← fresh s (.map [] 0)
    some (.mp n,s)
  | .mapUpdate t m k v=>do match ← T.und t,← aget F m with
    | .map kt _,.mp n=>match ← T.und kt,find s.h n with
      | .int _,some (.map es c)=>do
        let (es,c) ← mapPut (← aget F k) (← aget F v) c es
        some (.und,wrote s n (.map es c))
      | _,_=>none
    | _,_=>none
  | .call { callee:=.builtin .append,args:=xs,argTypes:=ts }=>do
    match ← agets F xs.toList,ts.toList with
    | [x,y],[t,t']=>if t ≠ t' then none else match ← T.und t with
      | .slice e=>do
        let z ← T.sz e
        let q ← sliceOf (find s.h) z y
        if z = 0 ∨ 1000000 < q.1 ∨ T.small e = false then none else
        match x with
        | .nsl=>if q.1 = 0 then some (.nsl,s) else do
          let (n,s) ← fresh s (.row e z q.1 q.2)
          some (.row n [],s)
        | .sl n off len cap =>
          if len + q.1 ≤ cap ∨ 1000000 < len then none
          else do
            let p ← sliceOf (find s.h) z (.sl n off len cap)
            let (n,s) ← fresh s (.row e z (len + q.1) (appR p.2 q.2))
            some (.row n [],s)
        | .row n []=>match find s.h n with
          | some (.row e' z' m l) =>
            if e' = e ∧ z' = z ∧ m ≤ 1000000 then do
              let (n',s') ← fresh (wrote s n .dead) (.row e z (m + q.1) (appR l q.2))
              some (.row n' [],s')
            else none
          | _=>none
        | _=>none
      | _=>none
    | _,_=>none
  | .call { callee:=.value g,args:=xs,argTypes:=_ }=>do
    call (← aget F g) (← agets F xs.toList) s
  | _=>none
def isVal:Op → Bool
  | .move _ | .assign _ | .pick .. | .binOp .. | .unOp .. | .fieldAddr .. | .field .. | .indexAddr .. | .index .. | .load .. | .extract .. | .nilCheck _ | .makeFunc .. | .build .. | .slice .. | .lookup .. | .convert ..=>true
  | .call { callee:=.builtin .len,.. } | .call { callee:=.builtin .min,.. } | .call { callee:=.builtin .max,.. }=>true
  | _=>false
noncomputable def aop (T:Tab) (call:CallT) (s:St) (F:Fm) (o:Op):Option (AV × St):=do
  if isVal o then match aval T (find s.h) F o with
    | some v=>some (v,s)
    | none=>aact T call s F o
  else aact T call s F o
noncomputable def setO (n:Nat) (F:Fm) (d:Option Nat) (v:AV):Option Fm:=match d with
  | some d=>if Nat.blt d n then some (F.set d v) else none
  | none=>some F
noncomputable def wantA (ops:Array Oper) (F:Fm) (o:Oper):Option Bool:=match o.guard with
  | none=>some true
  | some (j,want)=>match (ops[j]?).bind (·.dst) with
    | some d=>match F.get d with
      | some (.b c)=>some (c == want)
      | some _=>some false
      | none=>none
    | none=>some false
noncomputable def aops (T:Tab) (call:CallT) (n:Nat) (ops:Array Oper):List Oper → Fm → St → Option (Fm × St)
  | [],F,s=>some (F,s)
  | o :: r,F,s=>do
    if ← wantA ops F o then
      let q ← aop T call s F o.op
      force q.1 fun v=>do aops T call n ops r (← setO n F o.dst v) q.2
    else aops T call n ops r (← setO n F o.dst .und) s
def renO (f:Nat → Nat):AObj → AObj
  | .pt n l T=>.pt n (rens f l) T
  | .fz n l T=>.fz n (rens f l) T
  | .row e z m l=>.row e z m (rens f l)
  | .map es c=>.map (es.map fun e=>(ren f e.1,ren f e.2.1,e.2.2)) c
  | o=>o
def eqO:AObj → AObj → Bool
  | .pt n l T,.pt n' l' T'=>Nat.beq n n' && Nat.beq T T' && eqVs l l'
  | .fz n l T,.fz n' l' T'=>Nat.beq n n' && Nat.beq T T' && eqVs l l'
  | .row e z m l,.row e' z' m' l'=>Nat.beq e e' && Nat.beq z z' && Nat.beq m m' && eqVs l l'
  | .map es c,.map es' c'=>Nat.beq c c' && eqVs (es.map (·.1)) (es'.map (·.1)) && eqVs (es.map (·.2.1)) (es'.map (·.2.1)) && decide (es.map (·.2.2) = es'.map (·.2.2))
  | .dead,.dead=>true
  | .defd a,.defd b=>a == b
  | .loop a c,.loop a' c'=>decide (a = a') && decide (c = c')
  | _,_=>false
def namesV:AV → List Nat
  | .p n _=>[n]
  | .sl n _ _ _=>[n]
  | .row n _=>[n]
  | .mp n=>[n]
  | _=>[]
def pickQ (p:Nat → Bool):List Nat → Option Nat
  | []=>none
  | i :: r=>bif p i then some i else pickQ p r
abbrev Log:=List (Nat × Nat × Nat)
def mapName (l l':Log) (n:Nat):Nat:=match l with
  | []=>n
  | (e,a,b) :: r=>bif Nat.ble a n && Nat.blt n b then (match l'.find? (fun q=>Nat.beq q.1 e) with
      | some (_,a',_)=>a' + (n - a)
      | none=>n) else mapName r l' n
def piName (nx0:Nat) (l l':Log) (n:Nat):Nat:=bif Nat.blt n nx0 then n else mapName l l' n
noncomputable def sameWay (n nx0:Nat) (f:Nat → Nat) (F:Fm) (s:St) (F':Fm) (s':St):Bool :=
  Nat.beq s.nx s'.nx && decide (s.marks = s'.marks) &&
  ((List.range (s.nx - nx0)).all fun m=>Nat.ble nx0 (f (nx0 + m)) && Nat.blt (f (nx0 + m)) s.nx) &&
  nodupN ((List.range (s.nx - nx0)).map fun m=>f (nx0 + m)) &&
  ((List.range n).all fun t=>match F.get t,F'.get t with
    | some v,some v'=>eqV (ren f v) v'
    | none,none=>true
    | _,_=>false) &&
  (s.wr.all fun m=>memN m s'.wr || Nat.ble nx0 m) && (s'.wr.all fun m=>memN m s.wr || Nat.ble nx0 m) &&
  ((s.wr.filter (Nat.blt · nx0) ++ (List.range (s.nx - nx0)).map (nx0 + ·)).all fun m=>match find s.h m,find s'.h (f m) with
    | some o,some o'=>eqO (renO f o) o'
    | none,_=>true
    | _,_=>false)
def isReady (ops:Array Oper) (T:List Nat) (i:Nat):Bool:=!memN i T && (aftOf ops i).all (memN · T)
def masks (ops:Array Oper):List Nat:=(List.range ops.size).foldl (fun acc i=>acc ++ [(aftOf ops i).foldl (fun m p=>m ||| 2 ^ p ||| acc.getD p 0) 0]) []
def syncM (ops:Array Oper) (T:List Nat) (e:Nat):Bool:=T.all fun j=>((masks ops).getD e 0).testBit j
noncomputable def addName (F:Fm) (x:Operand) (acc:List Nat):List Nat:=match aget F x with
  | some v=>(namesV v).foldl (fun acc n=>bif memN n acc then acc else n :: acc) acc
  | none=>acc
noncomputable def opNames (F:Fm) (o:Op) (acc:List Nat):List Nat:=match o with
  | .load _ x=>addName F x acc
  | .binOp _ _ x _ _=>(match aget F x with
    | some (.row _ _)=>addName F x acc
    | _=>acc)
  | .lookup _ x _ _=>addName F x acc
  | .convert _ _ x=>addName F x acc
  | .slice _ x _ _ _=>(match aget F x with
    | some (.p _ _)=>acc
    | _=>addName F x acc)
  | .indexAddr _ x _=>(match aget F x with
    | some (.p _ _)=>acc
    | _=>addName F x acc)
  | .call c=>c.args.toList.foldl (fun acc x=>addName F x acc) acc
  | _=>acc
noncomputable def lookAt (rd:List Nat) (h:Heap):Look:=fun n=>bif memN n rd then find h n else none
def dropN (i:Nat):List Nat → List Nat
  | []=>[]
  | j :: r=>bif Nat.beq i j then r else j :: dropN i r
def drawRd (ops:Array Oper) (D:List Nat) (e nx:Nat) (rd wr:List Nat):Option (List Nat) :=
  if syncM ops D e then some [] else if wr.all (fun m=>Nat.ble nx m || !memN m rd) then some rd else none
abbrev DrawT:=List Nat → List Nat → Fm → List Nat → St → Log → Option (Fm × St × Log)
noncomputable def drawE (T:Tab) (call:CallT) (n:Nat) (ops:Array Oper) (next:DrawT) (R D:List Nat) (F:Fm) (rd:List Nat) (s:St) (lg:Log) (e:Nat):Option (Fm × St × Log):=do
  let o ← ops[e]?
  if noSel o && wantA ops F o == some true then
    let q ← aop T call { s with wr:=[] } F o.op
    let rd' ← drawRd ops D e s.nx rd q.2.wr
    force q.1 fun v=>do next (dropN e R) (e :: D) (← setO n F o.dst v) rd' { q.2 with wr:=q.2.wr ++ s.wr } ((e,s.nx,q.2.nx) :: lg)
  else none
noncomputable def drawQ (T:Tab) (n:Nat) (ops:Array Oper) (next:DrawT) (R D:List Nat) (F:Fm) (rd:List Nat) (s:St) (lg:Log) (i:Nat):Option (Fm × St × Log):=do
  let o ← ops[i]?
  if ← wantA ops F o then
    let v ← aval T (lookAt (opNames F o.op rd) s.h) F o.op
    force v fun v=>do next (dropN i R) (i :: D) (← setO n F o.dst v) (opNames F o.op rd) s lg
  else next (dropN i R) (i :: D) (← setO n F o.dst .und) rd s lg
noncomputable def pickV (ops:Array Oper) (F:Fm) (D R:List Nat):Option Nat :=
  pickQ (fun i=>(match ops[i]? with | some o=>(bif isVal o.op then true else wantA ops F o == some false) | none=>false) && okq ops D i) R
noncomputable def adraw (T:Tab) (call:CallT) (n:Nat) (ops:Array Oper):Nat → DrawT
  | 0,_,_,_,_,_,_=>none
  | k + 1,R,D,F,rd,s,lg =>
    match R with
    | []=>if allDone ops D then some (F,s,lg) else none
    | _ :: _ =>
    match pickV ops F D R with
    | some i=>drawQ T n ops (adraw T call n ops k) R D F rd s lg i
    | none =>
      match R.filter (isReady ops D) with
      | []=>none
      | e :: es=>do
        let r ← drawE T call n ops (adraw T call n ops k) R D F rd s lg e
        if blk ops D (e :: es) && es.all (fun e'=>match drawE T call n ops (adraw T call n ops k) R D F rd s lg e' with
          | some r'=>sameWay n s.nx (piName s.nx r.2.2 r'.2.2) r.1 r.2.1 r'.1 r'.2.1
          | none=>false) then some r else none
noncomputable def adrawn (T:Tab) (call:CallT) (n:Nat) (ops:Array Oper) (F:Fm) (s:St):Option (Fm × St):=do
  if chk ops then
    let r ← adraw T call n ops (ops.size + 1) (List.range ops.size) [] F [] s []
    some (r.1,r.2.1)
  else none
inductive AX where
  | n
  | x (id:Nat)
  | r
deriving DecidableEq
def isFn:AV → Bool
  | .f _ _ _=>true
  | _=>false
def aloop (body:Fm → St → Option (AX × Fm × St)):Nat → Fm → St → Option (AX × Fm × St)
  | 0,_,_=>none
  | k + 1,F,s=>do
    let q ← body F s
    match q.1 with
    | .n=>aloop body k q.2.1 q.2.2
    | _=>some q
def axOf:Option (Option Nat) → AX
  | none=>.n
  | some none=>.r
  | some (some id)=>.x id
def pdOf:AX → Option (Option Nat)
  | .n=>none
  | .r=>some none
  | .x id=>some (some id)
noncomputable def endLoopA (s:St) (l:Nat):Option (AX × St):=match find s.h l with
  | some (.loop st pd)=>match st with
    | .busy=>none
    | _=>some (axOf pd,wrote s l .dead)
  | _=>none
noncomputable def acode (T:Tab) (call:Env → CallT) (env:Env) (fn n:Nat) (inRound:Bool) (fuel:Nat):Code → Fm → St → Option (AX × Fm × St)
  | .skip,F,s=>some (.n,F,s)
  | .region _ ops draw,F,s=>if draw then (adrawn T (call env) n ops F s).map fun q=>(.n,q.1,q.2) else (aops T (call env) n ops ops.toList F s).map fun q=>(.n,q.1,q.2)
  | .seq a b,F,s=>do
    let q ← acode T call env fn n inRound fuel a F s
    match q.1 with
    | .n=>acode T call env fn n inRound fuel b q.2.1 q.2.2
    | _=>some q
  | .cond c x y,F,s=>do match ← aget F c with
    | .b true=>acode T call env fn n inRound fuel x F s
    | .b false=>acode T call env fn n inRound fuel y F s
    | _=>none
  | .block id c,F,s=>do
    let q ← acode T call env fn n inRound fuel c F s
    some (if q.1 = .x id then .n else q.1,q.2.1,q.2.2)
  | .loop c,F,s=>aloop (acode T call env fn n inRound fuel c) fuel F s
  | .exit id,F,s=>some (.x id,F,s)
  | .ret,F,s=>some (.r,F,s)
  | .rangeFunc g ps a b,F,s=>if inRound then none else do
    let gv ← aget F g
    if isFn gv = false then none else
    let (d,s) ← fresh s (.defd false)
    let (l,s) ← fresh s (.loop .ready none)
    let q ← call ((l,⟨fn,n,F,ps.toList,a,b,d⟩) :: env) gv [.y l] { s with marks:=d :: s.marks }
    let (e,s) ← endLoopA q.2 l
    some (e,F,s)
  | _,_,_=>none
noncomputable def takeMarks:List Nat → St → Option St
  | [],s=>some s
  | d :: r,s=>match find s.h d with
    | some (.defd false)=>takeMarks r (wrote s d (.defd true))
    | _=>none
noncomputable def ares (T:Tab) (s:St) (F:Fm):List ResultVar → Option (List AV)
  | []=>some []
  | .tmp t :: r=>do some ((← F.get t) :: (← ares T s F r))
  | .cell t ty :: r=>do match ← F.get t with
    | .p n off=>match find s.h n with
      | some (.pt n l _)=>do some ((← part T ty n l off) :: (← ares T s F r))
      | _=>none
    | _=>none
noncomputable def setPs (n:Nat):List Nat → List AV → Fm → Option Fm
  | [],[],F=>some F
  | p :: ps,v :: vs,F=>if Nat.blt p n then setPs n ps vs (F.set p v) else none
  | _,_,_=>none
noncomputable def enterF:Nat → Nat → List AV → Fm
  | 0,_,_=>.e
  | n + 1,i,[]=>(enterF n (i + 1) []).set i .und
  | n + 1,i,v :: vs=>(enterF n (i + 1) vs).set i v
def resV:List AV → AV
  | [v]=>v
  | vs=>.tup vs
noncomputable def acall (T:Tab) (fuel:Nat):Nat → Env → CallT
  | 0,_,_,_,_=>none
  | k + 1,env,g,args,s=>match g with
    | .f g fs cs=>do
      let (n,rs,body) ← T.fn g
      let vs:=fs ++ args ++ cs
      if n < vs.length then none else
      let q ← acode T (acall T fuel k) env g n false fuel body (enterF n 0 vs) { s with marks:=[] }
      match q.1 with
      | .x _=>none
      | _=>do
        let s' ← takeMarks q.2.2.marks q.2.2
        let r ← ares T s' q.2.1 rs
        some (resV r,{ s' with marks:=s.marks,wr:=s'.wr.filter (Nat.blt · s.nx) })
    | .y l=>do
      let I ← envGet env l
      match find s.h l with
      | some (.loop .ready _)=>do
        let F ← setPs I.n I.ps args I.tm
        let q ← acode T (acall T fuel k) env I.fn I.n true fuel I.asg F { s with marks:=[] }
        match q.1,find q.2.2.h l with
        | .n,some (.loop .ready pd)=>do
          let q' ← acode T (acall T fuel k) env I.fn I.n true fuel I.body q.2.1 (wrote q.2.2 l (.loop .busy pd))
          match find q'.2.2.h l with
          | some (.loop _ _) =>
            some (.b (pdOf q'.1).isNone,{ wrote q'.2.2 l (.loop (if (pdOf q'.1).isNone then .ready else .done) (pdOf q'.1)) with marks:=s.marks })
          | _=>none
        | _,_=>none
      | _=>none
    | _=>none
def smallI:Option TypeInfo → Bool
  | some i=>Nat.ble i.bytes 1000000 && (match i.zero with
    | some v=>Nat.beq v.cells.size i.size
    | none=>false)
  | none=>false
noncomputable def tabOf (p:Program):Tab where
  small:=fun t=>smallI (p.info? t)
  und:=fun t=>p.underlying t
  sz:=fun t=>(p.info? t).map (·.size)
  zero:=fun t=>((p.info? t).bind (·.zero)).bind ofV
  plain:=fun t=>!p.eqGuardType p.depth t && !p.stoodInHeld t
  fn:=fun f=>(p.funcs[f]?).bind fun fn=>if fn.name == "runtime.NumGoroutine" then none else fn.body.map fun b=>(fn.ntmps,fn.results.toList,b)
end Go.Ev
end
section
namespace Go.Ev
open Go.Fw
theorem qH {α:Type} (l:List α):∀ k,getR l k = l[k]?:=by
  induction l with
  | nil=>intro k; simp [getR]
  | cons x l ih =>
    intro k
    have e:getR (x :: l) k = (bif Nat.beq k 0 then some x else getR l (k - 1)):=rfl
    rw [e]
    cases k with
    | zero=>rfl
    | succ k=>show getR l k = l[k]?; exact ih k
theorem nM {α:Type} (l:List α):∀ k,dropR l k = l.drop k:=by
  induction l with
  | nil=>intro k; simp [dropR]
  | cons x l ih =>
    intro k
    have e:dropR (x :: l) k = (bif Nat.beq k 0 then x :: l else dropR l (k - 1)):=rfl
    rw [e]
    cases k with
    | zero=>rfl
    | succ k=>show dropR l k = l.drop k; exact ih k
theorem oB {α:Type} (l:List α):∀ k,takeR l k = l.take k:=by
  induction l with
  | nil=>intro k; simp [takeR]
  | cons x l ih =>
    intro k
    have e:takeR (x :: l) k = (bif Nat.beq k 0 then [] else x :: takeR l (k - 1)):=rfl
    rw [e]
    cases k with
    | zero=>rfl
    | succ k=>show x :: takeR l k = x :: l.take k; rw [ih k]
theorem sW {α:Type} (l m:List α):appR l m = l ++ m:=by
  induction l with
  | nil=>rfl
  | cons x l ih =>
    have e:appR (x :: l) m = x :: appR l m:=rfl
    rw [e,ih]; rfl
theorem aHq {α:Type} (l:List α):lenR l = l.length:=by
  induction l with
  | nil=>rfl
  | cons x l ih =>
    have e:lenR (x :: l) = lenR l + 1:=rfl
    rw [e,ih]; rfl
theorem aFp {α:Type} (vs:List α):∀ l:List α,vs.length ≤ l.length → overR vs l = vs ++ l.drop vs.length:=by
  induction vs with
  | nil=>intro l _; rfl
  | cons v vs ih =>
    intro l hl
    have e:overR (v :: vs) l = v :: overR vs l.tail:=rfl
    rw [e]
    cases l with
    | nil=>simp at hl
    | cons x l=>rw [List.tail_cons,ih l (by simpa using hl)]; simp
theorem aHz {α:Type} (l:List α) (vs:List α):∀ k,k + vs.length ≤ l.length → putR l k vs = put l k vs:=by
  induction l with
  | nil =>
    intro k h
    simp only [List.length_nil] at h
    have h1:k = 0:=by omega
    have h2:vs = []:=List.eq_nil_of_length_eq_zero (by omega)
    subst h1 h2; rfl
  | cons x l ih =>
    intro k h
    have e:putR (x :: l) k vs = (bif Nat.beq k 0 then overR vs (x :: l) else x :: putR l (k - 1) vs):=rfl
    rw [e]
    cases k with
    | zero =>
      simp only [Nat.zero_add] at h
      have:Nat.beq 0 0 = true:=rfl
      rw [this,cond_true,aFp vs (x :: l) h]; simp [put]
    | succ k =>
      simp only [List.length_cons] at h
      have:Nat.beq (k + 1) 0 = false:=rfl
      rw [this,cond_false,Nat.add_sub_cancel,ih k (by omega)]
      simp only [put,List.take_succ_cons,List.cons_append]
      congr 2
      rw [show k + 1 + vs.length = (k + vs.length) + 1 by omega]; simp
section
variable {α:Type}
theorem Tr.get_e (k:Nat):(Tr.e:Tr α).get k = none:=rfl
theorem rC {β:Type} (a b:Nat) (x y:β):(bif Nat.beq a b then x else y) = if a = b then x else y:=by
  cases h:Nat.beq a b with
  | true=>rw [if_pos (Nat.eq_of_beq_eq_true h)]; rfl
  | false=>rw [if_neg (fun e=>by subst e; simp at h)]; rfl
theorem Tr.get_n (v:Option α) (l r:Tr α) (k:Nat):(Tr.n v l r).get k = if k = 0 then v else if k % 2 = 1 then l.get (k / 2) else r.get (k / 2 - 1):=by
  rw [← rC,← rC]; rfl
theorem Tr.set_e (k:Nat) (x:α):(Tr.e:Tr α).set k x = Tr.path 20 k x:=rfl
theorem Tr.set_n (v:Option α) (l r:Tr α) (k:Nat) (x:α):(Tr.n v l r).set k x = if k = 0 then .n (some x) l r else if k % 2 = 1 then .n v (l.set (k / 2) x) r else .n v l (r.set (k / 2 - 1) x):=by
  rw [← rC,← rC]; rfl
theorem Tr.path_s (d k:Nat) (x:α):Tr.path (d + 1) k x = if k = 0 then .n (some x) .e .e else if k % 2 = 1 then .n none (Tr.path d (k / 2) x) .e else .n none .e (Tr.path d (k / 2 - 1) x):=by
  rw [← rC,← rC]; rfl
theorem Tr.get_path (d:Nat):∀ (k m:Nat) (x:α),(m ≠ k → (Tr.path d k x).get m = none) ∧ (∀ y,(Tr.path d k x).get k = some y → y = x):=by
  induction d with
  | zero=>intro k m x; exact ⟨fun _=>rfl,fun y h=>by simp [Tr.path,Tr.get_e] at h⟩
  | succ d ih =>
    intro k m x
    rw [Tr.path_s]
    by_cases hk:k = 0
    · simp only [if_pos hk,Tr.get_n,Tr.get_e]
      refine ⟨fun h=>?_,fun y h=>by simpa using h.symm⟩
      rw [if_neg (by omega)]; simp
    · by_cases h2:k % 2 = 1
      · simp only [if_neg hk,if_pos h2,Tr.get_n,Tr.get_e]
        refine ⟨fun h=>?_,fun y h=>(ih (k / 2) 0 x).2 y h⟩
        by_cases hm:m = 0
        · rw [if_pos hm]
        · rw [if_neg hm]
          by_cases hm2:m % 2 = 1
          · rw [if_pos hm2]; exact (ih _ _ x).1 (by omega)
          · rw [if_neg hm2]
      · simp only [if_neg hk,if_neg h2,Tr.get_n,Tr.get_e]
        refine ⟨fun h=>?_,fun y h=>(ih (k / 2 - 1) 0 x).2 y h⟩
        by_cases hm:m = 0
        · rw [if_pos hm]
        · rw [if_neg hm]
          by_cases hm2:m % 2 = 1
          · rw [if_pos hm2]
          · rw [if_neg hm2]; exact (ih _ _ x).1 (by omega)
theorem Tr.get_set (t:Tr α):∀ (k m:Nat) (x:α),(m ≠ k → (t.set k x).get m = t.get m) ∧ (∀ y,(t.set k x).get k = some y → y = x):=by
  induction t with
  | e=>intro k m x; rw [Tr.set_e]; exact ⟨fun h=>(Tr.get_path 20 k m x).1 h,(Tr.get_path 20 k m x).2⟩
  | n v l r ihl ihr =>
    intro k m x
    rw [Tr.set_n]
    by_cases hk:k = 0
    · simp only [if_pos hk,Tr.get_n]
      refine ⟨fun h=>?_,fun y h=>by simpa using h.symm⟩
      have hm:¬ m = 0:=by omega
      rw [if_neg hm,if_neg hm]
    · by_cases h2:k % 2 = 1
      · simp only [if_neg hk,if_pos h2,Tr.get_n]
        refine ⟨fun h=>?_,fun y h=>(ihl (k / 2) 0 x).2 y h⟩
        by_cases hm:m = 0
        · rw [if_pos hm,if_pos hm]
        · rw [if_neg hm,if_neg hm]
          by_cases hm2:m % 2 = 1
          · rw [if_pos hm2,if_pos hm2]; exact (ihl _ _ x).1 (by omega)
          · rw [if_neg hm2,if_neg hm2]
      · simp only [if_neg hk,if_neg h2,Tr.get_n]
        refine ⟨fun h=>?_,fun y h=>(ihr (k / 2 - 1) 0 x).2 y h⟩
        by_cases hm:m = 0
        · rw [if_pos hm,if_pos hm]
        · rw [if_neg hm,if_neg hm]
          by_cases hm2:m % 2 = 1
          · rw [if_pos hm2,if_pos hm2]
          · rw [if_neg hm2,if_neg hm2]; exact (ihr _ _ x).1 (by omega)
theorem Tr.set_other {t:Tr α} {k m:Nat} {x:α} (h:m ≠ k):(t.set k x).get m = t.get m:=(Tr.get_set t k m x).1 h
theorem Tr.set_some {t:Tr α} {k m:Nat} {x y:α} (h:(t.set k x).get m = some y):(m = k ∧ y = x) ∨ (m ≠ k ∧ t.get m = some y):=by
  by_cases hm:m = k
  · subst hm; exact .inl ⟨rfl,(Tr.get_set t m 0 x).2 y h⟩
  · exact .inr ⟨hm,by rw [← Tr.set_other hm]; exact h⟩
end
mutual
def gam (ρ:Nat → SV):AV → Value
  | .b x=>.bool x
  | .i k n=>.int k n
  | .s l=>.string ⟨l.toArray⟩
  | .np=>.pointer none
  | .nsl=>.slice none 0 0
  | .nf=>.nilFunc
  | .nm=>.map none
  | .und=>undef
  | .p n off=>.pointer (some ⟨(ρ n).blk,off,none⟩)
  | .sl n off len cap=>.slice (some ⟨(ρ n).blk,off,none⟩) len cap
  | .row n cuts=>(cuts.foldl (fun s c=>s.cut c.1 c.2.1 c.2.2) (ρ n)).v
  | .mp n=>.map (some (ρ n).blk)
  | .f g fs cs=>.func (.func g) (gams ρ fs).toArray (gams ρ cs).toArray
  | .y n=>.func (.yield (ρ n).blk) #[] #[]
  | .agg _ l=>.agg (gams ρ l).toArray
  | .tup l=>.tuple (gams ρ l).toArray
def gams (ρ:Nat → SV):List AV → List Value
  | []=>[]
  | v :: r=>gam ρ v :: gams ρ r
end
theorem eM (ρ:Nat → SV) (l:List AV):gams ρ l = l.map (gam ρ):=by
  induction l with
  | nil=>simp [gams]
  | cons v l ih=>simp [gams,ih]
mutual
def okV (k:Nat):AV → Prop
  | .p n _=>n < k
  | .sl n _ _ _=>n < k
  | .row n _=>n < k
  | .mp n=>n < k
  | .y n=>n < k
  | .f _ a c=>okVs k a ∧ okVs k c
  | .agg n l=>l.length = n ∧ (∀ v ∈ l,oneA v = true) ∧ okVs k l
  | .tup l=>okVs k l
  | _=>True
def okVs (k:Nat):List AV → Prop
  | []=>True
  | v :: r=>okV k v ∧ okVs k r
end
theorem kB {k:Nat} {l:List AV}:okVs k l ↔ ∀ v ∈ l,okV k v:=by
  induction l with
  | nil=>simp [okVs]
  | cons v l ih=>simp [okVs,ih]
theorem fE {k n:Nat} {l:List AV}:okV k (.agg n l) ↔ l.length = n ∧ (∀ v ∈ l,oneA v = true) ∧ ∀ v ∈ l,okV k v:=by
  simp only [okV,kB]
mutual
theorem gU {k k':Nat} (h:k ≤ k'):∀ v,okV k v → okV k' v
  | .p n _,q=>by simp only [okV] at *; omega
  | .sl n _ _ _,q=>by simp only [okV] at *; omega
  | .row n _,q=>by simp only [okV] at *; omega
  | .mp n,q=>by simp only [okV] at *; omega
  | .y n,q=>by simp only [okV] at *; omega
  | .f _ a c,q=>by simp only [okV] at *; exact ⟨lY h a q.1,lY h c q.2⟩
  | .agg n l,q=>by simp only [okV] at *; exact ⟨q.1,q.2.1,lY h l q.2.2⟩
  | .tup l,q=>by simp only [okV] at *; exact lY h l q
  | .b _,_=>trivial
  | .i _ _,_=>trivial
  | .s _,_=>trivial
  | .np,_=>trivial
  | .nsl,_=>trivial
  | .nf,_=>trivial
  | .nm,_=>trivial
  | .und,_=>trivial
theorem lY {k k':Nat} (h:k ≤ k'):∀ l,okVs k l → okVs k' l
  | [],_=>trivial
  | v :: r,q=>by simp only [okVs] at *; exact ⟨gU h v q.1,lY h r q.2⟩
end
mutual
theorem vY {k:Nat} {ρ ρ':Nat → SV} (h:∀ n,n < k → ρ n = ρ' n):∀ v,okV k v → gam ρ v = gam ρ' v
  | .p n _,q=>by simp only [okV] at q; simp only [gam,h n q]
  | .sl n _ _ _,q=>by simp only [okV] at q; simp only [gam,h n q]
  | .row n _,q=>by simp only [okV] at q; simp only [gam,h n q]
  | .mp n,q=>by simp only [okV] at q; simp only [gam,h n q]
  | .y n,q=>by simp only [okV] at q; simp only [gam,h n q]
  | .f _ a c,q=>by simp only [okV] at q; simp only [gam,kY h a q.1,kY h c q.2]
  | .agg n l,q=>by simp only [okV] at q; simp only [gam,kY h l q.2.2]
  | .tup l,q=>by simp only [okV] at q; simp only [gam,kY h l q]
  | .b _,_=>rfl
  | .i _ _,_=>rfl
  | .s _,_=>rfl
  | .np,_=>rfl
  | .nsl,_=>rfl
  | .nf,_=>rfl
  | .nm,_=>rfl
  | .und,_=>rfl
theorem kY {k:Nat} {ρ ρ':Nat → SV} (h:∀ n,n < k → ρ n = ρ' n):∀ l,okVs k l → gams ρ l = gams ρ' l
  | [],_=>rfl
  | v :: r,q=>by simp only [okVs] at q; simp only [gams,vY h v q.1,kY h r q.2]
end
mutual
theorem aB7 (ρ:Nat → SV) (f:Nat → Nat):∀ v,gam ρ (ren f v) = gam (fun n=>ρ (f n)) v
  | .f _ a c=>by simp only [ren,gam,nO ρ f a,nO ρ f c]
  | .agg n l=>by simp only [ren,gam,nO ρ f l]
  | .tup l=>by simp only [ren,gam,nO ρ f l]
  | .p n _=>rfl
  | .sl n _ _ _=>rfl
  | .row n _=>rfl
  | .mp n=>rfl
  | .y n=>rfl
  | .b _=>rfl
  | .i _ _=>rfl
  | .s _=>rfl
  | .np=>rfl
  | .nsl=>rfl
  | .nf=>rfl
  | .nm=>rfl
  | .und=>rfl
theorem nO (ρ:Nat → SV) (f:Nat → Nat):∀ l,gams ρ (rens f l) = gams (fun n=>ρ (f n)) l
  | []=>rfl
  | v :: r=>by simp only [rens,gams,aB7 ρ f v,nO ρ f r]
end
mutual
theorem aEs:∀ x y,eqV x y = true → x = y
  | .b x,y,h=>by cases y <;> simp [eqV] at h; simp [h]
  | .i k x,y,h=>by cases y <;> simp [eqV] at h; simp [h]
  | .s x,y,h=>by cases y <;> simp [eqV] at h; simp [h]
  | .np,y,h=>by cases y <;> simp [eqV] at h; rfl
  | .nsl,y,h=>by cases y <;> simp [eqV] at h; rfl
  | .nf,y,h=>by cases y <;> simp [eqV] at h; rfl
  | .nm,y,h=>by cases y <;> simp [eqV] at h; rfl
  | .und,y,h=>by cases y <;> simp [eqV] at h; rfl
  | .p n o,y,h=>by cases y <;> simp [eqV] at h; simp [h]
  | .sl n o l c,y,h=>by cases y <;> simp [eqV] at h; simp [h]
  | .row n c,y,h=>by cases y <;> simp [eqV] at h; simp [h]
  | .mp n,y,h=>by cases y <;> simp [eqV] at h; simp [h]
  | .y n,y,h=>by cases y <;> simp [eqV] at h; simp [h]
  | .f g a c,y,h=>by
    cases y <;> simp [eqV] at h
    rw [h.1.1,jU a _ h.1.2,jU c _ h.2]
  | .agg n l,y,h=>by
    cases y <;> simp [eqV] at h
    rw [h.1,jU l _ h.2]
  | .tup l,y,h=>by
    cases y <;> simp [eqV] at h
    rw [jU l _ h]
theorem jU:∀ l m,eqVs l m = true → l = m
  | [],m,h=>by cases m <;> simp [eqVs] at h; rfl
  | x :: l,m,h=>by
    cases m <;> simp [eqVs] at h
    rw [aEs x _ h.1,jU l _ h.2]
end
theorem tV {β:Type} (v:AV) (k:AV → β):force v k = k v:=by
  have hn:∀ {γ:Type} (n:Nat) (q:Nat → γ),forceN n q = q n:=fun n q=>by cases n <;> rfl
  cases v <;> simp only [force,forceI]
  case b x=>cases x <;> rfl
  case i q n=>cases n <;> simp only [hn]
  case p n off=>simp only [hn]
theorem aFj {v:Value} {u:AV} (h:ofL v = some u) (ρ:Nat → SV) (k:Nat):gam ρ u = v ∧ okV k u ∧ oneA u = true:=by
  cases v <;> simp only [ofL] at h <;> try (cases h; done)
  case bool b=>cases h; exact ⟨rfl,trivial,rfl⟩
  case int q n=>cases h; exact ⟨rfl,trivial,rfl⟩
  case string s=>cases h; exact ⟨by simp [gam],trivial,rfl⟩
  case pointer a=>cases a <;> simp at h; cases h; exact ⟨rfl,trivial,rfl⟩
  case slice a l c => 
    cases a with
    | some a=>simp at h
    | none=>cases l <;> cases c <;> simp at h; cases h; exact ⟨rfl,trivial,rfl⟩
  case map r=>cases r <;> simp at h; cases h; exact ⟨rfl,trivial,rfl⟩
  case nilFunc=>cases h; exact ⟨rfl,trivial,rfl⟩
theorem aFe {l:List Value} {us:List AV} (h:l.mapM ofL = some us) (ρ:Nat → SV) (k:Nat):us.map (gam ρ) = l ∧ (∀ u ∈ us,okV k u) ∧ ∀ u ∈ us,oneA u = true:=by
  induction l generalizing us with
  | nil=>simp at h; subst h; simp
  | cons v l ih =>
    simp only [List.mapM_cons,Option.pure_def,Option.bind_eq_bind,Option.bind_eq_some_iff] at h
    obtain ⟨u,hu,us',hus,h⟩:=h
    cases h
    obtain ⟨h1,h2,h3⟩:=aFj hu ρ k
    obtain ⟨h4,h5,h6⟩:=ih hus
    exact ⟨by simp [h1,h4],by simp [h2]; exact h5,by simp [h3]; exact h6⟩
theorem aBd {v:Value} {u:AV} (h:ofV v = some u) (ρ:Nat → SV) (k:Nat):gam ρ u = v ∧ okV k u ∧ isCell u = true:=by
  have key:∀ w:Value,ofL w = some u → gam ρ u = w ∧ okV k u ∧ isCell u = true:=fun w hw=>by
    obtain ⟨h1,h2,h3⟩:=aFj hw ρ k
    exact ⟨h1,h2,by cases u <;> first | rfl | exact h3⟩
  cases v <;> simp only [ofV] at h <;> first | exact key _ h | skip
  rename_i cs
  simp only [Option.map_eq_some_iff] at h
  obtain ⟨l,hl,rfl⟩:=h
  obtain ⟨h1,h2,h3⟩:=aFe hl ρ k
  exact ⟨by simp [gam,eM,h1],fE.2 ⟨(aHq l).symm,h3,h2⟩,rfl⟩
theorem gP (ρ:Nat → SV) (v:AV):(gam ρ v).cells = ((cellsOf v).map (gam ρ)).toArray:=by
  cases v <;> simp [gam,cellsOf,Value.cells,eM,undef]
theorem tX {k:Nat} {v:AV} (h:okV k v):(cellsOf v).length = lenOf v:=by
  cases v <;> first | rfl | exact (fE.1 h).1
theorem tL {k:Nat} {v:AV} (h:okV k v) (hc:isCell v = true):(∀ u ∈ cellsOf v,oneA u = true) ∧ ∀ u ∈ cellsOf v,okV k u:=by
  cases v
  case agg n l=>exact ⟨(fE.1 h).2.1,(fE.1 h).2.2⟩
  all_goals exact ⟨fun u hu=>(List.mem_singleton.1 hu) ▸ hc,fun u hu=>(List.mem_singleton.1 hu) ▸ h⟩
theorem zL {ρ:Nat → SV} {v:AV} (h:oneA v = true):(gam ρ v).oneCell' = true:=by
  cases v <;> first | rfl | cases h
end Go.Ev
end
section
namespace Go.Ev
open Go.Fw
structure Ip where
  sv:Nat → SV
  arr:Nat → Array Value
  fn:Nat → Nat
abbrev Ip.g (I:Ip):AV → Value:=gam I.sv
def pdCode:Option (Option Nat) → Option Code
  | none=>none
  | some none=>some .ret
  | some (some id)=>some (.exit id)
def loopOf (I:Ip) (n:Nat) (L:LInfo) (st:LoopState) (pd:Option (Option Nat)):Obj :=
  .loop { state:=st,pending:=pdCode pd,fn:=I.fn n,tmps:=I.arr n,params:=L.ps.toArray,assign:=L.asg,body:=L.body,defers:=(I.sv L.d).blk }
def voidR:Res:=.gen (fun _=>False) (fun _=>True)
def res (I:Ip) (env:Env) (lo n:Nat):AObj → Res
  | .pt _ l T=>.obj (I.sv n).blk (.cells (l.map I.g).toArray T (0,0))
  | .fz N l T=>.obj (I.sv n).blk (.cells (l.map I.g).toArray T (N,N + 1))
  | .row e z m l=>.row lo (I.sv n).v e z m (l.map I.g)
  | .map es c=>.obj (I.sv n).blk (.map (es.map fun e=>(⟨I.g e.1,I.g e.2.1,e.2.2⟩ : MapEntry)).toArray c)
  | .loop st pd=>match envGet env n with
    | some L=>.obj (I.sv n).blk (loopOf I n L st pd)
    | none=>voidR
  | .defd t=>.obj (I.sv n).blk (.deferred (if t then none else some []))
  | .dead=>voidR
def okO (k:Nat):AObj → Prop
  | .pt n l _=>l.length = n ∧ (∀ v ∈ l,oneA v = true) ∧ ∀ v ∈ l,okV k v
  | .fz n l _=>l.length = n ∧ (∀ v ∈ l,oneA v = true) ∧ ∀ v ∈ l,okV k v
  | .row _ z m l=>l.length = m * z ∧ 0 < z ∧ (∀ v ∈ l,oneA v = true) ∧ ∀ v ∈ l,okV k v
  | .map es _=>∀ e ∈ es,okV k e.1 ∧ okV k e.2.1
  | _=>True
structure GK (I:Ip) (env:Env) (lo k:Nat) (w:World) (g:Look):Prop where
  holds:∀ n o,g n = some o → (res I env lo n o).holds w
  ok:∀ n o,g n = some o → okO k o ∧ n < k
structure FR (I:Ip) (k n:Nat) (F:Fm) (a:Act) (dd:List Deferred):Prop where
  defers:a.defers = dd
  size:a.tmps.size = n
  get:∀ t v,F.get t = some v → t < n ∧ okV k v ∧ a.tmps[t]? = some (I.g v)
section
variable {I:Ip} {env:Env} {lo k n:Nat} {w:World} {g:Look} {F:Fm} {a:Act} {dd:List Deferred} {P:Program}
theorem FR.eval (h:FR I k n F a dd) {x:Operand} {v:AV} (hx:aget F x = some v):a.eval x = I.g v ∧ okV k v:=by
  cases x with
  | tmp t =>
    obtain ⟨h1,h2,h3⟩:=h.get t v hx
    exact ⟨by simp [Act.eval,Array.getD_eq_getD_getElem?,h3],h2⟩
  | const u =>
    obtain ⟨h1,h2,_⟩:=aBd hx I.sv k
    exact ⟨h1.symm,h2⟩
  | func f =>
    simp only [aget,Option.some.injEq] at hx
    subst hx
    exact ⟨by simp [Act.eval,gam,gams],by simp [okV,okVs]⟩
  | global q=>simp [aget] at hx
theorem FR.evals (h:FR I k n F a dd) {xs:List Operand} {vs:List AV} (hx:agets F xs = some vs):xs.map a.eval = vs.map I.g ∧ ∀ v ∈ vs,okV k v:=by
  induction xs generalizing vs with
  | nil=>simp [agets] at hx; subst hx; simp
  | cons x xs ih =>
    simp only [agets,Option.bind_eq_bind,Option.bind_eq_some_iff] at hx
    obtain ⟨v,hv,us,hus,hx⟩:=hx
    cases hx
    obtain ⟨h1,h2⟩:=h.eval hv
    obtain ⟨h3,h4⟩:=ih hus
    exact ⟨by simp [h1,h3],by simpa [h2] using h4⟩
theorem FR.set (h:FR I k n F a dd) {d:Nat} (hd:d < n) {v:AV} (hv:okV k v):FR I k n (F.set d v) (a.put (some d) (I.g v)) dd:=by
  refine ⟨h.defers,by simp [Act.put,h.size],fun t u hu=>?_⟩
  rcases Tr.set_some hu with ⟨rfl,rfl⟩ | ⟨hne,hu⟩
  · exact ⟨hd,hv,by simp [Act.put,h.size,hd]⟩
  · obtain ⟨h1,h2,h3⟩:=h.get t u hu
    have hne':¬ d = t:=fun e=>hne e.symm
    exact ⟨h1,h2,by simp [Act.put,hne',h3]⟩
theorem FR.setO (h:FR I k n F a dd) {d:Option Nat} {v:AV} {F':Fm} (hs:setO n F d v = some F') (hv:okV k v):FR I k n F' (a.put d (I.g v)) dd:=by
  cases d with
  | none=>simp only [Ev.setO] at hs; cases hs; exact h
  | some d =>
    simp only [Ev.setO] at hs
    split at hs
    · cases hs; exact h.set (Nat.le_of_ble_eq_true (by assumption)) hv
    · cases hs
theorem FR.want (h:FR I k n F a dd) {ops:Array Oper} {o:Oper} {b:Bool} (hw:wantA ops F o = some b):Region.wanted o (yielded ops a.tmps) = b:=by
  unfold Region.wanted
  unfold wantA at hw
  cases hg:o.guard with
  | none=>simp only [hg] at hw; cases hw; rfl
  | some p =>
    obtain ⟨j,want⟩:=p
    simp only [hg] at hw
    simp only [yielded]
    cases hd:(ops[j]?).bind (·.dst) with
    | none=>simp only [hd] at hw; cases hw; simp
    | some d =>
      simp only [hd] at hw
      cases hv:F.get d with
      | none=>simp [hv] at hw
      | some v =>
        obtain ⟨_,_,h3⟩:=h.get d v hv
        simp only [hv] at hw
        simp only [Option.bind_some,h3]
        cases v <;> simp [gam,undef] at hw ⊢ <;> exact hw
theorem pT {t:Nat} {d:TypeDesc} (h:P.underlying t = some d) (w:World):(isAgg t).run P w = .ok (isAggD d) w:=by
  simp only [isAgg,Sem.run_bind,run_underlying h,Result.andThen_ok]
  cases d <;> rfl
theorem eV {t m:Nat} (h:(P.info? t).map (·.size) = some m) (w:World):(sizeOf t).run P w = .ok m w:=by
  obtain ⟨i,hi,rfl⟩:=Option.map_eq_some_iff.1 h
  simp [sizeOf,typeInfo,hi]
theorem jB {t:Nat} {z:AV} (h:((P.info? t).bind (·.zero)).bind ofV = some z) (I:Ip) (k:Nat) (w:World):(zeroValue t).run P w = .ok (I.g z) w ∧ okV k z ∧ isCell z = true:=by
  obtain ⟨v,hv,hz⟩:=Option.bind_eq_some_iff.1 h
  obtain ⟨i,hi,hv⟩:=Option.bind_eq_some_iff.1 hv
  obtain ⟨h1,h2,h3⟩:=aBd hz I.sv k
  exact ⟨by simp [zeroValue,typeInfo,hi,hv,Ip.g,h1],h2,h3⟩
theorem rW {l:List AV} {off m N:Nat} (hN:l.length = N) (h:Nat.ble (off + m) N = true):(takeR (dropR l off) m).length = m:=by
  have:=Nat.le_of_ble_eq_true h
  rw [oB,nM]; simp; omega
theorem mH {l:List AV} {off m:Nat} {v:AV} (h:v ∈ takeR (dropR l off) m):v ∈ l:=by
  rw [oB,nM] at h; exact List.mem_of_mem_drop (List.mem_of_mem_take h)
theorem aE0 {l:List AV} {i:Nat} {v:AV} (h:getR l i = some v):v ∈ l:=by
  rw [qH] at h; exact List.mem_of_getElem? h
theorem oP {t N off:Nat} {l:List AV} {v:AV} (h:Ev.part (tabOf P) t N l off = some v) (hN:l.length = N) (h1:∀ u ∈ l,oneA u = true) (hk:∀ u ∈ l,okV k u):okV k v ∧ isCell v = true:=by
  simp only [Ev.part,tabOf,Option.bind_eq_bind,Option.bind_eq_some_iff] at h
  obtain ⟨d,hd,h⟩:=h
  split at h
  · obtain ⟨m,hm,h⟩:=Option.bind_eq_some_iff.1 h
    cases hb:(Nat.beq off 0 && Nat.beq m N) with
    | true=>simp only [hb,cond_true,Option.some.injEq] at h; subst h; exact ⟨fE.2 ⟨hN,h1,hk⟩,rfl⟩
    | false =>
      simp only [hb,cond_false] at h
      cases hc:Nat.ble (off + m) N with
      | true=>simp only [hc,cond_true,Option.some.injEq] at h; subst h; exact ⟨fE.2 ⟨rW hN hc,fun u hu=>h1 u (mH hu),fun u hu=>hk u (mH hu)⟩,rfl⟩
      | false=>simp [hc] at h
  · have hm:=aE0 h
    exact ⟨hk v hm,by have:=h1 v hm; cases v <;> first | exact this | rfl⟩
theorem oK (f:AV → Value) (l:List AV) (off m:Nat):(takeR (dropR l off) m).map f = ((l.map f).drop off).take m:=by
  rw [oB,nM,List.map_take,List.map_drop]
theorem wG {t N off b base:Nat} {l:List AV} {v:AV} (h:Ev.part (tabOf P) t N l off = some v) (hN:l.length = N) (hc:Cells w b base (l.map I.g)):(loadVar t ⟨b,base + off,none⟩).run P w = .ok (I.g v) w:=by
  simp only [Ev.part,tabOf,Option.bind_eq_bind,Option.bind_eq_some_iff] at h
  obtain ⟨d,hd,h⟩:=h
  have ha:=pT hd w
  split at h
  · rename_i hag
    obtain ⟨m,hm,h⟩:=Option.bind_eq_some_iff.1 h
    have hs:=eV hm w
    cases hb:(Nat.beq off 0 && Nat.beq m N) with
    | true =>
      simp only [hb,cond_true,Option.some.injEq] at h; subst h
      simp only [Bool.and_eq_true,Nat.beq_eq] at hb
      obtain ⟨rfl,rfl⟩:=hb
      have:=Fw.run_loadCells (P:=P) w b base (l.map I.g) hc
      simp only [List.length_map,hN] at this
      simp [loadVar,ha,hag,hs,this,gam,eM]
    | false =>
      simp only [hb,cond_false] at h
      cases hx:Nat.ble (off + m) N with
      | true =>
        simp only [hx,cond_true,Option.some.injEq] at h; subst h
        have hle:=Nat.le_of_ble_eq_true hx
        have hc':Cells w b (base + off) ((takeR (dropR l off) m).map I.g):=hc.sub off m (by rw [oK]; rfl)
        have:=Fw.run_loadCells (P:=P) w b (base + off) _ hc'
        simp only [List.length_map,rW hN hx] at this
        simp [loadVar,ha,hag,hs,this,gam,eM]
      | false=>simp [hx] at h
  · rename_i hag
    rw [qH] at h
    have:=hc off (I.g v) (by rw [List.getElem?_map,h]; rfl)
    simp [loadVar,ha,hag,this]
theorem oQ {t N off:Nat} {l:List AV} {v:AV} (h:Ev.part (tabOf P) t N l off = some v) (hN:l.length = N):(Go.part t (l.map I.g).toArray off).run P w = .ok (I.g v) w:=by
  simp only [Ev.part,tabOf,Option.bind_eq_bind,Option.bind_eq_some_iff] at h
  obtain ⟨d,hd,h⟩:=h
  have ha:=pT hd w
  split at h
  · rename_i hag
    obtain ⟨m,hm,h⟩:=Option.bind_eq_some_iff.1 h
    have hs:=eV hm w
    cases hb:(Nat.beq off 0 && Nat.beq m N) with
    | true =>
      simp only [hb,cond_true,Option.some.injEq] at h; subst h
      simp only [Bool.and_eq_true,Nat.beq_eq] at hb
      obtain ⟨rfl,rfl⟩:=hb
      simp [Go.part,ha,hag,hs,gam,eM,List.extract]
      exact List.take_of_length_le (by simp [hN])
    | false =>
      simp only [hb,cond_false] at h
      cases hx:Nat.ble (off + m) N with
      | true =>
        simp only [hx,cond_true,Option.some.injEq] at h; subst h
        simp [Go.part,ha,hag,hs,gam,eM,oK,List.extract]
      | false=>simp [hx] at h
  · rename_i hag
    rw [qH] at h
    simp [Go.part,ha,hag,h]
theorem ownBlk {lo e z m:Nat} {s:SV} {xs:List Value} (h:w.ownsRow lo e z s.v m xs):Cells w s.blk 0 xs:=by
  rcases h.2 with ⟨h1,h2⟩ | ⟨q,cap,cur,h1,h3,h4,h5,h6,h7,h8⟩
  · have:xs = []:=List.eq_nil_of_length_eq_zero (by rw [h.1,h2,Nat.zero_mul])
    subst this; intro j v hv; simp at hv
  · obtain ⟨sa,sl,sc⟩:=s
    cases h1
    intro j v hv
    rw [← h8,List.getElem?_take] at hv
    split at hv
    · simp only [Nat.zero_add,SV.blk,World.cell?,h4]; simpa using hv
    · cases hv
theorem GK.cellsP (h:GK I env lo k w g) {m N T:Nat} {l:List AV} (hg:g m = some (.pt N l T)):Cells w (I.sv m).blk 0 (l.map I.g):=lS (n:=(l.map I.g).length) (h.holds m _ hg) (aY rfl)
theorem GK.cellsF (h:GK I env lo k w g) {m N T:Nat} {l:List AV} (hg:g m = some (.fz N l T)):Cells w (I.sv m).blk 0 (l.map I.g):=lS (n:=(l.map I.g).length) (h.holds m _ hg) (aY rfl)
theorem GK.cellsR (h:GK I env lo k w g) {m e z c:Nat} {l:List AV} (hg:g m = some (.row e z c l)):Cells w (I.sv m).blk 0 (l.map I.g):=ownBlk (h.holds m _ hg)
end
end Go.Ev
end
section
namespace Go.Ev
open Go.Fw
structure SlU (w:World) (s:SV) (ln z:Nat) (xs:List Value):Prop where
  len:s.len = ln
  room:s.len ≤ s.cap
  n:xs.length = ln * z
  cells:match s.a with
    | none=>ln = 0 ∧ s.cap = 0
    | some ad=>ad.spot = none ∧ Cells w ad.block ad.off xs
theorem SlU.cut {w:World} {s:SV} {len z i j:Nat} {xs:List Value} (h:SlU w s len z xs) (hij:i ≤ j) (hj:j ≤ len):SlU w (s.cut i j z) (j - i) z ((xs.drop (i * z)).take ((j - i) * z)):=by
  have hl:=h.len
  have hr:=h.room
  have hc:=h.cells
  have hn:=h.n
  have e1:i * z + (j - i) * z ≤ len * z:=by rw [← Nat.add_mul]; exact Nat.mul_le_mul_right _ (by omega)
  refine ⟨rfl,by simp only [SV.cut]; omega,by simp; omega,?_⟩
  obtain ⟨sa,sl,sc⟩:=s
  simp only at hl hr
  subst hl
  by_cases h0:sc - i = 0
  · simp only [SV.cut,if_pos h0]
    have hd:(xs.drop (i * z)).take ((j - i) * z) = []:=by rw [show j - i = 0 by omega]; simp
    cases sa with
    | none=>exact ⟨by omega,h0⟩
    | some ad=>exact ⟨hc.1,by rw [hd]; intro k v hv; simp at hv⟩
  · simp only [SV.cut,if_neg h0]
    cases sa with
    | none=>exact ⟨by simp at hc; omega,by simp at hc; omega⟩
    | some ad =>
      obtain ⟨b,off,sp⟩:=ad
      obtain ⟨h1,h2⟩:=hc
      simp only at h1; subst h1
      simp only [Option.map_some,eB]
      exact ⟨trivial,h2.sub (i * z) ((j - i) * z) rfl⟩
theorem aC6 {w:World} {z:Nat}:∀ (cuts:List (Nat × Nat × Nat)) {s:SV} {len r:Nat} {l:List AV} {ρ:Nat → SV},cutLen z len cuts = some r → SlU w s len z (l.map (gam ρ)) →
    SlU w (cuts.foldl (fun s c=>s.cut c.1 c.2.1 c.2.2) s) r z ((cutCells cuts l).map (gam ρ)) ∧ (∀ v ∈ cutCells cuts l,v ∈ l):=by
  intro cuts
  induction cuts with
  | nil=>intro s len r l ρ h hs; simp only [cutLen,Option.some.injEq] at h; subst h; exact ⟨hs,fun v hv=>hv⟩
  | cons c cuts ih =>
    intro s len r l ρ h hs
    obtain ⟨i,j,z'⟩:=c
    simp only [cutLen] at h
    split at h
    · rename_i hc
      obtain ⟨h1,h2,rfl⟩:=hc
      have hs':=hs.cut h1 h2
      rw [← oK] at hs'
      obtain ⟨h3,h4⟩:=ih h hs'
      exact ⟨h3,fun v hv=>mH (h4 v hv)⟩
    · cases h
theorem aEi {z b:Nat}:∀ (cuts:List (Nat × Nat × Nat)) {s:SV} {len r off:Nat},cutLen z len cuts = some r → 0 < r → s.a = some ⟨b,off,none⟩ → len ≤ s.cap →
    ((cuts.foldl (fun s c=>s.cut c.1 c.2.1 c.2.2) s)).a = some ⟨b,off + startOf cuts * z,none⟩:=by
  intro cuts
  induction cuts with
  | nil=>intro s len r off _ _ h _; simpa [startOf] using h
  | cons c cuts ih =>
    intro s len r off h hr hs hc
    obtain ⟨i,j,z'⟩:=c
    simp only [cutLen] at h
    split at h
    · rename_i hq
      obtain ⟨h1,h2,rfl⟩:=hq
      have mono:∀ (q:List (Nat × Nat × Nat)) (l:Nat),cutLen z' l q = some r → r ≤ l:=by
        intro q
        induction q with
        | nil=>intro l h; simp [cutLen] at h; omega
        | cons c q ih =>
          intro l h
          obtain ⟨i,j,z⟩:=c
          simp only [cutLen] at h
          split at h
          · have:=ih _ h; omega
          · cases h
      have hm:=mono _ _ h
      have h0:¬ s.cap - i = 0:=by omega
      have:=ih (s:=s.cut i j z') h hr (off:=off + i * z') (by simp [SV.cut,h0,hs,eB]) (by simp only [SV.cut]; omega)
      simp only [List.foldl_cons,this,startOf,Nat.add_mul,Nat.add_assoc]
    · cases h
section
variable {I:Ip} {env:Env} {lo k n:Nat} {w:World} {g:Look} {F:Fm} {a:Act} {dd:List Deferred} {P:Program}
theorem aHx {lo e z m:Nat} {s:SV} {xs:List Value} (h:w.ownsRow lo e z s.v m xs):SlU w s m z xs:=by
  rcases h.2 with ⟨h1,h2⟩ | ⟨q,cap,cur,h1,h3,h4,h5,h6,h7,h8⟩
  · obtain ⟨sa,sl,sc⟩:=s
    cases h1
    exact ⟨h2.symm,Nat.le_refl _,h.1,h2,rfl⟩
  · have hc:=ownBlk h
    obtain ⟨sa,sl,sc⟩:=s
    cases h1
    exact ⟨rfl,h5,h.1,rfl,hc⟩
theorem jR (hg:GK I env lo k w g) {z:Nat} {v:AV} {q:Nat × List AV} (h:sliceOf g z v = some q):∃ s:SV,I.g v = s.v ∧ SlU w s q.1 z (q.2.map I.g) ∧ (∀ u ∈ q.2,oneA u = true) ∧ ∀ u ∈ q.2,okV k u:=by
  cases v <;> simp only [sliceOf] at h <;> try (cases h; done)
  case nsl=>cases h; exact ⟨SV.nil,rfl,⟨rfl,Nat.le_refl _,by simp,rfl,rfl⟩,by simp,by simp⟩
  case sl m off len cap =>
    have fin:∀ {N:Nat} {l:List AV},l.length = N → (∀ u ∈ l,oneA u = true) → (∀ u ∈ l,okV k u) → Cells w (I.sv m).blk 0 (l.map I.g) → off + len * z ≤ N ∧ len ≤ cap →
        q = (len,bif Nat.beq off 0 && Nat.beq N (len * z) then l else takeR (dropR l off) (len * z)) →
        ∃ s:SV,I.g (.sl m off len cap) = s.v ∧ SlU w s q.1 z (q.2.map I.g) ∧ (∀ u ∈ q.2,oneA u = true) ∧ ∀ u ∈ q.2,okV k u:=by
      intro N l h1 h2 h3 hc hle e
      subst e
      refine ⟨⟨some ⟨(I.sv m).blk,off,none⟩,len,cap⟩,rfl,?_,?_⟩
      · cases hb:(Nat.beq off 0 && Nat.beq N (len * z)) with
        | true =>
          simp only [Bool.and_eq_true,Nat.beq_eq] at hb
          obtain ⟨rfl,rfl⟩:=hb
          simp only [cond_true]
          exact ⟨rfl,hle.2,by simp [h1],rfl,hc⟩
        | false =>
          simp only [cond_false]
          refine ⟨rfl,hle.2,by rw [List.length_map]; exact rW h1 (by rw [Nat.ble_eq]; exact hle.1),rfl,?_⟩
          have:=hc.sub off (len * z) (us:=(takeR (dropR l off) (len * z)).map I.g) (by rw [oK]; rfl)
          simpa using this
      · cases hb:(Nat.beq off 0 && Nat.beq N (len * z)) with
        | true=>exact ⟨h2,h3⟩
        | false=>exact ⟨fun u hu=>h2 u (mH hu),fun u hu=>h3 u (mH hu)⟩
    cases ho:g m with
    | none=>simp [ho] at h
    | some o =>
      cases o <;> simp only [ho] at h <;> try (cases h; done)
      case pt N l T =>
        split at h
        · rename_i hle
          obtain ⟨⟨h1,h2,h3⟩,h4⟩:=hg.ok m _ ho
          exact fin h1 h2 h3 (hg.cellsP ho) hle (Option.some.inj h).symm
        · cases h
      case fz N l T =>
        split at h
        · rename_i hle
          obtain ⟨⟨h1,h2,h3⟩,h4⟩:=hg.ok m _ ho
          exact fin h1 h2 h3 (hg.cellsF ho) hle (Option.some.inj h).symm
        · cases h
  case row m cuts =>
    cases ho:g m with
    | none=>simp [ho] at h
    | some o =>
      cases o <;> simp only [ho] at h <;> try (cases h; done)
      rename_i e z' c l
      split at h
      · rename_i hz
        subst hz
        simp only [Option.bind_eq_bind,Option.bind_eq_some_iff,Option.some.injEq] at h
        obtain ⟨len,hl,rfl⟩:=h
        obtain ⟨⟨h1,h0,h2,h3⟩,h4⟩:=hg.ok m _ ho
        have ho':w.ownsRow lo e z' (I.sv m).v c (l.map I.g):=hg.holds m _ ho
        obtain ⟨h5,h6⟩:=aC6 cuts hl (aHx ho')
        exact ⟨_,rfl,h5,fun u hu=>h2 u (h6 u hu),fun u hu=>h3 u (h6 u hu)⟩
      · cases h
theorem aF4 (hg:GK I env lo k w g) {z m i:Nat} {cuts:List (Nat × Nat × Nat)} {q:Nat × List AV} (h:sliceOf g z (.row m cuts) = some q) (hi:i < q.1) :
    ∃ cap,I.g (.row m cuts) = .slice (some ⟨(I.sv m).blk,startOf cuts * z,none⟩) q.1 cap:=by
  obtain ⟨s,hs,hsl,_⟩:=jR hg h
  simp only [sliceOf] at h
  cases ho:g m with
  | none=>simp [ho] at h
  | some o =>
    cases o <;> simp only [ho] at h <;> try (cases h; done)
    rename_i e z' c l
    split at h
    · rename_i hz
      subst hz
      simp only [Option.bind_eq_bind,Option.bind_eq_some_iff,Option.some.injEq] at h
      obtain ⟨len,hl,rfl⟩:=h
      have ho':w.ownsRow lo e z' (I.sv m).v c (l.map I.g):=hg.holds m _ ho
      have hpos:0 < len:=by simp only at hi; omega
      have hc:0 < c:=by
        have mono:∀ (q:List (Nat × Nat × Nat)) (l:Nat),cutLen z' l q = some len → len ≤ l:=by
          intro q
          induction q with
          | nil=>intro l h; simp [cutLen] at h; omega
          | cons c q ih =>
            intro l h
            obtain ⟨i,j,z⟩:=c
            simp only [cutLen] at h
            split at h
            · have:=ih _ h; omega
            · cases h
        have:=mono _ _ hl; omega
      rcases ho'.2 with ⟨h1,h2⟩ | ⟨b,cap,cur,h1,h3,h4,h5,_⟩
      · omega
      · have hsv:I.sv m = ⟨some ⟨b,0,none⟩,c,cap⟩:=by
          cases hx:I.sv m; rw [hx] at h1; cases h1; rfl
        have ha:=aEi cuts (s:=I.sv m) (b:=b) (off:=0) hl hpos (by rw [hsv]) (by rw [hsv]; exact h5)
        have hl':=hsl.len
        have hb:(I.sv m).blk = b:=by rw [hsv]; rfl
        refine ⟨s.cap,?_⟩
        have hs2:s = cuts.foldl (fun s c=>s.cut c.1 c.2.1 c.2.2) (I.sv m):=by
          have:s.v = (cuts.foldl (fun s c=>s.cut c.1 c.2.1 c.2.2) (I.sv m)).v:=hs.symm.trans rfl
          obtain ⟨x,y,z⟩:=s
          generalize (cuts.foldl (fun s c=>s.cut c.1 c.2.1 c.2.2) (I.sv m)) = t at this
          obtain ⟨x',y',z'⟩:=t
          cases this; rfl
        rw [hs,hb]
        have ha':s.a = some ⟨b,0 + startOf cuts * z',none⟩:=by rw [hs2]; exact ha
        obtain ⟨x,y,zz⟩:=s
        simp only at ha' hl'
        subst ha' hl'
        simp
    · cases h
abbrev Good (P:Program) (I:Ip) (k:Nat) (w:World) (a:Act) (o:Oper) (v:AV):Prop:=(execOp a.eval o).run P w = .ok (.value (I.g v)) w ∧ okV k v
theorem aJq (hF:FR I k n F a dd) {o:Oper} {x:Operand} {v:AV} (ho:o.op = .move x) (h:aget F x = some v):Good P I k w a o v:=by
  obtain ⟨h1,h2⟩:=hF.eval h
  exact ⟨by simp [execOp,ho,h1],h2⟩
theorem aGh (hF:FR I k n F a dd) {o:Oper} {x:Operand} {v:AV} (ho:o.op = .assign x) (h:aget F x = some v):Good P I k w a o v:=by
  obtain ⟨h1,h2⟩:=hF.eval h
  exact ⟨by simp [execOp,ho,h1],h2⟩
theorem aJr (hF:FR I k n F a dd) {o:Oper} {c x y:Operand} {v:AV} (ho:o.op = .pick c x y) (h:aval (tabOf P) g F o.op = some v):Good P I k w a o v:=by
  rw [ho] at h
  simp only [aval,Option.bind_eq_bind,Option.bind_eq_some_iff] at h
  obtain ⟨u,hu,h⟩:=h
  obtain ⟨h1,h2⟩:=hF.eval hu
  cases u <;> simp only at h <;> try (cases h; done)
  rename_i b
  cases b
  · simp only [Bool.false_eq_true,if_false] at h
    obtain ⟨h3,h4⟩:=hF.eval h
    exact ⟨by simp [execOp,ho,h1,gam,asBool,h3],h4⟩
  · simp only [if_true] at h
    obtain ⟨h3,h4⟩:=hF.eval h
    exact ⟨by simp [execOp,ho,h1,gam,asBool,h3],h4⟩
theorem aJs (hF:FR I k n F a dd) {o:Oper} {q:UnOp} {t:Nat} {x:Operand} {v:AV} (ho:o.op = .unOp q t x) (h:aval (tabOf P) g F o.op = some v):Good P I k w a o v:=by
  rw [ho] at h
  simp only [aval,Option.bind_eq_bind,Option.bind_eq_some_iff] at h
  obtain ⟨u,hu,h⟩:=h
  obtain ⟨h1,h2⟩:=hF.eval hu
  cases q <;> cases u <;> simp only at h <;> try (cases h; done)
  · cases h; exact ⟨by simp [execOp,ho,h1,gam,Op.unary,Op.intArith],trivial⟩
  · cases h; exact ⟨by simp [execOp,ho,h1,gam,Op.unary],trivial⟩
theorem aD3 (hF:FR I k n F a dd) {o:Oper} {i:Nat} {x:Operand} {v:AV} (ho:o.op = .extract x i) (h:aval (tabOf P) g F o.op = some v):Good P I k w a o v:=by
  rw [ho] at h
  simp only [aval,Option.bind_eq_bind,Option.bind_eq_some_iff] at h
  obtain ⟨u,hu,h⟩:=h
  obtain ⟨h1,h2⟩:=hF.eval hu
  cases u <;> simp only at h <;> try (cases h; done)
  rename_i l
  rw [qH] at h
  refine ⟨?_,kB.1 h2 v (List.mem_of_getElem? h)⟩
  simp [execOp,ho,h1,gam,eM,Instr.extract,h]
theorem aBy (hF:FR I k n F a dd) {o:Oper} {x:Operand} {v:AV} (ho:o.op = .nilCheck x) (h:aval (tabOf P) g F o.op = some v):Good P I k w a o v:=by
  rw [ho] at h
  simp only [aval,Option.bind_eq_bind,Option.bind_eq_some_iff] at h
  obtain ⟨u,hu,h⟩:=h
  obtain ⟨h1,h2⟩:=hF.eval hu
  cases u <;> simp only at h <;> try (cases h; done)
  · cases h; exact ⟨by simp [execOp,ho,h1,gam],h2⟩
  · cases h; exact ⟨by simp [execOp,ho,h1,gam],h2⟩
theorem aBx (hF:FR I k n F a dd) {o:Oper} {q:Fn} {fs cs:Array Operand} {v:AV} (ho:o.op = .makeFunc q fs cs) (h:aval (tabOf P) g F o.op = some v):Good P I k w a o v:=by
  rw [ho] at h
  cases q <;> simp only [aval] at h <;> try (cases h; done)
  simp only [Option.bind_eq_bind,Option.bind_eq_some_iff,Option.some.injEq] at h
  obtain ⟨x,hx,y,hy,rfl⟩:=h
  obtain ⟨h1,h2⟩:=hF.evals hx
  obtain ⟨h3,h4⟩:=hF.evals hy
  refine ⟨?_,by simp only [okV,kB]; exact ⟨h2,h4⟩⟩
  have e1:fs.map a.eval = (x.map I.g).toArray:=by rw [← h1,← List.map_toArray,Array.toArray_toList]
  have e2:cs.map a.eval = (y.map I.g).toArray:=by rw [← h3,← List.map_toArray,Array.toArray_toList]
  simp [execOp,ho,Instr.makeFunc,e1,e2,gam,eM]
theorem aJp (hg:GK I env lo k w g) (hF:FR I k n F a dd) {o:Oper} {t:Nat} {x:Operand} {v:AV} (ho:o.op = .load t x) (h:aval (tabOf P) g F o.op = some v):Good P I k w a o v:=by
  rw [ho] at h
  simp only [aval,Option.bind_eq_bind,Option.bind_eq_some_iff] at h
  obtain ⟨u,hu,h⟩:=h
  obtain ⟨h1,h2⟩:=hF.eval hu
  cases u <;> simp only at h <;> try (cases h; done)
  rename_i m off
  have fin:∀ {N:Nat} {l:List AV},Ev.part (tabOf P) t N l off = some v → l.length = N → (∀ u ∈ l,oneA u = true) → (∀ u ∈ l,okV k u) → Cells w (I.sv m).blk 0 (l.map I.g) → Good P I k w a o v:=by
    intro N l hp hN h3 h4 hc
    have:=wG (P:=P) hp hN hc
    rw [Nat.zero_add] at this
    refine ⟨?_,(oP hp hN h3 h4).1⟩
    simp [execOp,ho,h1,gam,Instr.loadAt,Instr.sureAddr,this]
  cases hq:g m with
  | none=>simp [hq] at h
  | some ob =>
    cases ob <;> simp only [hq] at h <;> try (cases h; done)
    · obtain ⟨⟨q1,q2,q3⟩,_⟩:=hg.ok m _ hq
      exact fin h q1 q2 q3 (hg.cellsP hq)
    · obtain ⟨⟨q1,_,q2,q3⟩,_⟩:=hg.ok m _ hq
      exact fin h q1 q2 q3 (hg.cellsR hq)
theorem aAk (hF:FR I k n F a dd) {o:Oper} {t f:Nat} {x:Operand} {v:AV} (ho:o.op = .fieldAddr t x f) (h:aval (tabOf P) g F o.op = some v):Good P I k w a o v:=by
  rw [ho] at h
  simp only [aval,tabOf,Option.bind_eq_bind,Option.bind_eq_some_iff] at h
  obtain ⟨d,hd,u,hu,h⟩:=h
  obtain ⟨h1,h2⟩:=hF.eval hu
  cases d <;> cases u <;> simp only at h <;> try (cases h; done)
  rename_i fs m off
  obtain ⟨fl,hf,h⟩:=Option.bind_eq_some_iff.1 h
  obtain ⟨z,hz,h⟩:=Option.bind_eq_some_iff.1 h
  split at h
  · cases h
  · rename_i hz0
    cases h
    obtain ⟨i,hi,rfl⟩:=Option.map_eq_some_iff.1 hz
    refine ⟨?_,h2⟩
    simp [execOp,ho,h1,gam,Instr.fieldAt,run_underlying hd,hf,Instr.sureAddr,fieldPlace,sizeOf,typeInfo,hi,hz0,eB]
theorem aIh (hF:FR I k n F a dd) {o:Oper} {t f:Nat} {x:Operand} {v:AV} (ho:o.op = .field t x f) (h:aval (tabOf P) g F o.op = some v):Good P I k w a o v:=by
  rw [ho] at h
  simp only [aval,Option.bind_eq_bind,Option.bind_eq_some_iff] at h
  obtain ⟨d,hd,u,hu,h⟩:=h
  obtain ⟨h1,h2⟩:=hF.eval hu
  cases d <;> cases u <;> simp only at h <;> try (cases h; done)
  rename_i fs m l
  obtain ⟨fl,hf,h⟩:=Option.bind_eq_some_iff.1 h
  obtain ⟨q1,q2,q3⟩:=fE.1 h2
  refine ⟨?_,(oP h q1 q2 q3).1⟩
  have:=oQ (P:=P) (w:=w) (I:=I) h q1
  simp [execOp,ho,h1,gam,eM,Instr.field,run_underlying (P:=P) (show P.underlying t = _ from hd),hf,asAgg,this]
end
end Go.Ev
end
section
namespace Go.Ev
open Go.Fw
section
variable {I:Ip} {env:Env} {lo k n:Nat} {w:World} {g:Look} {F:Fm} {a:Act} {dd:List Deferred} {P:Program}
theorem tJ {v:AV} {i:Nat} (h:asNat v = some i):∃ q,I.g v = .int q (i:Int):=by
  cases v <;> simp only [asNat] at h <;> try (cases h; done)
  rename_i q m
  split at h
  · cases h; exact ⟨q,by simp only [gam,Ip.g]; congr 1; omega⟩
  · cases h
theorem aAl (hg:GK I env lo k w g) (hF:FR I k n F a dd) {o:Oper} {t:Nat} {x y:Operand} {v:AV} (ho:o.op = .indexAddr t x y) (h:aval (tabOf P) g F o.op = some v):Good P I k w a o v:=by
  rw [ho] at h
  simp only [aval,Option.bind_eq_bind,Option.bind_eq_some_iff] at h
  obtain ⟨u,hu,i,hi,d,(hd:P.underlying t = some d),ux,hx,h⟩:=h
  obtain ⟨h1,h2⟩:=hF.eval hu
  obtain ⟨h3,h4⟩:=hF.eval hx
  obtain ⟨q,hq⟩:=tJ (I:=I) hi
  have fin:∀ {base ln e z:Nat} {ad:Addr} {off':Nat},P.underlying t = some (.slice e) → (P.info? e).map (·.size) = some z → (∃ cap,I.g ux = .slice (some ad) ln cap) → i < ln → ad.add (i * z) = ⟨(I.sv base).blk,off',none⟩ → base < k →
      Good P I k w a o (.p base off'):=by
    intro base ln e z ad off' hd hz ⟨cap,hs⟩ hlt had hb
    refine ⟨?_,hb⟩
    have hz':=eV (P:=P) hz w
    have hlt':(0:Int) ≤ (i:Int) ∧ (i:Int) < (ln:Int):=by omega
    simp [execOp,ho,h1,h3,hq,hs,Instr.indexAt,asIntOf,run_underlying hd,hlt,hz',had,gam]
  cases d <;> cases ux <;> simp only at h <;> try (cases h; done)
  case array.p len e m off =>
    obtain ⟨z,hz,h⟩:=Option.bind_eq_some_iff.1 h
    split at h
    · rename_i hlt
      cases h
      refine ⟨?_,h4⟩
      have hz':=eV (P:=P) hz w
      have hlt':(0:Int) ≤ (i:Int) ∧ (i:Int) < (len:Int):=by omega
      simp [execOp,ho,h1,h3,hq,gam,Instr.indexAt,asIntOf,run_underlying hd,Instr.sureAddr,hlt,hz',eB]
    · cases h
  case slice.sl e m off len cap =>
    obtain ⟨z,hz,h⟩:=Option.bind_eq_some_iff.1 h
    split at h
    · rename_i hlt
      cases h
      exact fin (ad:=⟨(I.sv m).blk,off,none⟩) hd hz ⟨cap,rfl⟩ hlt (eB _ _ _) h4
    · cases h
  case slice.row e m cuts =>
    obtain ⟨z,hz,h⟩:=Option.bind_eq_some_iff.1 h
    obtain ⟨l,hl,h⟩:=Option.bind_eq_some_iff.1 h
    split at h
    · rename_i hlt
      cases h
      exact fin (ad:=⟨(I.sv m).blk,startOf cuts * z,none⟩) hd hz (aF4 hg hl hlt) hlt (by rw [eB,Nat.add_mul]) h4
    · cases h
theorem aIi (hF:FR I k n F a dd) {o:Oper} {t:Nat} {x y:Operand} {v:AV} (ho:o.op = .index t x y) (h:aval (tabOf P) g F o.op = some v):Good P I k w a o v:=by
  rw [ho] at h
  simp only [aval,Option.bind_eq_bind,Option.bind_eq_some_iff] at h
  obtain ⟨u,hu,i,hi,d,(hd:P.underlying t = some d),ux,hx,h⟩:=h
  obtain ⟨h1,h2⟩:=hF.eval hu
  obtain ⟨h3,h4⟩:=hF.eval hx
  obtain ⟨q,hq⟩:=tJ (I:=I) hi
  cases d <;> cases ux <;> simp only at h <;> try (cases h; done)
  case string.s l =>
    obtain ⟨b,hb,h⟩:=Option.bind_eq_some_iff.1 h
    cases h
    refine ⟨?_,trivial⟩
    have:(⟨l.toArray⟩ : ByteArray)[i]? = some b:=by
      have:=List.getElem?_eq_some_iff.1 hb
      obtain ⟨hlt,hb⟩:=this
      rw [getElem?_pos (⟨l.toArray⟩ : ByteArray) i (by show i < l.toArray.size; simpa using hlt)]
      exact congrArg some hb
    simp [execOp,ho,h1,h3,hq,gam,Instr.index,asIntOf,run_underlying hd,this]
  case array.agg len e m l =>
    obtain ⟨z,hz,h⟩:=Option.bind_eq_some_iff.1 h
    split at h
    · rename_i hlt
      obtain ⟨q1,q2,q3⟩:=fE.1 h4
      refine ⟨?_,(oP h q1 q2 q3).1⟩
      have hz':=eV (P:=P) hz w
      have hlt':(0:Int) ≤ (i:Int) ∧ (i:Int) < (len:Int):=by omega
      have hp:=oQ (P:=P) (w:=w) (I:=I) h q1
      simp [execOp,ho,h1,h3,hq,gam,eM,Instr.index,asIntOf,run_underlying hd,hlt,hz',hp]
    · cases h
theorem aHr {l:List AV} {r:List UInt8} (h:(l.mapM fun c=>match c with | .i .u8 n=>if 0 ≤ n ∧ n < 256 then some (UInt8.ofNat n.toNat) else none | _=>none) = some r):l = r.map fun b=>AV.i .u8 (b.toNat:Int):=by
  induction l generalizing r with
  | nil=>simp at h; subst h; rfl
  | cons x l ih =>
    simp only [List.mapM_cons,Option.pure_def,Option.bind_eq_bind,Option.bind_eq_some_iff] at h
    obtain ⟨u,hu,us,hus,h⟩:=h
    cases h
    have h1:=ih hus
    cases x <;> (try simp only at hu) <;> try (cases hu; done)
    rename_i q m
    cases q <;> (try simp only at hu) <;> try (cases hu; done)
    split at hu
    · rename_i hm
      cases hu
      have:((UInt8.ofNat m.toNat).toNat:Int) = m:=by rw [UInt8.toNat_ofNat']; omega
      rw [h1,List.map_cons,this]
    · cases hu
theorem uX {s:SV} {t t' e:Nat} {r:List UInt8} (hs:SlU w s r.length 1 (r.map fun b=>Value.int .u8 (b.toNat:Int))) (h1:P.underlying t = some (.slice e)) (h2:P.underlying e = some (.int .u8)) (h3:P.underlying t' = some .string) :
    (convert t t' s.v).run P w = .ok (.string ⟨r.toArray⟩) w:=by
  have hl:=hs.len
  have hc:=hs.cells
  obtain ⟨sa,sl,sc⟩:=s
  simp only at hl; subst hl
  cases sa with
  | none =>
    have:r = []:=List.eq_nil_of_length_eq_zero hc.1
    subst this
    rw [show SV.v ⟨none,([]:List UInt8).length,sc⟩ = .slice none 0 sc from rfl,run_convert_bytes_string w t t' e none 0 sc h1 h2 h3]
    simp [Conv.bytesToString]
    rfl
  | some ad =>
    obtain ⟨b,off,sp⟩:=ad
    obtain ⟨h4,h5⟩:=hc
    simp only at h4; subst h4
    refine run_convert_bytes_back (P:=P) w t t' e ⟨b,off,none⟩ sc r h1 h2 h3 fun j hj=>?_
    rw [eB]
    exact h5 j _ (by simp [hj])
theorem aD2 (hg:GK I env lo k w g) (hF:FR I k n F a dd) {o:Oper} {t t':Nat} {x:Operand} {v:AV} (ho:o.op = .convert t t' x) (h:aval (tabOf P) g F o.op = some v):Good P I k w a o v:=by
  rw [ho] at h
  simp only [aval,Option.bind_eq_bind,Option.bind_eq_some_iff] at h
  obtain ⟨d,(hd:P.underlying t = some d),d',(hd':P.underlying t' = some d'),u,hu,h⟩:=h
  obtain ⟨h1,h2⟩:=hF.eval hu
  have hint:∀ {q q':IntKind} {m:Int},d' = .int q → u = .i q' m → v = .i q (q.wrap m) → Good P I k w a o v:=by
    intro q q' m e1 e2 e3
    subst e1 e2 e3
    refine ⟨?_,trivial⟩
    simp [execOp,ho,h1,gam,convert,run_underlying hd,run_underlying hd',Conv.intToInt]
  have hstr:∀ {e:Nat},d = .slice e → d' = .string → ((tabOf P).und e).bind (fun d=>match d with
      | .int .u8=>(sliceOf g 1 u).bind fun l=>(l.2.mapM fun (c:AV)=>match c with | .i .u8 n=>if 0 ≤ n ∧ n < 256 then some (UInt8.ofNat n.toNat) else none | _=>none).bind fun r=>some (AV.s r)
      | _=>none) = some v → Good P I k w a o v:=by
    intro e e1 e2 hh
    subst e1 e2
    obtain ⟨de,(hde:P.underlying e = some de),hh⟩:=Option.bind_eq_some_iff.1 hh
    split at hh
    · obtain ⟨l,hl,hh⟩:=Option.bind_eq_some_iff.1 hh
      obtain ⟨r,hr,hh⟩:=Option.bind_eq_some_iff.1 hh
      cases hh
      obtain ⟨s,hs,hsl,_⟩:=jR hg hl
      have hn1:=aHr hr
      refine ⟨?_,trivial⟩
      rw [hn1] at hsl
      have e3:l.1 = r.length:=by have:=hsl.n; simp at this; omega
      rw [e3,List.map_map] at hsl
      have e5:=uX (P:=P) (t:=t) (t':=t') (e:=e) (w:=w) (s:=s) (r:=r) hsl hd hde hd'
      rw [← hs] at e5
      simp only [execOp,ho,h1,Sem.run_bind,e5,Result.andThen_ok,Sem.run_pure]
      rfl
    · cases hh
  split at h
  · exact hint rfl rfl (Option.some.inj h).symm
  · exact hstr rfl rfl h
  · cases h
end
end Go.Ev
end
section
namespace Go.Ev
open Go.Fw
section
variable {I:Ip} {env:Env} {lo k n:Nat} {w:World} {g:Look} {F:Fm} {a:Act} {dd:List Deferred} {P:Program}
theorem FR.parts (h:FR I k n F a dd) {xs:List (Nat × Operand)} {vs:List (Nat × AV)} (hx:aparts F xs = some vs):xs.map (fun p=>(p.1,a.eval p.2)) = vs.map (fun p=>(p.1,I.g p.2)) ∧ ∀ p ∈ vs,okV k p.2:=by
  induction xs generalizing vs with
  | nil=>simp [aparts] at hx; subst hx; simp
  | cons x xs ih =>
    obtain ⟨i,x⟩:=x
    simp only [aparts,Option.bind_eq_bind,Option.bind_eq_some_iff] at hx
    obtain ⟨v,hv,us,hus,hx⟩:=hx
    cases hx
    obtain ⟨h1,h2⟩:=h.eval hv
    obtain ⟨h3,h4⟩:=ih hus
    refine ⟨by simp [h1]; exact h3,?_⟩
    intro p hp
    rcases List.mem_cons.1 hp with rfl | hp
    · exact h2
    · exact h4 p hp
structure Row (k N:Nat) (l:List AV):Prop where
  n:l.length = N
  one:∀ u ∈ l,oneA u = true
  ok:∀ u ∈ l,okV k u
theorem oM {l vs:List AV} {off:Nat} {u:AV} (h:u ∈ put l off vs):u ∈ l ∨ u ∈ vs:=by
  simp only [put,List.mem_append] at h
  rcases h with (h | h) | h
  · exact .inl (List.mem_of_mem_take h)
  · exact .inr h
  · exact .inl (List.mem_of_mem_drop h)
theorem aCf {N off m:Nat} {l vs r:List AV} (h:putA N l off m vs = some r) (hl:Row k N l) (hv:vs.length = m) (h1:∀ u ∈ vs,oneA u = true) (h2:∀ u ∈ vs,okV k u):r = put l off vs ∧ Row k N r ∧ off + m ≤ N:=by
  unfold putA at h
  cases hb:(Nat.beq off 0 && Nat.beq N m) with
  | true =>
    simp only [hb,cond_true,Option.some.injEq] at h
    simp only [Bool.and_eq_true,Nat.beq_eq] at hb
    obtain ⟨rfl,rfl⟩:=hb
    subst h
    exact ⟨by have:=hl.n; simp [put]; omega,⟨hv,h1,h2⟩,by omega⟩
  | false =>
    simp only [hb,cond_false] at h
    cases hc:Nat.ble (off + m) N with
    | true =>
      simp only [hc,cond_true,Option.some.injEq] at h
      have hle:=Nat.le_of_ble_eq_true hc
      have hn:=hl.n
      rw [aHz l vs off (by omega)] at h
      subst h
      refine ⟨rfl,⟨by simp [put]; omega,fun u hu=>?_,fun u hu=>?_⟩,hle⟩
      · exact (oM hu).elim (hl.one u) (h1 u)
      · exact (oM hu).elim (hl.ok u) (h2 u)
    | false=>simp [hc] at h
theorem aCe (f:AV → Value) (l vs:List AV) (off:Nat):(put l off vs).map f = put (l.map f) off (vs.map f):=by
  simp [put,List.map_take,List.map_drop]
theorem tS {place:Nat → Option (Nat × Nat)} {N:Nat}:∀ (vs:List (Nat × AV)) {l r:List AV},fillA place N l vs = some r → Row k N l → (∀ p ∈ vs,okV k p.2) →
    Row k N r ∧ Instr.fill place (l.map I.g).toArray (vs.map fun p=>(p.1,I.g p.2)) = some (r.map I.g).toArray:=by
  intro vs
  induction vs with
  | nil=>intro l r h hl _; simp only [fillA,Option.some.injEq] at h; subst h; exact ⟨hl,rfl⟩
  | cons p vs ih =>
    intro l r h hl hk
    obtain ⟨i,v⟩:=p
    simp only [fillA,Option.bind_eq_bind,Option.bind_eq_some_iff] at h
    obtain ⟨⟨off,size⟩,hp,h⟩:=h
    simp only at h
    split at h
    · cases h
    · rename_i hc
      simp only [not_or,ne_eq,Decidable.not_not,Bool.not_eq_false] at hc
      obtain ⟨hc1,hc2⟩:=hc
      obtain ⟨l',hl',h⟩:=Option.bind_eq_some_iff.1 h
      have hv:=hk (i,v) (by simp)
      obtain ⟨q1,q2⟩:=tL hv hc2
      obtain ⟨e1,h3,hle⟩:=aCf hl' hl (by rw [tX hv,hc1]) q1 q2
      obtain ⟨h4,h5⟩:=ih h h3 (fun p hp=>hk p (by simp [hp]))
      refine ⟨h4,?_⟩
      have hlen:((cellsOf v).map I.g).length = size:=by rw [List.length_map,tX hv,hc1]
      have hf:=lW ((cellsOf v).map I.g) 0 off (l.map I.g) (by simp only [List.length_map,hl.n] at *; omega)
      simp only [Nat.add_zero] at hf
      simp only [List.map_cons,Instr.fill,hp]
      have hcells:(I.g v).cells = ((cellsOf v).map I.g).toArray:=gP I.sv v
      rw [hcells]
      simp only [List.size_toArray,hlen,ne_eq,not_true_eq_false,decide_false,Bool.false_or,decide_eq_true_eq,List.length_map,hl.n]
      rw [if_neg (by omega),← Array.foldl_toList,Array.toList_zipIdx]
      simp only [hf]
      rw [← aCe,← e1]
      exact h5
theorem sV {fs:Array Field} (h:∀ f ∈ fs,∃ z,(P.info? f.type).map (·.size) = some z):∃ pl:Array (Nat × Nat),(∀ w,(fs.mapM fun f=>do pure (f.offset,← sizeOf f.type):Sem (Array (Nat × Nat))).run P w = .ok pl w) ∧
    ∀ i:Nat,pl[i]? = (fs[i]?).bind fun (f:Field)=>((P.info? f.type).map (·.size)).map fun z=>(f.offset,z):=by
  obtain ⟨l⟩:=fs
  simp only [List.mem_toArray] at h
  have key:∀ l:List Field,(∀ f ∈ l,∃ z,(P.info? f.type).map (·.size) = some z) → ∃ pl:List (Nat × Nat),(∀ w,(l.mapM fun f=>do pure (f.offset,← sizeOf f.type):Sem (List (Nat × Nat))).run P w = .ok pl w) ∧
      ∀ i:Nat,pl[i]? = (l[i]?).bind fun (f:Field)=>((P.info? f.type).map (·.size)).map fun z=>(f.offset,z):=by
    intro l
    induction l with
    | nil=>intro _; exact ⟨[],fun w=>by simp,fun i=>by simp⟩
    | cons f l ih =>
      intro h
      obtain ⟨pl,h1,h2⟩:=ih (fun f hf=>h f (by simp [hf]))
      obtain ⟨z,hz⟩:=h f (by simp)
      refine ⟨(f.offset,z) :: pl,fun w=>?_,fun i=>?_⟩
      · simp only [List.mapM_cons,Sem.run_bind,eV hz,Result.andThen_ok,Sem.run_pure,h1]
      · cases i with
        | zero=>simp only [List.getElem?_cons_zero,Option.bind_some,hz,Option.map_some]
        | succ i=>simpa using h2 i
  obtain ⟨pl,h1,h2⟩:=key l h
  refine ⟨pl.toArray,fun w=>?_,fun i=>by simpa using h2 i⟩
  rw [List.mapM_toArray,Sem.run_map,h1 w]; rfl
theorem aIg (hF:FR I k n F a dd) {o:Oper} {t:Nat} {ps:Array (Nat × Operand)} {v:AV} (ho:o.op = .build t ps) (h:aval (tabOf P) g F o.op = some v):Good P I k w a o v:=by
  rw [ho] at h
  simp only [aval,Option.bind_eq_bind,Option.bind_eq_some_iff] at h
  obtain ⟨vs,hvs,d,(hd:P.underlying t = some d),z,hz,h⟩:=h
  obtain ⟨h1,h2⟩:=hF.parts hvs
  obtain ⟨hz1,hz2,hz3⟩:=jB (P:=P) hz I k w
  have hps:(ps.map fun (i,x)=>(i,a.eval x)).toList = vs.map fun p=>(p.1,I.g p.2):=by rw [← h1]; simp
  cases d <;> cases z <;> simp only at h <;> try (cases h; done)
  case struct.agg fs m l =>
    split at h
    · cases h
    · rename_i hall
      obtain ⟨r,hr,h⟩:=Option.bind_eq_some_iff.1 h
      cases h
      obtain ⟨q1,q2,q3⟩:=fE.1 hz2
      have hall':∀ f ∈ fs,∃ z,(P.info? f.type).map (·.size) = some z:=by
        intro f hf
        simp only [Bool.not_eq_true',Bool.not_eq_false,List.all_eq_true] at hall
        have:=hall f (by simpa using hf)
        exact Option.isSome_iff_exists.1 this
      obtain ⟨pl,hp1,hp2⟩:=sV hall'
      have hpl:(fun i:Nat=>(fs[i]?).bind fun (f:Field)=>((tabOf P).sz f.type).bind fun z=>some (f.offset,z)) = (pl[·]?):=by
        funext i
        rw [hp2 i]
        cases fs[i]? with
        | none=>rfl
        | some f =>
          simp only [Option.bind_some,tabOf]
          cases P.info? f.type <;> rfl
      obtain ⟨h3,h4⟩:=tS (I:=I) vs hr ⟨q1,q2,q3⟩ h2
      rw [hpl] at h4
      refine ⟨?_,fE.2 ⟨h3.n,h3.one,h3.ok⟩⟩
      have hzc:(I.g (.agg m l)).cells = (l.map I.g).toArray:=gP I.sv (.agg m l)
      simp only [execOp,ho,Instr.build,Sem.run_bind,hz1,Result.andThen_ok,hzc,run_underlying hd,hp1,hps,h4,Sem.run_pure]
      simp [gam,eM]
  case array.agg len e m l =>
    obtain ⟨sz,hsz,h⟩:=Option.bind_eq_some_iff.1 h
    obtain ⟨r,hr,h⟩:=Option.bind_eq_some_iff.1 h
    cases h
    obtain ⟨q1,q2,q3⟩:=fE.1 hz2
    obtain ⟨h3,h4⟩:=tS (I:=I) vs hr ⟨q1,q2,q3⟩ h2
    refine ⟨?_,fE.2 ⟨h3.n,h3.one,h3.ok⟩⟩
    have hzc:(I.g (.agg m l)).cells = (l.map I.g).toArray:=gP I.sv (.agg m l)
    have hs:=eV (P:=P) hsz
    simp only [execOp,ho,Instr.build,Sem.run_bind,hz1,Result.andThen_ok,hzc,run_underlying hd,hs,hps,h4,Sem.run_pure]
    simp [gam,eM]
theorem FR.evalO (h:FR I k n F a dd) {x:Option Operand} {v:Option AV} (hx:agetO F x = some v):x.map a.eval = v.map I.g:=by
  cases x with
  | none=>simp [agetO] at hx; subst hx; rfl
  | some x =>
    simp only [agetO,Option.map_eq_some_iff] at hx
    obtain ⟨u,hu,rfl⟩:=hx
    simp [(h.eval hu).1]
theorem oW {v:AV} {i c:Nat} {bc:BoundsCode} (h:asNat v = some i) (hc:i ≤ c):(Instr.sliceBound (I.g v) c bc).run P w = .ok i w:=by
  obtain ⟨q,hq⟩:=tJ (I:=I) h
  have hq':(0:Int) ≤ (i:Int) ∧ (i:Int) ≤ (c:Int):=by omega
  simp only [Instr.sliceBound,hq,asIntOf,Sem.run_bind,Sem.run_pure,Result.andThen_ok,if_pos hq',Int.toNat_natCast]
theorem uW {sl:Bool} {ln cap i j:Nat} {l r:Option AV} (hi:boundA 0 l = some i) (hj:boundA ln r = some j) (hij:i ≤ j) (hjl:j ≤ ln) (hc:ln ≤ cap) :
    (Instr.sliceBounds sl ln cap (l.map I.g) (r.map I.g) none).run P w = .ok (i,j,cap) w:=by
  cases l <;> cases r <;> simp only [boundA] at hi hj
  · cases hi; cases hj; simp [Instr.sliceBounds]
  · cases hi; rename_i v; simp [Instr.sliceBounds,oW (P:=P) (I:=I) (w:=w) hj (show j ≤ cap by omega)]
  · cases hj; rename_i v; simp [Instr.sliceBounds,oW (P:=P) (I:=I) (w:=w) hi hij]
  · rename_i u v; simp [Instr.sliceBounds,oW (P:=P) (I:=I) (w:=w) hj (show j ≤ cap by omega),oW (P:=P) (I:=I) (w:=w) hi hij]
theorem aIj (hg:GK I env lo k w g) (hF:FR I k n F a dd) {o:Oper} {t:Nat} {x:Operand} {ol oh:Option Operand} {v:AV} (ho:o.op = .slice t x ol oh none) (h:aval (tabOf P) g F o.op = some v):Good P I k w a o v:=by
  rw [ho] at h
  simp only [aval,Option.bind_eq_bind,Option.bind_eq_some_iff] at h
  obtain ⟨l,hl,r,hr,i,hi,d,(hd:P.underlying t = some d),u,hu,h⟩:=h
  have e1:=hF.evalO hl
  have e2:=hF.evalO hr
  obtain ⟨h1,h2⟩:=hF.eval hu
  split at h
  · rename_i e
    rw [Option.bind_eq_some_iff] at h
    obtain ⟨z,hz,h⟩:=h
    rw [Option.bind_eq_some_iff] at h
    obtain ⟨q,hq,h⟩:=h
    rw [Option.bind_eq_some_iff] at h
    obtain ⟨j,hj,h⟩:=h
    have hz':=eV (P:=P) hz
    split at h
    · rename_i hij
      obtain ⟨s,hs,hsl,_⟩:=jR hg hq
      have hb:=uW (P:=P) (I:=I) (w:=w) (sl:=true) (cap:=s.cap) hi hj hij.1 hij.2 (by rw [← hsl.len]; exact hsl.room)
      have key:(execOp a.eval o).run P w = .ok (.value (s.cut i j z).v) w:=by
        have hln:=hsl.len
        obtain ⟨sa,sl,sc⟩:=s
        simp only at hln; subst hln
        by_cases hc:sc = i
        · subst hc
          simp only at hb
          simp [execOp,ho,h1,hs,e1,e2,Instr.sliceAt,Instr.slice,run_underlying hd,hb,hz',SV.cut,SV.v]
        · have hc':¬ sc - i = 0:=by have:=hsl.room; simp only at this; omega
          simp [execOp,ho,h1,hs,e1,e2,Instr.sliceAt,Instr.slice,run_underlying hd,hb,hz',SV.cut,SV.v,hc,hc']
      cases u <;> simp only at h <;> try (cases h; done)
      case nsl =>
        simp only [Option.some.injEq] at h; subst h
        simp only [sliceOf,Option.some.injEq] at hq
        subst hq
        refine ⟨?_,trivial⟩
        rw [key]
        have:s = SV.nil:=by obtain ⟨x,y,z⟩:=s; simp only [gam] at hs; cases hs; rfl
        subst this
        simp only at hij
        have:j = 0:=by omega
        subst this
        have:i = 0:=by omega
        subst this
        rfl
      case sl m off len cap =>
        simp only [Option.some.injEq] at h; subst h
        refine ⟨?_,h2⟩
        rw [key]
        have:s = ⟨some ⟨(I.sv m).blk,off,none⟩,len,cap⟩:=by obtain ⟨x,y,z⟩:=s; simp only [gam] at hs; cases hs; rfl
        subst this
        have hr2:=hsl.room
        have hl2:=hsl.len
        simp only at hr2 hl2
        by_cases hc:cap = i
        · simp [SV.cut,gam,hc]
        · have hc':¬ cap - i = 0:=by omega
          simp [SV.cut,gam,hc,hc',eB]
      case row m cuts =>
        simp only [Option.some.injEq] at h; subst h
        refine ⟨?_,h2⟩
        rw [key]
        have:s = cuts.foldl (fun s c=>s.cut c.1 c.2.1 c.2.2) (I.sv m):=by
          have:s.v = (cuts.foldl (fun s c=>s.cut c.1 c.2.1 c.2.2) (I.sv m)).v:=hs.symm.trans rfl
          obtain ⟨x,y,z⟩:=s
          generalize (cuts.foldl (fun s c=>s.cut c.1 c.2.1 c.2.2) (I.sv m)) = t at this
          obtain ⟨x',y',z'⟩:=t
          cases this; rfl
        rw [this]
        simp [gam]
    · cases h
  · rename_i len e m off
    rw [Option.bind_eq_some_iff] at h
    obtain ⟨z,hz,h⟩:=h
    rw [Option.bind_eq_some_iff] at h
    obtain ⟨j,hj,h⟩:=h
    have hz':=eV (P:=P) hz
    split at h
    · rename_i hij
      obtain ⟨h3,h4,h5,h6⟩:=hij
      simp only [Option.some.injEq] at h; subst h h5
      have hb:=uW (P:=P) (I:=I) (w:=w) (sl:=false) (cap:=len) hi hj h3 h4 (Nat.le_refl _)
      refine ⟨?_,h2⟩
      have h0:¬ len = 0:=by omega
      simp [execOp,ho,h1,gam,e1,e2,Instr.sliceAt,Instr.sureAddr,run_underlying hd,hb,hz',eB]
    · cases h
  · cases h
theorem aD1 (hg:GK I env lo k w g) (hF:FR I k n F a dd) {o:Oper} {b:Builtin} {xs:Array Operand} {ts:Array TypeId} {v:AV} (ho:o.op = .call { callee:=.builtin b,args:=xs,argTypes:=ts }) (h:aval (tabOf P) g F o.op = some v):Good P I k w a o v:=by
  rw [ho] at h
  simp only [aval,Option.bind_eq_bind,Option.bind_eq_some_iff] at h
  obtain ⟨vs,hvs,h⟩:=h
  obtain ⟨h1,h2⟩:=hF.evals hvs
  have h1':xs.map a.eval = (vs.map I.g).toArray:=by rw [← h1,← List.map_toArray,Array.toArray_toList]
  have fin:∀ (u:Value),(∀ c ty,(builtin b ts ty c (vs.map I.g).toArray).run P w = .ok (.value u) w) → (execOp a.eval o).run P w = .ok (.value u) w:=by
    intro u hu
    simp only [execOp,ho,resolve,invoke,Sem.run_bind,Sem.run_pure,Result.andThen_ok,h1',hu]
  split at h
  · rename_i u t r hts
    rw [Option.bind_eq_some_iff] at h
    obtain ⟨d,(ht:P.underlying t = some d),h⟩:=h
    have ht0:ts[0]? = some t:=by
      obtain ⟨l⟩:=ts
      simp only at hts; subst hts; rfl
    split at h
    · simp only [Option.some.injEq] at h; subst h
      refine ⟨fin _ fun c ty=>?_,trivial⟩
      simp [builtin,Builtin.len_,ht0,run_underlying ht,gam,goInt]
      rfl
    · rename_i e
      rw [Option.bind_eq_some_iff] at h
      obtain ⟨z,hz,h⟩:=h
      rw [Option.bind_eq_some_iff] at h
      obtain ⟨q,hq,h⟩:=h
      simp only [Option.some.injEq] at h; subst h
      obtain ⟨s,hs,hsl,_⟩:=jR hg hq
      refine ⟨fin _ fun c ty=>?_,trivial⟩
      simp [builtin,Builtin.len_,ht0,run_underlying ht,hs,goInt,gam,hsl.len]
    · cases h
  · simp only [Option.some.injEq] at h; subst h
    refine ⟨fin _ fun c ty=>?_,trivial⟩
    simp [builtin,Builtin.min_,Builtin.min2,gam]
  · simp only [Option.some.injEq] at h; subst h
    refine ⟨fin _ fun c ty=>?_,trivial⟩
    simp [builtin,Builtin.max_,Builtin.max2,gam]
  · cases h
theorem uB {key:AV}:∀ {es:List (AV × AV × Nat)} {r:Option AV} (kd:IntKind) (i:Nat),mapFind key es = some r →
    (∃ q x,key = .i q x) → ∃ r':Option (Nat × Value),Instr.findNow (.int kd) (I.g key) (es.map fun e=>(⟨I.g e.1,I.g e.2.1,e.2.2⟩ : MapEntry)) i = some r' ∧ r'.map (·.2) = r.map I.g:=by
  intro es
  induction es with
  | nil=>intro r kd i h _; simp only [mapFind,Option.some.injEq] at h; subst h; exact ⟨none,rfl,rfl⟩
  | cons e es ih =>
    intro r kd i h hk
    obtain ⟨k',v,c⟩:=e
    obtain ⟨q,x,rfl⟩:=hk
    simp only [mapFind] at h
    cases k' <;> simp only at h <;> try (cases h; done)
    rename_i q' y
    split at h
    · rename_i hq
      subst hq
      simp only [List.map_cons,Instr.findNow,gam,Ip.g,Instr.sameNow,if_true]
      split at h
      · rename_i hx
        subst hx
        simp only [Option.some.injEq] at h; subst h
        simp
      · rename_i hx
        have hb:(x == y) = false:=by simp [hx]
        rw [hb]
        exact ih kd (i + 1) h ⟨q,x,rfl⟩
    · cases h
theorem zE {key:AV}:∀ {es:List (AV × AV × Nat)} {v:AV},mapFind key es = some (some v) → ∃ e ∈ es,e.2.1 = v:=by
  intro es
  induction es with
  | nil=>intro v h; simp [mapFind] at h
  | cons e es ih =>
    intro v h
    obtain ⟨k',u,c⟩:=e
    cases key <;> simp only [mapFind] at h <;> try (cases h; done)
    cases k' <;> simp only at h <;> try (cases h; done)
    split at h
    · split at h
      · simp only [Option.some.injEq] at h; subst h; exact ⟨_,List.mem_cons_self,rfl⟩
      · obtain ⟨e,he,h⟩:=ih h; exact ⟨e,by simp [he],h⟩
    · cases h
theorem aFf (hg:GK I env lo k w g) {m:AV} {es:List (AV × AV × Nat)} (h:mapOf g m = some es):(∀ e ∈ es,okV k e.2.1) ∧
    ((I.g m = .map none ∧ es = []) ∨ ∃ r c,I.g m = .map (some r) ∧ w.heap[r]? = some (.map (es.map fun e=>(⟨I.g e.1,I.g e.2.1,e.2.2⟩ : MapEntry)).toArray c)):=by
  cases m <;> simp only [mapOf] at h <;> try (cases h; done)
  · cases h; exact ⟨by simp,.inl ⟨rfl,rfl⟩⟩
  · rename_i n
    cases hn:g n with
    | none=>simp [hn] at h
    | some o =>
      cases o <;> simp only [hn] at h <;> try (cases h; done)
      cases h
      exact ⟨fun e he=>((hg.ok n _ hn).1 e he).2,.inr ⟨_,_,rfl,hg.holds n _ hn⟩⟩
theorem rR {kt:Nat} {kd:IntKind} (h:P.underlying kt = some (.int kd)) (b:Bool) (n:Nat) (q:IntKind) (x:Int):(Instr.checkKey b (n + 1) kt (.int q x)).run P w = .ok () w:=by
  unfold Instr.checkKey
  simp [run_underlying h]
theorem mE {kt:Nat} {kd:IntKind} (h:P.underlying kt = some (.int kd)) (b:Bool) (q:IntKind) (x:Int):(Instr.checkKey b 10000 kt (.int q x)).run P w = .ok () w:=rR h b 9999 q x
theorem aGi (hg:GK I env lo k w g) (hF:FR I k n F a dd) {o:Oper} {t:Nat} {x y:Operand} {ok:Bool} {v:AV} (ho:o.op = .lookup t x y ok) (h:aval (tabOf P) g F o.op = some v):Good P I k w a o v:=by
  rw [ho] at h
  simp only [aval,Option.bind_eq_bind,Option.bind_eq_some_iff] at h
  obtain ⟨key,hkey,d,(hd:P.underlying t = some d),m,hm,h⟩:=h
  obtain ⟨h1,h2⟩:=hF.eval hkey
  obtain ⟨h3,h4⟩:=hF.eval hm
  split at h
  · rename_i kt e
    rw [Option.bind_eq_some_iff] at h
    obtain ⟨dk,(hdk:P.underlying kt = some dk),h⟩:=h
    split at h
    · rename_i kd es q y hes
      rw [Option.bind_eq_some_iff] at h
      obtain ⟨r,hr,h⟩:=h
      rw [Option.bind_eq_some_iff] at h
      obtain ⟨z,hz,h⟩:=h
      simp only [Option.some.injEq] at h
      obtain ⟨r',hf,hv⟩:=uB (I:=I) kd 0 hr ⟨q,y,rfl⟩
      obtain ⟨hz1,hz2,_⟩:=jB (P:=P) hz I k w
      obtain ⟨hok,hmap⟩:=aFf hg hes
      have hfk:(Instr.findKey kt (I.g (.i q y)) (es.map fun e=>(⟨I.g e.1,I.g e.2.1,e.2.2⟩ : MapEntry))).run P w = .ok r' w:=by
        simp [Instr.findKey,run_underlying hdk,hf]
      have hck:∀ b,(Instr.checkKey b 10000 kt (I.g (.i q y))).run P w = .ok () w:=fun b=>mE hdk b q y
      have hv':okV k v:=by
        subst h
        cases r with
        | none=>cases ok <;> simp [lookV,okV,okVs,hz2]
        | some u =>
          have hu:okV k u:=by obtain ⟨e,he,rfl⟩:=zE hr; exact hok e he
          cases ok <;> simp [lookV,okV,okVs,hu]
      refine ⟨?_,hv'⟩
      have hl:(Instr.lookup t (I.g m) (I.g (.i q y)) ok).run P w = .ok (I.g v) w:=by
        have hstep:(Instr.lookup t (I.g m) (I.g (.i q y)) ok).run P w = (do
            let (v,ok') ← match r' with
              | some (_,v)=>pure (v,true)
              | none=>pure (← zeroValue e,false)
            pure (if ok then .tuple #[v,.bool ok'] else v):Sem Value).run P w:=by
          rcases hmap with ⟨e1,rfl⟩ | ⟨b,c,e1,e2⟩
          · simp only [Instr.lookup,Sem.run_bind,run_underlying hd,Result.andThen_ok,e1,Sem.run_pure,hck]
            simp only [List.map_nil] at hfk
            rw [hfk]; rfl
          · simp only [Instr.lookup,Sem.run_bind,run_underlying hd,Result.andThen_ok,e1,Sem.run_pure,hck,MapKept.run_getObj_map e2]
            rw [hfk]; rfl
        rw [hstep]
        subst h
        cases r' with
        | none =>
          cases r with
          | some u=>simp at hv
          | none=>cases ok <;> simp [hz1,lookV,gam,gams]
        | some p =>
          cases r with
          | none=>simp at hv
          | some u =>
            simp only [Option.map_some,Option.some.injEq] at hv
            cases ok <;> simp [lookV,gam,gams,hv]
      simp only [execOp,ho,h1,h3,Sem.run_bind,hl,Result.andThen_ok,Sem.run_pure]
    · cases h
  · cases h
end
end Go.Ev
end
section
namespace Go.Ev
open Go.Fw
section
variable {I:Ip} {env:Env} {lo k n:Nat} {w:World} {g:Look} {F:Fm} {a:Act} {dd:List Deferred} {P:Program}
theorem aD9:∀ (d:Nat) {t:Nat} {x y:AV} {r:Bool},aeq (tabOf P) d t x y = some r → okV k x → okV k y → ∀ D,d ≤ D → ∀ w:World,(Op.equalIn D t (I.g x) (I.g y)).run P w = .ok r w:=by
  intro d
  induction d with
  | zero=>intro t x y r h; simp [aeq] at h
  | succ d ih =>
    intro t x y r h hkx hky D hD w
    obtain ⟨D,rfl⟩ : ∃ D',D = D' + 1:=⟨D - 1,by omega⟩
    have hD':d ≤ D:=by omega
    simp only [aeq,Option.bind_eq_bind] at h
    rw [Option.bind_eq_some_iff] at h
    obtain ⟨td,(ht:P.underlying t = some td),h⟩:=h
    split at h
    · simp only [Option.some.injEq] at h; subst h
      exact Fw.run_equalIn_bool D ht
    · split at h
      · rename_i hk
        subst hk
        simp only [Option.some.injEq] at h; subst h
        exact run_equalIn_int w D t _ _ _ _ ht
      · cases h
    · rename_i fs n xs m ys
      split at h
      · cases h
      · rename_i hpl
        simp only [tabOf,Bool.not_eq_true',Bool.not_eq_false,Bool.and_eq_true] at hpl
        have hfs:P.fieldsOf t = fs:=by simp [Program.fieldsOf,ht]
        have e1:=run_equalIn_struct (P:=P) w D t (xs.map I.g).toArray (ys.map I.g).toArray (by rw [hfs]; exact ht) hpl.2
        have g1:I.g (.agg n xs) = .agg (xs.map I.g).toArray:=by simp [gam,eM]
        have g2:I.g (.agg m ys) = .agg (ys.map I.g).toArray:=by simp [gam,eM]
        rw [g1,g2,e1,hfs]
        generalize fs.toList = l at h
        clear e1
        obtain ⟨qx1,qx2,qx3⟩:=fE.1 hkx
        obtain ⟨qy1,qy2,qy3⟩:=fE.1 hky
        induction l generalizing r with
        | nil=>simp only [allO,Option.some.injEq] at h; subst h; exact fZ
        | cons f l ihl =>
          simp only [allO,Option.bind_eq_bind] at h
          rw [Option.bind_eq_some_iff] at h
          obtain ⟨b,hb,h⟩:=h
          split at hb
          · cases hb
          · rename_i hname
            rw [Option.bind_eq_some_iff] at hb
            obtain ⟨px,hpx,hb⟩:=hb
            rw [Option.bind_eq_some_iff] at hb
            obtain ⟨py,hpy,hb⟩:=hb
            have he:=ih hb (oP hpx qx1 qx2 qx3).1 (oP hpy qy1 qy2 qy3).1 D hD' w
            have hn:f.name ≠ "_" := by simpa using hname
            have p1:(Go.part f.type (xs.map I.g).toArray f.offset).run P w = .ok (I.g px) w:=by
              exact oQ hpx qx1
            have p2:(Go.part f.type (ys.map I.g).toArray f.offset).run P w = .ok (I.g py) w:=by
              exact oQ hpy qy1
            simp only [Op.eqFields,if_pos hn,Sem.run_bind,p1,p2,Result.andThen_ok,he]
            cases b
            · simp only [Bool.false_eq_true,if_false,Option.some.injEq] at h; subst h; simp
            · simp only [if_true] at h
              simpa using ihl h
    · rename_i len e n xs m ys
      rw [Option.bind_eq_some_iff] at h
      obtain ⟨z,hz,h⟩:=h
      have hz':=eV (P:=P) hz
      cases hc:(Nat.beq n (len * z) && Nat.beq m (len * z)) with
      | false=>simp [hc] at h
      | true =>
        simp only [hc,cond_true] at h
        rw [Option.bind_eq_some_iff] at h
        obtain ⟨de,(hde:P.underlying e = some de),h⟩:=h
        have hag:=pT hde
        have e1:=Fw.run_equalIn_array (P:=P) w D (xs.map I.g).toArray (ys.map I.g).toArray ht hz'
        have g1:I.g (.agg n xs) = .agg (xs.map I.g).toArray:=by simp [gam,eM]
        have g2:I.g (.agg m ys) = .agg (ys.map I.g).toArray:=by simp [gam,eM]
        rw [g1,g2,e1]
        obtain ⟨qx1,qx2,qx3⟩:=fE.1 hkx
        obtain ⟨qy1,qy2,qy3⟩:=fE.1 hky
        simp only [Bool.and_eq_true,Nat.beq_eq] at hc
        obtain ⟨hc1,hc2⟩:=hc
        split at h
        · rename_i hA
          rw [hA] at hag
          have key:∀ (rem s:Nat) (r:Bool),s + rem = len → allZ (fun a b=>aeq (tabOf P) d e (.agg z a) (.agg z b)) z rem (xs.drop (s * z)) (ys.drop (s * z)) = some r →
              (Op.eqElems D e z (xs.map I.g).toArray (ys.map I.g).toArray (List.range' s rem)).run P w = .ok r w:=by
            intro rem
            induction rem with
            | zero=>intro s r hs h; simp only [allZ,Option.some.injEq] at h; subst h; simp [Op.eqElems]
            | succ rem ihr =>
              intro s r hs h
              simp only [allZ,Option.bind_eq_bind] at h
              rw [Option.bind_eq_some_iff] at h
              obtain ⟨b,hb,h⟩:=h
              rw [oB,oB] at hb
              have hle:s * z + z ≤ len * z:=by rw [← Nat.succ_mul]; exact Nat.mul_le_mul_right _ (by omega)
              have o1:okV k (.agg z ((xs.drop (s * z)).take z)):=fE.2 ⟨by simp; omega,fun v hv=>qx2 v (List.mem_of_mem_drop (List.mem_of_mem_take hv)),fun v hv=>qx3 v (List.mem_of_mem_drop (List.mem_of_mem_take hv))⟩
              have o2:okV k (.agg z ((ys.drop (s * z)).take z)):=fE.2 ⟨by simp; omega,fun v hv=>qy2 v (List.mem_of_mem_drop (List.mem_of_mem_take hv)),fun v hv=>qy3 v (List.mem_of_mem_drop (List.mem_of_mem_take hv))⟩
              have he:=ih hb o1 o2 D hD' w
              have p1:=fL (P:=P) w hag hz' (cs:=xs.map I.g) (off:=s * z) (vs:=((xs.drop (s * z)).take z).map I.g) (by simp [cut,List.map_take,List.map_drop])
              have p2:=fL (P:=P) w hag hz' (cs:=ys.map I.g) (off:=s * z) (vs:=((ys.drop (s * z)).take z).map I.g) (by simp [cut,List.map_take,List.map_drop])
              have he':(Op.equalIn D e (.agg (((xs.drop (s * z)).take z).map I.g).toArray) (.agg (((ys.drop (s * z)).take z).map I.g).toArray)).run P w = .ok b w:=by
                have:=he
                simpa [gam,eM] using this
              simp only [List.range'_succ,Op.eqElems,Sem.run_bind,p1,p2,Result.andThen_ok,he']
              cases b
              · simp only [Bool.false_eq_true,if_false,Option.some.injEq] at h; subst h; simp
              · simp only [if_true] at h
                rw [nM,nM,List.drop_drop,List.drop_drop] at h
                rw [show s * z + z = (s + 1) * z by rw [Nat.add_mul,Nat.one_mul]] at h
                simpa using ihr (s + 1) r (by omega) h
          have:=key len 0 r (by omega) (by simpa using h)
          rwa [← List.range_eq_range'] at this
        · rename_i hA
          have hA':isAggD de = false:=by simpa using hA
          rw [hA'] at hag
          generalize List.range len = is at h
          induction is generalizing r with
          | nil=>simp only [allO,Option.some.injEq] at h; subst h; simp [Op.eqElems]
          | cons i is ihl =>
            simp only [allO,Option.bind_eq_bind] at h
            rw [Option.bind_eq_some_iff] at h
            obtain ⟨b,hb,h⟩:=h
            rw [Option.bind_eq_some_iff] at hb
            obtain ⟨px,hpx,hb⟩:=hb
            rw [Option.bind_eq_some_iff] at hb
            obtain ⟨py,hpy,hb⟩:=hb
            rw [qH] at hpx hpy
            have he:=ih hb (qx3 _ (List.mem_of_getElem? hpx)) (qy3 _ (List.mem_of_getElem? hpy)) D hD' w
            have p1:=fM (P:=P) w hag (cs:=xs.map I.g) (off:=i * z) (v:=I.g px) (by rw [List.getElem?_map,hpx]; rfl)
            have p2:=fM (P:=P) w hag (cs:=ys.map I.g) (off:=i * z) (v:=I.g py) (by rw [List.getElem?_map,hpy]; rfl)
            simp only [Op.eqElems,Sem.run_bind,p1,p2,Result.andThen_ok,he]
            cases b
            · simp only [Bool.false_eq_true,if_false,Option.some.injEq] at h; subst h; simp
            · simp only [if_true] at h
              simpa using ihl h
    · cases h
theorem aDf {q:BinOp} {kd:IntKind} {x y:Int} {v:AV} (h:intBin q kd x y = some v):(match q with
    | .add | .sub | .mul=>Op.intArith q kd x y
    | .quo | .rem=>Op.intDiv q kd x y
    | .and | .or | .xor | .andNot=>Op.intBits q kd x y
    | _=>Op.intCmp q x y:Sem Value).run P w = .ok (I.g v) w ∧ okV k v:=by
  cases q <;> simp only [intBin] at h <;> try (cases h; done)
  all_goals first
    | (simp only [Option.some.injEq] at h; subst h; refine ⟨?_,trivial⟩; simp [Op.intArith,Op.intBits,Op.intCmp,gam,band,bor,bxor,bandn]; try rfl; done)
    | (split at h
       · cases h
       · rename_i hy
         simp only [Option.some.injEq] at h; subst h; refine ⟨?_,trivial⟩; simp [Op.intDiv,hy,gam])
theorem aEy {q:BinOp} {t:Nat} {x y:Operand} {A B:Bool}:(eqGuard q t x y (.bool A) (.bool B)).run P w = .ok () w:=by
  unfold eqGuard; cases q <;> simp
theorem aEz {q:BinOp} {t:Nat} {x y:Operand} {c d:IntKind} {A B:Int}:(eqGuard q t x y (.int c A) (.int d B)).run P w = .ok () w:=by
  unfold eqGuard; cases q <;> simp
theorem aIr {q:BinOp} {t:Nat} {x y:Operand} {A B:ByteArray}:(eqGuard q t x y (.string A) (.string B)).run P w = .ok () w:=by
  unfold eqGuard; cases q <;> simp
theorem xG {q:BinOp} {t:Nat} {x y:Operand} {A B:Option Addr} {c d e f:Nat}:(eqGuard q t x y (.slice A c d) (.slice B e f)).run P w = .ok () w:=by
  unfold eqGuard; cases q <;> simp
theorem aIf (hg:GK I env lo k w g) (hF:FR I k n F a dd) {o:Oper} {q:BinOp} {t t':Nat} {x y:Operand} {v:AV} (ho:o.op = .binOp q t x y t') (h:aval (tabOf P) g F o.op = some v):Good P I k w a o v:=by
  rw [ho] at h
  simp only [aval,Option.bind_eq_bind] at h
  rw [Option.bind_eq_some_iff] at h
  obtain ⟨u,hu,h⟩:=h
  rw [Option.bind_eq_some_iff] at h
  obtain ⟨u',hu',h⟩:=h
  obtain ⟨h1,h2⟩:=hF.eval hu
  obtain ⟨h3,h4⟩:=hF.eval hu'
  have fin:∀ {r:Value},(eqGuard q t x y (I.g u) (I.g u')).run P w = .ok () w → (binOp q t (I.g u) (I.g u')).run P w = .ok r w → (execOp a.eval o).run P w = .ok (.value r) w:=by
    intro r e1 e2
    simp only [execOp,ho,h1,h3,Sem.run_bind,e1,Result.andThen_ok,e2,Sem.run_pure]
  cases u <;> cases u' <;> simp only [abin,Option.bind_eq_bind] at h <;> try (cases h; done)
  case b.b x y =>
    rw [show (I.g (AV.b x)) = .bool x from rfl,show (I.g (AV.b y)) = .bool y from rfl] at fin
    rw [Option.bind_eq_some_iff] at h
    obtain ⟨d,(hd:P.underlying t = some d),h⟩:=h
    split at h
    · simp only [Option.some.injEq] at h; subst h
      exact ⟨fin aEy (by simp [binOp,Fw.run_equal_bool hd,gam]),trivial⟩
    · simp only [Option.some.injEq] at h; subst h
      exact ⟨fin aEy (by simp [binOp,Fw.run_equal_bool hd,gam]),trivial⟩
    · cases h
  case i.i kd x kd' y =>
    rw [show (I.g (AV.i kd x)) = .int kd x from rfl,show (I.g (AV.i kd' y)) = .int kd' y from rfl] at fin
    split at h
    · split at h
      · cases h
      · rename_i hy
        simp only [Option.some.injEq] at h; subst h
        exact ⟨fin aEz (by simp [binOp,Op.shift,hy,shl,gam]),trivial⟩
    · split at h
      · cases h
      · rename_i hy
        simp only [Option.some.injEq] at h; subst h
        exact ⟨fin aEz (by simp [binOp,Op.shift,hy,shr,gam]),trivial⟩
    · rename_i hn1 hn2
      split at h
      · rename_i hk
        subst hk
        obtain ⟨e1,e2⟩:=aDf (P:=P) (I:=I) (k:=k) (w:=w) h
        refine ⟨fin aEz ?_,e2⟩
        cases q <;> simp only [binOp,ne_eq,not_true_eq_false,if_false] <;> first | exact e1 | exact absurd rfl hn1 | exact absurd rfl hn2 | skip
      · cases h
  case s.s x y =>
    rw [show (I.g (AV.s x)) = .string ⟨x.toArray⟩ from rfl,show (I.g (AV.s y)) = .string ⟨y.toArray⟩ from rfl] at fin
    split at h
    · simp only [Option.some.injEq] at h; subst h
      refine ⟨fin aIr ?_,trivial⟩
      by_cases hxy:x = y <;> simp [binOp,Op.stringOp,gam,hxy]
    · simp only [Option.some.injEq] at h; subst h
      refine ⟨fin aIr ?_,trivial⟩
      by_cases hxy:x = y <;> simp [binOp,Op.stringOp,gam,hxy]
    · cases h
  case agg.agg m xs m' ys =>
    have g1:I.g (.agg m xs) = .agg (xs.map I.g).toArray:=by simp [gam,eM]
    have g2:I.g (.agg m' ys) = .agg (ys.map I.g).toArray:=by simp [gam,eM]
    split at h
    · split at h
      · cases h
      · rename_i hpl
        simp only [tabOf,Bool.not_eq_true',Bool.not_eq_false,Bool.and_eq_true] at hpl
        rw [Option.bind_eq_some_iff] at h
        obtain ⟨b,hb,h⟩:=h
        simp only [Option.some.injEq] at h; subst h
        have he:=aD9 (I:=I) 20 hb h2 h4 10000 (by omega) w
        rw [g1,g2] at fin he
        exact ⟨fin (run_eqGuard_agg w _ t x y _ _ hpl.1) (by rw [run_eql_struct,he]; rfl),trivial⟩
    · split at h
      · cases h
      · rename_i hpl
        simp only [tabOf,Bool.not_eq_true',Bool.not_eq_false,Bool.and_eq_true] at hpl
        rw [Option.bind_eq_some_iff] at h
        obtain ⟨b,hb,h⟩:=h
        simp only [Option.some.injEq] at h; subst h
        have he:=aD9 (I:=I) 20 hb h2 h4 10000 (by omega) w
        rw [g1,g2] at fin he
        exact ⟨fin (run_eqGuard_agg w _ t x y _ _ hpl.1) (by rw [run_neq_struct,he]; rfl),trivial⟩
    · cases h
  case nsl.nsl =>
    rw [show (I.g AV.nsl) = .slice none 0 0 from rfl] at fin
    rw [Option.bind_eq_some_iff] at h
    obtain ⟨d,(hd:P.underlying t = some d),h⟩:=h
    split at h
    · simp only [Option.some.injEq] at h; subst h
      refine ⟨fin xG ?_,trivial⟩
      simp only [binOp,Sem.run_bind,run_equal_slice_nil w t _ _ _ _ hd,Result.andThen_ok,Sem.run_pure]; rfl
    · cases h
  case sl.nsl m off len cap =>
    rw [show (I.g AV.nsl) = .slice none 0 0 from rfl,show I.g (.sl m off len cap) = .slice (some ⟨(I.sv m).blk,off,none⟩) len cap from rfl] at fin
    rw [Option.bind_eq_some_iff] at h
    obtain ⟨d,(hd:P.underlying t = some d),h⟩:=h
    split at h
    · simp only [Option.some.injEq] at h; subst h
      refine ⟨fin xG ?_,trivial⟩
      simp only [binOp,Sem.run_bind,run_equal_slice_nil w t _ _ _ _ hd,Result.andThen_ok,Sem.run_pure]; rfl
    · cases h
  case row.nsl m cuts =>
    rw [Option.bind_eq_some_iff] at h
    obtain ⟨d,(hd:P.underlying t = some d),h⟩:=h
    split at h
    · rename_i e e' z c l hm
      split at h
      · cases h
      · rename_i hc
        simp only [Option.some.injEq] at h; subst h
        have ho':w.ownsRow lo e' z (I.sv m).v c (l.map I.g):=hg.holds m _ hm
        have hsome:∃ ad,(I.sv m).a = some ad:=by
          rcases ho'.2 with ⟨q1,q2⟩ | ⟨b,cap,cur,q1,_⟩
          · exact absurd q2 hc
          · cases hx:I.sv m; rw [hx] at q1; cases q1; exact ⟨_,rfl⟩
        have key:∀ (cuts:List (Nat × Nat × Nat)) (s:SV),(∃ ad,s.a = some ad) → ∃ ad,(cuts.foldl (fun s c=>s.cut c.1 c.2.1 c.2.2) s).a = some ad:=by
          intro cuts
          induction cuts with
          | nil=>intro s h; exact h
          | cons c cuts ih =>
            intro s ⟨ad,h⟩
            refine ih _ ?_
            simp only [SV.cut]
            split
            · exact ⟨ad,h⟩
            · exact ⟨_,by rw [h]; rfl⟩
        obtain ⟨ad,had⟩:=key cuts _ hsome
        have hrow:I.g (.row m cuts) = (cuts.foldl (fun s c=>s.cut c.1 c.2.1 c.2.2) (I.sv m)).v:=rfl
        rw [show (I.g AV.nsl) = .slice none 0 0 from rfl,hrow] at fin
        refine ⟨fin xG ?_,trivial⟩
        simp only [binOp,Sem.run_bind,run_equal_slice_nil w t _ _ _ _ hd,Result.andThen_ok,Sem.run_pure,had]; rfl
    · cases h
end
end Go.Ev
end
section
namespace Go.Ev
open Go.Fw
section
variable {I:Ip} {env:Env} {lo k n:Nat} {w:World} {g:Look} {F:Fm} {a:Act} {dd:List Deferred} {P:Program}
theorem sX (hg:GK I env lo k w g) (hF:FR I k n F a dd) {o:Oper} {v:AV} (h:aval (tabOf P) g F o.op = some v):Good P I k w a o v:=by
  have h0:=h
  cases ho:o.op with
  | move x=>rw [ho] at h; exact aJq hF ho (by simpa [aval] using h)
  | assign x=>rw [ho] at h; exact aGh hF ho (by simpa [aval] using h)
  | pick c x y=>exact aJr hF ho h
  | binOp q t x y t'=>exact aIf hg hF ho h
  | unOp q t x=>exact aJs hF ho h
  | convert t t' x=>exact aD2 hg hF ho h
  | fieldAddr t x f=>exact aAk hF ho h
  | field t x f=>exact aIh hF ho h
  | indexAddr t x y=>exact aAl hg hF ho h
  | index t x y=>exact aIi hF ho h
  | load t x=>exact aJp hg hF ho h
  | extract x i=>exact aD3 hF ho h
  | nilCheck x=>exact aBy hF ho h
  | makeFunc q fs cs=>exact aBx hF ho h
  | build t ps=>exact aIg hF ho h
  | slice t x l r m =>
    cases m with
    | none=>exact aIj hg hF ho h
    | some m=>rw [ho] at h; simp [aval] at h
  | lookup t x y ok=>exact aGi hg hF ho h
  | call c =>
    obtain ⟨callee,xs,ts⟩:=c
    cases callee with
    | builtin b=>exact aD1 hg hF ho h
    | _=>rw [ho] at h; simp [aval] at h
  | _=>rw [ho] at h; simp [aval] at h
end
structure Agree (k:Nat) (I I':Ip):Prop where
  sv:∀ n,n < k → I.sv n = I'.sv n
  arr:∀ n,n < k → I.arr n = I'.arr n
  fn:∀ n,n < k → I.fn n = I'.fn n
theorem Agree.refl (k:Nat) (I:Ip):Agree k I I:=⟨fun _ _=>rfl,fun _ _=>rfl,fun _ _=>rfl⟩
theorem Agree.trans {k k':Nat} {I I' I'':Ip} (h:Agree k I I') (h':Agree k' I' I'') (hk:k ≤ k'):Agree k I I'' :=
  ⟨fun n hn=>(h.sv n hn).trans (h'.sv n (by omega)),fun n hn=>(h.arr n hn).trans (h'.arr n (by omega)),fun n hn=>(h.fn n hn).trans (h'.fn n (by omega))⟩
theorem Agree.v {k:Nat} {I I':Ip} (h:Agree k I I') {v:AV} (hv:okV k v):I'.g v = I.g v:=(vY h.sv v hv).symm
theorem Agree.map {k:Nat} {I I':Ip} (h:Agree k I I') {l:List AV} (hv:∀ v ∈ l,okV k v):l.map I'.g = l.map I.g:=List.map_congr_left fun v hm=>h.v (hv v hm)
structure EnvOK (I:Ip) (env:Env) (k:Nat):Prop where
  name:∀ l L,envGet env l = some L → l < k ∧ L.d < k
  fr:∀ l L,envGet env l = some L → FR I k L.n L.tm { tmps:=I.arr l,defers:=[] } []
theorem FR.agree {k k' n:Nat} {I I':Ip} {F:Fm} {a:Act} {dd:List Deferred} (hF:FR I k n F a dd) (h:Agree k I I') (hk:k ≤ k'):FR I' k' n F a dd :=
  ⟨hF.defers,hF.size,fun t v e=>by obtain ⟨h1,h2,h3⟩:=hF.get t v e; exact ⟨h1,gU hk v h2,by rw [h3,h.v h2]⟩⟩
theorem EnvOK.agree {k k':Nat} {I I':Ip} {env:Env} (hE:EnvOK I env k) (h:Agree k I I') (hk:k ≤ k'):EnvOK I' env k' :=
  ⟨fun l L e=>by have:=hE.name l L e; omega,fun l L e=>by rw [← h.arr l (hE.name l L e).1]; exact (hE.fr l L e).agree h hk⟩
theorem aFk {k k':Nat} (hk:k ≤ k') {o:AObj} (h:okO k o):okO k' o:=by
  cases o <;> simp only [okO] at h ⊢
  case pt=>exact ⟨h.1,h.2.1,fun v hv=>gU hk v (h.2.2 v hv)⟩
  case fz=>exact ⟨h.1,h.2.1,fun v hv=>gU hk v (h.2.2 v hv)⟩
  case row=>exact ⟨h.1,h.2.1,h.2.2.1,fun v hv=>gU hk v (h.2.2.2 v hv)⟩
  case map=>exact fun e he=>⟨gU hk _ (h e he).1,gU hk _ (h e he).2⟩
theorem rQ {k lo n:Nat} {I I':Ip} {env env':Env} (h:Agree k I I') (hE:∀ L,envGet env n = some L → L.d < k) (he:envGet env' n = envGet env n) {o:AObj} (ho:okO k o) (hn:n < k):res I' env' lo n o = res I env lo n o:=by
  cases o <;> simp only [okO] at ho <;> simp only [res,← h.sv n hn]
  case pt=>rw [h.map ho.2.2]
  case fz=>rw [h.map ho.2.2]
  case row=>rw [h.map ho.2.2.2]
  case map es c =>
    congr 3
    exact List.map_congr_left fun e hm=>by rw [h.v (ho e hm).1,h.v (ho e hm).2]
  case loop st pd =>
    rw [he]
    cases hL:envGet env n with
    | none=>rfl
    | some L=>simp only [loopOf,← h.arr n hn,← h.fn n hn,← h.sv L.d (hE L hL)]
structure SR (I:Ip) (env:Env) (w0:World) (s:St) (w:World):Prop where
  old:Same 0 [] w0 w
  io:Io w0 w
  ok:∀ n o,find s.h n = some o → n < s.nx ∧ okO s.nx o
  holds:∀ n o,find s.h n = some o → (res I env w0.heap.size n o).holds w
  low:∀ n o,find s.h n = some o → ∀ b,(res I env w0.heap.size n o).fp b → w0.heap.size ≤ b
  apart:∀ n m o o',find s.h n = some o → find s.h m = some o' → n ≠ m → ∀ b,(res I env w0.heap.size n o).fp b → ¬ (res I env w0.heap.size m o').fp b
  marks:∀ n,n ∈ s.marks → n < s.nx
  env:EnvOK I env s.nx
theorem SR.gk {I:Ip} {env:Env} {w0 w:World} {s:St} (h:SR I env w0 s w):GK I env w0.heap.size s.nx w (find s.h):=⟨h.holds,fun n o e=>⟨(h.ok n o e).2,(h.ok n o e).1⟩⟩
theorem SR.size {I:Ip} {env:Env} {w0 w:World} {s:St} (h:SR I env w0 s w):w0.heap.size ≤ w.heap.size:=h.old.size
theorem SR.turn {I I':Ip} {env env':Env} {w0 w w':World} {s s':St} {t:Nat → Prop} {b:Nat} (h:SR I env w0 s w) (ag:Agree s.nx I I') (hnx:s.nx ≤ s'.nx) (henv:∀ m,m < s.nx → m ≠ b → envGet env' m = envGet env m)
    (io:Io w w') (size:w.heap.size ≤ w'.heap.size) (block:∀ j,j < w.heap.size → ¬ t j → w'.heap[j]? = w.heap[j]?) (tlow:∀ j,t j → w0.heap.size ≤ j)
    (old:∀ n o,n ≠ b → find s'.h n = some o → (o = .dead ∧ n < s'.nx) ∨ (find s.h n = some o ∧ ∀ j,(res I env w0.heap.size n o).fp j → ¬ t j))
    (new:∀ o,find s'.h b = some o → b < s'.nx ∧ okO s'.nx o ∧ (res I' env' w0.heap.size b o).holds w' ∧ ∀ j,(res I' env' w0.heap.size b o).fp j → t j ∨ w.heap.size ≤ j)
    (hm:∀ n,n ∈ s'.marks → n < s'.nx) (hE:EnvOK I' env' s'.nx):SR I' env' w0 s' w':=by
  have hs:=h.size
  have same:∀ n o,n ≠ b → find s.h n = some o → res I' env' w0.heap.size n o = res I env w0.heap.size n o:=fun n o hn e =>
    rQ ag (fun L hL=>(h.env.name n L hL).2) (henv n (h.ok n o e).1 hn) (h.ok n o e).2 (h.ok n o e).1
  have blk0:∀ j,j < w.heap.size → ¬ w0.heap.size ≤ j → w'.heap[j]? = w.heap[j]?:=fun j hj hn=>block j hj fun ht=>hn (tlow j ht)
  have dead:∀ n,res I' env' w0.heap.size n .dead = voidR:=fun n=>rfl
  refine ⟨⟨by omega,fun j h1 h2 h3=>?_⟩,h.io.trans io,fun n o e=>?_,fun n o e=>?_,fun n o e j hj=>?_,?_,hm,hE⟩
  · rw [blk0 j (by omega) (by omega)]; exact h.old.block j h1 h2 h3
  · by_cases hn:n = b
    · subst hn; exact ⟨(new o e).1,(new o e).2.1⟩
    · rcases old n o hn e with ⟨rfl,h1⟩ | ⟨h1,_⟩
      · exact ⟨h1,trivial⟩
      · have:=h.ok n o h1; exact ⟨by omega,aFk hnx this.2⟩
  · by_cases hn:n = b
    · subst hn; exact (new o e).2.2.1
    · rcases old n o hn e with ⟨rfl,h1⟩ | ⟨h1,h2⟩
      · rw [dead]; exact ⟨fun _ hk=>hk.elim,fun _ _ _ _=>trivial⟩
      · rw [same n o hn h1]
        exact Res.keep (h.holds n o h1) io size fun j hj=>block j (Res.fp_lt (h.holds n o h1) hj) (h2 j hj)
  · by_cases hn:n = b
    · subst hn
      rcases (new o e).2.2.2 j hj with h1 | h1
      · exact tlow j h1
      · omega
    · rcases old n o hn e with ⟨rfl,h1⟩ | ⟨h1,h2⟩
      · rw [dead] at hj; exact hj.elim
      · rw [same n o hn h1] at hj; exact h.low n o h1 j hj
  · have key:∀ n m o o',find s'.h n = some o → find s'.h m = some o' → n ≠ m → m ≠ b → ∀ j,(res I' env' w0.heap.size n o).fp j → (res I' env' w0.heap.size m o').fp j → False:=by
      intro n m o o' e e' hnm hmb j hj hj'
      rcases old m o' hmb e' with ⟨rfl,_⟩ | ⟨h1,h2⟩
      · rw [dead] at hj'; exact hj'
      · rw [same m o' hmb h1] at hj'
        have hlt:=Res.fp_lt (h.holds m o' h1) hj'
        by_cases hn:n = b
        · subst hn
          rcases (new o e).2.2.2 j hj with h3 | h3
          · exact h2 j hj' h3
          · omega
        · rcases old n o hn e with ⟨rfl,_⟩ | ⟨h3,h4⟩
          · rw [dead] at hj; exact hj
          · rw [same n o hn h3] at hj
            exact h.apart n m o o' h3 h1 hnm j hj hj'
    intro n m o o' e e' hnm j hj hj'
    by_cases hmb:m = b
    · exact key m n o' o e' e (fun x=>hnm x.symm) (by omega) j hj' hj
    · exact key n m o o' e e' hnm hmb j hj hj'
structure Step (s s':St):Prop where
  nx:s.nx ≤ s'.nx
  mono:∀ n,n < s.nx → n ∈ s.wr → n ∈ s'.wr
  unch:∀ n,n < s.nx → n ∉ s'.wr → find s'.h n = find s.h n
theorem Step.refl (s:St):Step s s:=⟨Nat.le_refl _,fun _ _ h=>h,fun _ _ _=>rfl⟩
theorem Step.trans {a b c:St} (h:Step a b) (k:Step b c):Step a c :=
  ⟨Nat.le_trans h.nx k.nx,fun n hn hm=>k.mono n (by have:=h.nx; omega) (h.mono n hn hm),
   fun n hn hm=>(k.unch n (by have:=h.nx; omega) hm).trans (h.unch n hn fun hb=>hm (k.mono n (by have:=h.nx; omega) hb))⟩
theorem gS {h:Heap} {n m:Nat} {o x:AObj} (e:find (upd h n o) m = some x):(m = n ∧ x = o) ∨ (m ≠ n ∧ find h m = some x):=Tr.set_some e
theorem tU {h:Heap} {n m:Nat} {o:AObj} (e:m ≠ n):find (upd h n o) m = find h m:=Tr.set_other e
theorem Step.wrote (s:St) (n:Nat) (o:AObj):Step s (wrote s n o):=by
  refine ⟨Nat.le_refl _,fun m hm h=>?_,fun m hm h=>?_⟩
  · simp only [Ev.wrote]; cases memN n s.wr <;> simp [h]
  · refine tU fun e=>?_
    subst e
    simp only [Ev.wrote] at h
    cases hb:memN m s.wr with
    | true=>rw [hb] at h; exact h (eQ.1 hb)
    | false=>simp [hb] at h
theorem aGp (s:St) (n:Nat) (o:AObj):(wrote s n o).nx = s.nx:=rfl
theorem aAo (s:St) (n:Nat) (o:AObj):(wrote s n o).marks = s.marks:=rfl
theorem fT {s s':St} {o:AObj} {n:Nat} (h:fresh s o = some (n,s')):n = s.nx ∧ s' = { s with h:=upd s.h s.nx o,nx:=s.nx + 1 }:=by
  simp only [fresh] at h
  split at h
  · cases h
  · cases h; exact ⟨rfl,rfl⟩
theorem Step.fresh {s s':St} {o:AObj} {n:Nat} (h:fresh s o = some (n,s')):Step s s':=by
  obtain ⟨_,rfl⟩:=fT h
  exact ⟨Nat.le_succ _,fun _ _ h=>h,fun m hm _=>tU (by omega)⟩
def Ip.with (I:Ip) (k:Nat) (s:SV) (ar:Array Value):Ip:=⟨fun n=>if n = k then s else I.sv n,fun n=>if n = k then ar else I.arr n,I.fn⟩
theorem Agree.with (I:Ip) (k:Nat) (s:SV) (ar:Array Value):Agree k I (I.with k s ar) :=
  ⟨fun n hn=>by simp [Ip.with,Nat.ne_of_lt hn],fun n hn=>by simp [Ip.with,Nat.ne_of_lt hn],fun n hn=>rfl⟩
theorem jW (I:Ip) (k:Nat) (s:SV) (ar:Array Value):(I.with k s ar).sv k = s:=by simp [Ip.with]
theorem SR.add {I:Ip} {env:Env} {w0 w w':World} {s s':St} {o:AObj} {n:Nat} (h:SR I env w0 s w) (hf:fresh s o = some (n,s')) (sv:SV) (ho:okO (s.nx + 1) o)
    (hA:Added (res (I.with s.nx sv #[]) env w0.heap.size s.nx o) w w'):SR (I.with s.nx sv #[]) env w0 s' w':=by
  obtain ⟨rfl,rfl⟩:=fT hf
  refine h.turn (t:=fun _=>False) (b:=s.nx) (Agree.with _ _ _ _) (Nat.le_succ _) (fun _ _ _=>rfl) hA.keeps.io hA.keeps.size (fun j hj _=>hA.keeps.block j hj (by simp)) (fun _ hj=>hj.elim) (fun n o' hn e=>?_) (fun o' e=>?_) (fun n hn=>?_) (h.env.agree (Agree.with _ _ _ _) (Nat.le_succ _))
  · rcases gS e with ⟨h1,_⟩ | ⟨_,h2⟩
    · exact absurd h1 hn
    · exact .inr ⟨h2,fun _ _ hj=>hj⟩
  · rcases gS e with ⟨_,rfl⟩ | ⟨h1,_⟩
    · exact ⟨Nat.lt_succ_self _,ho,hA.holds,fun j hj=>.inr (hA.fp j hj)⟩
    · exact absurd rfl h1
  · have:=h.marks n hn; exact Nat.lt_succ_of_lt this
theorem SR.chg {I:Ip} {env:Env} {w0 w w':World} {s:St} {o o':AObj} {n:Nat} (h:SR I env w0 s w) (hf:find s.h n = some o) (ho:okO s.nx o') (hU:Upd (res I env w0.heap.size n o) (res I env w0.heap.size n o') w w'):SR I env w0 (wrote s n o') w':=by
  refine h.turn (t:=(res I env w0.heap.size n o).fp) (b:=n) (Agree.refl _ _) (Nat.le_refl _) (fun _ _ _=>rfl) hU.io hU.size hU.block (h.low n o hf) (fun m x hn e=>?_) (fun x e=>?_) h.marks h.env
  · rcases gS e with ⟨h1,_⟩ | ⟨_,h2⟩
    · exact absurd h1 hn
    · exact .inr ⟨h2,fun j hj hj'=>h.apart n m o x hf h2 (fun e=>hn e.symm) j hj' hj⟩
  · rcases gS e with ⟨_,rfl⟩ | ⟨h1,_⟩
    · exact ⟨(h.ok n o hf).1,ho,hU.holds,hU.fp⟩
    · exact absurd rfl h1
theorem SR.move {I:Ip} {env:Env} {w0 w w':World} {s s':St} {o o':AObj} {n n':Nat} (h:SR I env w0 s w) (hf:find s.h n = some o) (hfr:fresh (wrote s n .dead) o' = some (n',s')) (sv:SV) (ho:okO (s.nx + 1) o')
    (hU:Upd (res I env w0.heap.size n o) (res (I.with s.nx sv #[]) env w0.heap.size s.nx o') w w'):SR (I.with s.nx sv #[]) env w0 s' w':=by
  obtain ⟨rfl,rfl⟩:=fT hfr
  refine h.turn (t:=(res I env w0.heap.size n o).fp) (b:=s.nx) (Agree.with _ _ _ _) (Nat.le_succ _) (fun _ _ _=>rfl) hU.io hU.size hU.block (h.low n o hf) (fun m x hn e=>?_) (fun x e=>?_) (fun m hm=>?_) (h.env.agree (Agree.with _ _ _ _) (Nat.le_succ _))
  · rcases gS e with ⟨h1,_⟩ | ⟨_,h2⟩
    · exact absurd h1 hn
    · rcases gS h2 with ⟨h3,rfl⟩ | ⟨h3,h4⟩
      · subst h3; exact .inl ⟨rfl,by have:=(h.ok m o hf).1; simp only [aGp]; omega⟩
      · exact .inr ⟨h4,fun j hj hj'=>h.apart n m o x hf h4 (fun e=>h3 e.symm) j hj' hj⟩
  · rcases gS e with ⟨_,rfl⟩ | ⟨h1,_⟩
    · exact ⟨Nat.lt_succ_self _,ho,hU.holds,hU.fp⟩
    · exact absurd rfl h1
  · have:=h.marks m hm; exact Nat.lt_succ_of_lt this
theorem SR.keep {I:Ip} {env:Env} {w0 w w':World} {s:St} (h:SR I env w0 s w) (hk:Keeps [] w w'):SR I env w0 s w' :=
  h.turn (t:=fun _=>False) (b:=s.nx) (Agree.refl _ _) (Nat.le_refl _) (fun _ _ _=>rfl) hk.io hk.size (fun j hj _=>hk.block j hj (by simp)) (fun _ hj=>hj.elim) (fun n o' _ e=>.inr ⟨e,fun _ _ hj=>hj⟩)
    (fun o' e=>absurd (h.ok _ _ e).1 (Nat.lt_irrefl _)) h.marks h.env
end Go.Ev
end
section
namespace Go.Ev
open Go.Fw
structure Aft (I:Ip) (env:Env) (w0:World) (s s':St) (v:AV) (u:Value) (w':World) (I':Ip):Prop where
  ag:Agree s.nx I I'
  sr:SR I' env w0 s' w'
  val:u = I'.g v
  okv:okV s'.nx v
  step:Step s s'
  marks:s'.marks = s.marks
def Left (I:Ip) (env:Env) (w0:World) (s s':St) (v:AV) (u:Value) (w':World):Prop:=∃ I',Aft I env w0 s s' v u w' I'
section
variable {I:Ip} {env:Env} {n:Nat} {w0 w:World} {s s':St} {F:Fm} {a:Act} {dd:List Deferred} {P:Program}
theorem SR.newPt (h:SR I env w0 s w) {m N T:Nat} {l:List AV} (hf:fresh s (.pt N l T) = some (m,s')) (hr:Row s.nx N l) {v:AV} {u:Value} (hv:okV (s.nx + 1) v) (hg:∀ I':Ip,(I'.sv m).blk = w.heap.size → u = gam I'.sv v) :
    Left I env w0 s s' v u (w.alloc (.cells (l.map I.g).toArray T (0,0))):=by
  have hst:=Step.fresh hf
  obtain ⟨e1,e2⟩:=fT hf
  refine ⟨I.with s.nx ⟨some ⟨w.heap.size,0,none⟩,0,0⟩ #[],?_⟩
  have hb:((I.with s.nx ⟨some ⟨w.heap.size,0,none⟩,0,0⟩ #[]).sv m).blk = w.heap.size:=by rw [e1,jW]; rfl
  refine ⟨Agree.with _ _ _ _,?_,hg _ hb,by rw [e2]; exact hv,hst,by rw [e2]⟩
  refine h.add hf _ ⟨hr.n,hr.one,fun v hv=>gU (Nat.le_succ _) v (hr.ok v hv)⟩ ?_
  have:=Added.alloc w (.cells (l.map I.g).toArray T (0,0))
  simp only [res]
  rw [(Agree.with I s.nx _ _).map hr.ok,jW]
  exact this
theorem xX {k:Nat} {v:AV} (h:okV k v) (hc:isCell v = true):Row k (lenOf v) (cellsOf v):=by
  obtain ⟨h1,h2⟩:=tL h hc
  exact ⟨tX h,h1,h2⟩
theorem Yd.ok' {P:Program} {o:Oper} {ρ:Operand → Value} {w w':World} {v:Value} {J:Value → World → Prop} (hr:(execOp ρ o).run P w = .ok (.value v) w') (h:J v w'):Yd P o ρ w J:=by
  unfold Yd; rw [hr]; exact h
theorem Yd.skip' {P:Program} {o:Oper} {ρ:Operand → Value} {w w':World} {J:Value → World → Prop} (hr:(execOp ρ o).run P w = .ok .skip w') (h:J undef w'):Yd P o ρ w J:=by
  unfold Yd; rw [hr]; exact h
theorem aGs (h:SR I env w0 s w) (hF:FR I s.nx n F a dd) {call:CallT} {o:Oper} {e:Nat} {v:AV} (ho:o.op = .alloc e) (hh:aact (tabOf P) call s F o.op = some (v,s')):Yd P o a.eval w (Left I env w0 s s' v):=by
  rw [ho] at hh
  simp only [aact,Option.bind_eq_bind,Option.bind_eq_some_iff] at hh
  obtain ⟨z,hz,⟨m,s1⟩,hf,hh⟩:=hh
  simp only [Option.some.injEq,Prod.mk.injEq] at hh
  obtain ⟨rfl,rfl⟩:=hh
  obtain ⟨h1,h2,h3⟩:=jB (P:=P) hz I s.nx w
  have hm:=(fT hf).1
  refine Yd.ok' (v:=.pointer (some ⟨w.heap.size,0,none⟩)) (w':=w.alloc (.cells ((cellsOf z).map I.g).toArray e (0,0))) ?_ (h.newPt hf (xX h2 h3) (by simp only [okV]; omega) (fun I' hb=>by simp only [gam,hb]))
  simp only [execOp,ho,Instr.alloc,newVar,newRow,Sem.run_bind,h1,Result.andThen_ok,run_newObj,Sem.run_pure]
  rw [show (I.g z).cells = _ from gP I.sv z]; rfl
theorem aJ3 (h:SR I env w0 s w) (hF:FR I s.nx n F a dd) {call:CallT} {o:Oper} {e:Nat} {x:Operand} {v:AV} (ho:o.op = .box e x) (hh:aact (tabOf P) call s F o.op = some (v,s')):Yd P o a.eval w (Left I env w0 s s' v):=by
  rw [ho] at hh
  simp only [aact,Option.bind_eq_bind,Option.bind_eq_some_iff] at hh
  obtain ⟨z,hz,hh⟩:=hh
  split at hh
  · cases hh
  · rename_i hc
    rw [Option.bind_eq_some_iff] at hh
    obtain ⟨⟨m,s1⟩,hf,hh⟩:=hh
    simp only [Option.some.injEq,Prod.mk.injEq] at hh
    obtain ⟨rfl,rfl⟩:=hh
    obtain ⟨h1,h2⟩:=hF.eval hz
    have h3:isCell z = true:=by simpa using hc
    have hm:=(fT hf).1
    refine Yd.ok' (v:=.pointer (some ⟨w.heap.size,0,none⟩)) (w':=w.alloc (.cells ((cellsOf z).map I.g).toArray e (0,0))) ?_ (h.newPt hf (xX h2 h3) (by simp only [okV]; omega) (fun I' hb=>by simp only [gam,hb]))
    simp only [execOp,ho,h1,Instr.box,newVar,newRow,Sem.run_bind,Result.andThen_ok,run_newObj,Sem.run_pure]
    rw [show (I.g z).cells = _ from gP I.sv z]; rfl
theorem SR.left (h:SR I env w0 s w) {w':World} {o o':AObj} {m:Nat} (hf:find s.h m = some o) (ho:okO s.nx o') (hU:Upd (res I env w0.heap.size m o) (res I env w0.heap.size m o') w w') {v:AV} (hv:okV s.nx v):Left I env w0 s (wrote s m o') v (I.g v) w' :=
  ⟨I,Agree.refl _ _,h.chg hf ho hU,rfl,hv,Step.wrote _ _ _,rfl⟩
theorem aGt (h:SR I env w0 s w) (hF:FR I s.nx n F a dd) {call:CallT} {o:Oper} {t:Nat} {x y:Operand} {v:AV} (ho:o.op = .store t x y) (hh:aact (tabOf P) call s F o.op = some (v,s')):Yd P o a.eval w (Left I env w0 s s' v):=by
  rw [ho] at hh
  simp only [aact,Option.bind_eq_bind,Option.bind_eq_some_iff] at hh
  obtain ⟨u,hu,p,hp,hh⟩:=hh
  obtain ⟨h1,h2⟩:=hF.eval hu
  obtain ⟨h3,h4⟩:=hF.eval hp
  cases p <;> simp only at hh <;> try (cases hh; done)
  rename_i m off
  rw [Option.bind_eq_some_iff] at hh
  obtain ⟨z,hz,hh⟩:=hh
  split at hh
  · cases hh
  · rename_i hc
    simp only [not_or,ne_eq,Decidable.not_not,Bool.not_eq_false] at hc
    obtain ⟨hc1,hc2⟩:=hc
    rw [Option.bind_eq_some_iff] at hh
    obtain ⟨s1,hs1,hh⟩:=hh
    simp only [Option.some.injEq,Prod.mk.injEq] at hh
    obtain ⟨rfl,rfl⟩:=hh
    have hsz:=eV (P:=P) hz w
    cases ho':find s.h m with
    | none=>simp [storeA,ho'] at hs1
    | some ob =>
      cases ob <;> simp only [storeA,ho'] at hs1 <;> try (cases hs1; done)
      rename_i N l T
      rw [Option.bind_eq_bind,Option.bind_eq_some_iff] at hs1
      obtain ⟨r,hr,hs1⟩:=hs1
      simp only [Option.some.injEq] at hs1
      subst hs1
      obtain ⟨hk,hok⟩:=h.ok m _ ho'
      have hrow:Row s.nx N l:=⟨hok.1,hok.2.1,hok.2.2⟩
      have hv:=xX h2 hc2
      obtain ⟨e1,h5,hle⟩:=aCf hr hrow hv.n hv.one hv.ok
      have hb:=h.holds m _ ho'
      have hU:=Upd.setRow (cs':=(r.map I.g)) hb
      have hlen:((cellsOf u).map I.g).length = z:=by rw [List.length_map,hv.n,hc1]
      have hst:=run_storeCells_at P (I.sv m).blk off T ((cellsOf u).map I.g) 0 (l.map I.g).toArray w hb (by have:=hrow.n; rw [List.size_toArray,List.length_map,List.length_map,hv.n]; omega) (fun q hq=>by
        obtain ⟨q',hq',rfl⟩:=List.mem_map.1 hq
        exact zL (hv.one q' hq'))
      refine Yd.skip' (w':=w.setRow (I.sv m).blk (r.map I.g).toArray) ?_ (h.left (v:=.und) (o':=.pt N r T) ho' ⟨h5.n,h5.one,h5.ok⟩ hU trivial)
      rw [e1,aCe]
      simp only [Nat.add_zero] at hst
      simp only [execOp,ho,h1,h3,Instr.storeAt,Instr.sureAddr,storeVar,Sem.run_bind,Sem.run_pure,Result.andThen_ok,hsz,show (I.g u).cells = _ from gP I.sv u,List.size_toArray,hlen,ne_eq,not_true_eq_false,if_false,gam,hst]
      have hz2:(cellsOf u).length = z:=by rw [hv.n,hc1]
      simp [put,hz2]
theorem aCv (h:SR I env w0 s w) {call:CallT} {o:Oper} {t:Nat} {v:AV} (ho:o.op = .makeMap t none) (hh:aact (tabOf P) call s F o.op = some (v,s')):Yd P o a.eval w (Left I env w0 s s' v):=by
  rw [ho] at hh
  simp only [aact,Option.bind_eq_bind,Option.bind_eq_some_iff] at hh
  obtain ⟨⟨m,s1⟩,hf,hh⟩:=hh
  simp only [Option.some.injEq,Prod.mk.injEq] at hh
  obtain ⟨rfl,rfl⟩:=hh
  have hst:=Step.fresh hf
  obtain ⟨e1,e2⟩:=fT hf
  refine Yd.ok' (v:=.map (some w.heap.size)) (w':=w.alloc (.map #[] 0)) ?_ ⟨I.with s.nx ⟨some ⟨w.heap.size,0,none⟩,0,0⟩ #[],Agree.with _ _ _ _,h.add hf _ (by simp [okO]) ?_,?_,by rw [e2,e1]; exact Nat.lt_succ_self _,hst,by rw [e2]⟩
  · simp only [execOp,ho,Option.map_none,Sem.run_bind,show (Instr.makeMap t none).run P w = .ok (.map (some w.heap.size)) (w.alloc (.map #[] 0)) from rfl,Result.andThen_ok,Sem.run_pure]
  · simp only [res,jW]; exact Added.alloc w _
  · simp only [Ip.g,gam,e1,jW]; rfl
theorem aGr {zs:List Value} {sz:Nat} (hz:zs.length = sz):∀ len:Nat,(List.range (len * sz)).map (fun i=>zs.toArray[i % sz]!) = (List.range len).flatMap fun _=>zs:=by
  intro len
  induction len with
  | zero=>simp
  | succ len ih =>
    rw [Nat.add_mul,Nat.one_mul,List.range_add,List.map_append,ih,List.range_succ,List.flatMap_append,List.map_map]
    congr 1
    simp only [List.flatMap_cons,List.flatMap_nil,List.append_nil]
    apply List.ext_getElem (by simp [hz])
    intro i h1 h2
    simp at h1
    have e:(len * sz + i) % sz = i:=by rw [Nat.mul_comm,Nat.mul_add_mod,Nat.mod_eq_of_lt h1]
    simp [e,h2,getElem!_pos]
theorem eP {α:Type} (zs:List α) (len:Nat):((List.range len).flatMap fun _=>zs).length = len * zs.length:=by
  induction len with
  | zero=>simp
  | succ n ih=>rw [List.range_succ,List.flatMap_append,List.length_append,ih]; simp [Nat.add_mul]
theorem wW (h:SR I env w0 s w) (hF:FR I s.nx n F a dd) {call:CallT} {o:Oper} {t len:Nat} {ps:Array (Nat × Operand)} {v:AV} (ho:o.op = .buildSlice t len ps) (hh:aact (tabOf P) call s F o.op = some (v,s')):Yd P o a.eval w (Left I env w0 s s' v):=by
  rw [ho] at hh
  simp only [aact,Option.bind_eq_bind,Option.bind_eq_some_iff] at hh
  obtain ⟨d,(hd:P.underlying t = some d),hh⟩:=hh
  cases d <;> simp only at hh <;> try (cases hh; done)
  rename_i e
  rw [Option.bind_eq_some_iff] at hh
  obtain ⟨sz,hsz,hh⟩:=hh
  rw [Option.bind_eq_some_iff] at hh
  obtain ⟨z,hz,hh⟩:=hh
  obtain ⟨z1,z2,z3⟩:=jB (P:=P) hz I s.nx w
  obtain ⟨ie,hie,hsz'⟩:=Option.map_eq_some_iff.1 (show (P.info? e).map (·.size) = some sz from hsz)
  split at hh
  · split at hh
    · rename_i hc
      obtain ⟨rfl,hps⟩:=hc
      rw [Option.bind_eq_some_iff] at hh
      obtain ⟨⟨m,s1⟩,hf,hh⟩:=hh
      simp only [Option.some.injEq,Prod.mk.injEq] at hh
      obtain ⟨rfl,rfl⟩:=hh
      have hm:=(fT hf).1
      have hps':ps = #[]:=by
        have:ps.toList = []:=List.isEmpty_iff.1 hps
        exact Array.toList_eq_nil_iff.1 this
      subst hps'
      refine Yd.ok' (v:=.slice (some ⟨w.heap.size,0,none⟩) 0 0) (w':=w.alloc (.cells ((([]:List AV)).map I.g).toArray e (0,0))) ?_ (h.newPt hf ⟨rfl,by simp,by simp⟩ (by simp only [okV]; omega) (fun I' hb=>by simp only [gam,hb]))
      have hr:(Instr.buildSlice t 0 #[]).run P w = .ok (SV.v ⟨some ⟨w.heap.size,0,none⟩,0,0⟩) (w.alloc (.cells #[] e (0,0))):=by
        have e1:∀ w,(sizeOf e).run P w = .ok ie.size w:=fun w=>by simp [sizeOf,typeInfo,hie]
        simp only [Instr.buildSlice,Sem.run_bind,run_underlying hd,Result.andThen_ok,e1,Nat.zero_mul]
        have e0:Array.range 0 = #[]:=by simp
        simp [Instr.fill,newRow]
        rw [e0,Array.map_empty]
      simp only [execOp,ho,Sem.run_bind,List.map_toArray,List.map_nil,Array.map_empty,hr,Result.andThen_ok,Sem.run_pure]
    · cases hh
  · rename_i hc
    simp only [not_or,ne_eq,Decidable.not_not] at hc
    obtain ⟨hc1,hc2,hc3⟩:=hc
    rw [Option.bind_eq_some_iff] at hh
    obtain ⟨vs,hvs,hh⟩:=hh
    rw [Option.bind_eq_some_iff] at hh
    obtain ⟨cs,hcs,hh⟩:=hh
    rw [Option.bind_eq_some_iff] at hh
    obtain ⟨⟨m,s1⟩,hf,hh⟩:=hh
    simp only [Option.some.injEq,Prod.mk.injEq] at hh
    obtain ⟨rfl,rfl⟩:=hh
    have hm:=(fT hf).1
    obtain ⟨p1,p2⟩:=hF.parts hvs
    have hzr:=xX z2 z3
    have hzl:(cellsOf z).length = sz:=by rw [hzr.n,hc3]
    have hrow:Row s.nx (len * sz) ((List.range len).flatMap fun _=>cellsOf z):=by
      refine ⟨by rw [eP,hzl],fun u hu=>?_,fun u hu=>?_⟩
      · obtain ⟨_,_,hu⟩:=List.mem_flatMap.1 hu; exact hzr.one u hu
      · obtain ⟨_,_,hu⟩:=List.mem_flatMap.1 hu; exact hzr.ok u hu
    obtain ⟨h5,h6⟩:=tS (I:=I) vs hcs hrow p2
    obtain ⟨zv,hzv,hzo⟩:=Option.bind_eq_some_iff.1 (show ((P.info? e).bind (·.zero)).bind ofV = some z from hz)
    rw [hie,Option.bind_some] at hzv
    have hzg:I.g z = zv:=(aBd hzo I.sv s.nx).1
    have hzc:zv.cells = ((cellsOf z).map I.g).toArray:=by rw [← hzg]; exact gP I.sv z
    have hfill:Instr.fill (fun i=>some (i * ie.size,ie.size)) ((Array.range (len * ie.size)).map (zv.cells[· % zv.cells.size]!)) (ps.map fun (i,x)=>(i,a.eval x)).toList = some (cs.map I.g).toArray:=by
      rw [hsz',hzc]
      have e2:(Array.range (len * sz)).map (fun i=>((cellsOf z).map I.g).toArray[i % ((cellsOf z).map I.g).toArray.size]!) = (((List.range len).flatMap fun _=>cellsOf z).map I.g).toArray:=by
        have e3:((cellsOf z).map I.g).toArray.size = sz:=by simp [hzl]
        rw [e3,← Array.toList_inj]
        simp only [Array.toList_map,Array.toList_range]
        rw [aGr (by simp [hzl]) len,List.map_flatMap]
      rw [e2]
      rw [Array.toList_map]
      rw [show (ps.toList.map fun (x:Nat × Operand)=>(x.1,a.eval x.2)) = _ from p1]
      exact h6
    have hr:=run_buildSlice (P:=P) w t e len (ps.map fun (i,x)=>(i,a.eval x)) (cs.map I.g).toArray ie zv hd hie hzv (by rw [hsz']; omega) (by rw [hsz']; exact hc1) hfill
    refine Yd.ok' (v:=.slice (some ⟨w.heap.size,0,none⟩) len len) (w':=w.alloc (.cells (cs.map I.g).toArray e (0,0))) ?_ (h.newPt hf h5 (by simp only [okV]; omega) (fun I' hb=>by simp only [gam,hb]))
    simp only [execOp,ho,Sem.run_bind,hr,Result.andThen_ok,Sem.run_pure]
end
end Go.Ev
end
