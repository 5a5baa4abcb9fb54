/- Ground for this claim: The call of TraceApplies returns true. Condition: the arguments are of bulk at most 1048576. -/
import Derived.Laws.MakeOwn
import Derived.Test.YtmgnkohlfbjjnaaGreatRAp4
set_option linter.unusedVariables false
set_option linter.unusedSimpArgs false
section
namespace Go.Fx
open Go Go.Fw
def mk {X:Type} (bytes:Nat) (z:X) (n:Int):Option (List X):=if 0 ≤ n ∧ (bytes:Int) * n ≤ 281474976710656 ∧ n ≤ 4611686018427387904 then some (List.replicate n.toNat z) else none
end Go.Fx
end
section
namespace Go.Fx
open Go Go.Fw Go.Proofs
section
variable {X:Type}
noncomputable def rm (l:List X) (i j:Int) (sp:List X):Option (List X):=open Classical in if i = 0 ∧ 0 ≤ j ∧ l = l.take j.toNat ++ sp ∧ sp.length = 2 then some (l.take j.toNat) else none
theorem wY {l y sp:List X} {i j:Int} (h:rm l i j sp = some y):i = 0 ∧ j = (y.length:Int) ∧ l = y ++ sp ∧ sp.length = 2:=by
  unfold rm at h
  split at h
  · rename_i k
    obtain ⟨k1,k2,k3,k4⟩:=k
    cases h
    have hl:=congrArg List.length k3
    simp at hl
    exact ⟨k1,by simp; omega,k3,k4⟩
  · cases h
theorem uC {y sp:List X} (h:sp.length = 2):rm (y ++ sp) 0 (y.length:Int) sp = some y:=by
  unfold rm
  rw [if_pos ⟨rfl,by omega,by simp,h⟩]; simp
theorem lI {l y sp:List X} {i j:Int} (h:rm l i j sp = some y):Fx.slc l i j = some y:=by
  obtain ⟨rfl,rfl,rfl,h2⟩:=wY h
  unfold Fx.slc
  rw [if_pos (by simp; omega)]; simp
end
section
variable {X:Type} [Enc X]
def stretch (s:SV):SV:=⟨s.a,s.len + 2,s.cap⟩
structure RmOf (w:World) (s:SV) (l sp:List X):Prop where
  full:SliceOf 0 w (stretch s) (l ++ sp)
  two:sp.length = 2
theorem RmOf.sl {w:World} {s:SV} {l sp:List X} (h:RmOf w s l sp):SliceOf 0 w s l:=by
  obtain ⟨h,h2⟩:=h
  have h1:=h.len
  have h3:=h.room
  have h4:=h.cells
  simp only [stretch,List.length_append] at h1 h3 h4
  refine ⟨by omega,by omega,?_⟩
  obtain ⟨sa,sl,sc⟩:=s
  cases sa with
  | none=>have:=congrArg List.length h4.1; simp at this; omega
  | some ad =>
    obtain ⟨k1,k2,k3⟩:=h4
    refine ⟨.inr (k1.resolve_left fun k=>by rw [List.append_eq_nil_iff] at k; rw [k.2] at h2; cases h2),k2,fun j v hj=>k3 j v ?_⟩
    rw [eJ,List.getElem?_append_left (List.getElem?_eq_some_iff.1 hj).1]
    exact hj
def LRm (L:World → Prop) (s:SV) (l sp:List X):Prop:=∀ w,L w → RmOf w s l sp
theorem LRm.mono {L L':World → Prop} {s:SV} {l sp:List X} (h:LRm L s l sp) (k:∀ w,L' w → L w):LRm L' s l sp:=fun w hM=>h w (k w hM)
theorem LRm.toIn {L:World → Prop} {s:SV} {l sp:List X} (h:LRm L s l sp):LIn L s l:=fun w hM=>(h w hM).sl
theorem LRm.full {L:World → Prop} {s:SV} {l sp:List X} (h:LRm L s l sp):LIn L (stretch s) (l ++ sp):=fun w hM=>(h w hM).full
theorem xV {s:SV} {n sz:Nat} (h:s.len = n + 2):stretch (s.cut 0 n sz) = s:=by
  obtain ⟨sa,sl,sc⟩:=s
  simp only at h
  subst h
  simp only [SV.cut,stretch,Nat.sub_zero,Nat.zero_mul]
  congr 1
  split
  · rfl
  · cases sa <;> simp [Addr.add]
theorem lH {s:SV} {e:Nat} {l y sp:List X} {i j:Int} {sz:Nat} (h:rm l i j sp = some y) (hsz:Enc.sz X = sz):LRm (rowL 0 s e l).holds' (s.cut i.toNat j.toNat sz) y sp:=by
  obtain ⟨rfl,rfl,rfl,h2⟩:=wY h
  intro w hw
  have hs:SliceOf 0 w s (y ++ sp):=dN hw
  have hl:=hs.len
  simp only [List.length_append] at hl
  refine ⟨?_,h2⟩
  rw [Int.toNat_zero,Int.toNat_natCast,xV (by omega)]
  exact hs
theorem aBn {Y:Type} {s:SV} {e:Nat} {hs hsp:List X} {xn l spl y sp:List Y} {i j:Int} {sz:Nat} (hl:hs.length = l.length) (ha:xn = l ++ spl) (h2:spl.length = 2) (h3:hsp.length = 2) (h:rm xn i j sp = some y) (hsz:Enc.sz X = sz) :
    y = l ∧ Fx.slc (hs ++ hsp) i j = some hs ∧ LRm (rowL 0 s e (hs ++ hsp)).holds' (s.cut i.toNat j.toNat sz) hs hsp:=by
  obtain ⟨rfl,rfl,h5,h6⟩:=wY h
  rw [ha] at h5
  have hy:y = l:=by
    have:=congrArg List.length h5
    simp at this
    exact (List.append_inj h5 (by omega)).1.symm
  subst hy
  have hr:rm (hs ++ hsp) 0 (y.length:Int) hsp = some hs:=by rw [← hl]; exact uC h3
  exact ⟨rfl,lI hr,lH hr hsz⟩
end
def spU8:List UInt8:=[161,162]
def spInt:List Int:=[-7,-8]
def spTurn:List LTurn:=[⟨-7,LVal.zero,LVal.zero⟩,⟨-8,LVal.zero,LVal.zero⟩]
def spCell:List LCell:=[⟨-7,LSlot.zero,LSlot.zero⟩,⟨-8,LSlot.zero,LSlot.zero⟩]
def spPiece:List QPiece:=[⟨0,-7,[],[]⟩,⟨0,-8,[],[]⟩]
def hspPiece:List RPiece:=[⟨0,-7,SV.nil,SV.nil⟩,⟨0,-8,SV.nil,SV.nil⟩]
def BytesRm (L:World → Prop) (s:SV) (l:List UInt8):Prop:=LRm L s l spU8
theorem BytesRm.mono {L L':World → Prop} {s:SV} {l:List UInt8} (h:BytesRm L s l) (k:∀ w,L' w → L w):BytesRm L' s l:=LRm.mono h k
theorem BytesRm.toIn {L:World → Prop} {s:SV} {l:List UInt8} (h:BytesRm L s l):LIn L s l:=LRm.toIn h
def QPieceRm (L:World → Prop) (x:RPiece) (p:QPiece):Prop:=∃ (s_old:SV) (s_new:SV),x = (RPiece.mk p.table p.from_ s_old s_new) ∧ LRm L s_old p.old spU8 ∧ LRm L s_new p.new spU8
theorem QPieceRm.mono {L L':World → Prop} {x:RPiece} {p:QPiece} (h:QPieceRm L x p) (k:∀ w,L' w → L w):QPieceRm L' x p:=by
  obtain ⟨s_old,s_new,e,h0,h1⟩:=h
  exact ⟨s_old,s_new,e,h0.mono k,h1.mono k⟩
theorem QPieceRm.toIn {L:World → Prop} {x:RPiece} {p:QPiece} (h:QPieceRm L x p):QPieceIn L x p:=by
  obtain ⟨s_old,s_new,e,h0,h1⟩:=h
  exact ⟨s_old,s_new,e,h0.toIn,h1.toIn⟩
def QMarkRm (L:World → Prop) (x:RMark) (p:QMark):Prop:=∃ (s_regs:SV) (s_slots:SV) (s_pieces:SV) (h_pieces:List RPiece) (s_sent:SV),x = (RMark.mk p.at_ p.next p.done s_regs s_slots s_pieces s_sent) ∧ LRm L s_regs p.regs spTurn ∧ LRm L s_slots p.slots spCell ∧ LRm L s_pieces h_pieces hspPiece ∧ Each (QPieceRm L) h_pieces p.pieces ∧ LRm L s_sent p.sent spInt
theorem QMarkRm.mono {L L':World → Prop} {x:RMark} {p:QMark} (h:QMarkRm L x p) (k:∀ w,L' w → L w):QMarkRm L' x p:=by
  obtain ⟨s_regs,s_slots,s_pieces,h_pieces,s_sent,e,h0,h1,h2,h3,h4⟩:=h
  exact ⟨s_regs,s_slots,s_pieces,h_pieces,s_sent,e,h0.mono k,h1.mono k,h2.mono k,h3.mono fun _ _ q=>q.mono k,h4.mono k⟩
theorem QMarkRm.toIn {L:World → Prop} {x:RMark} {p:QMark} (h:QMarkRm L x p):QMarkIn L x p:=by
  obtain ⟨s_regs,s_slots,s_pieces,h_pieces,s_sent,e,h0,h1,h2,h3,h4⟩:=h
  exact ⟨s_regs,s_slots,s_pieces,h_pieces,s_sent,e,h0.toIn,h1.toIn,h2.toIn,h3.mono fun _ _ q=>q.toIn,h4.toIn⟩
theorem mN {L:World → Prop} {hs:List RPiece} {l:List QPiece} (h:Each (QPieceRm L) hs l):Each (QPieceIn L) (hs ++ hspPiece) (l ++ spPiece) :=
  (h.mono fun _ _ q=>q.toIn).append ((Each.nil.snoc (R:=QPieceIn L) (x:=RPiece.mk 0 (-7) SV.nil SV.nil) (y:=QPiece.mk 0 (-7) [] []) ⟨SV.nil,SV.nil,rfl,LIn.nil,LIn.nil⟩).snoc (x:=RPiece.mk 0 (-8) SV.nil SV.nil) (y:=QPiece.mk 0 (-8) [] []) ⟨SV.nil,SV.nil,rfl,LIn.nil,LIn.nil⟩)
section
variable {P:Program} {n:Nat} {F:List (Nat × Value)} {a:Act} {dd:List Deferred} {w:World} {o:Oper}
theorem oL {X:Type} [Enc X] {t e:TypeId} {x y:Operand} {s:SV} {l sp:List X} {w1:World} {ti:TypeInfo} {k:IntKind} {z:Int} (hs:RmOf w1 s l sp) (ht:P.underlying t = some (.slice e)) (hi:P.info? e = some ti) (hF:Fr n F a dd) (ho:o.op = .slice t x none (some y) none)
    (hx:ev F x = some s.v) (hy:ev F y = some (.int k z)) (hz:decide (z = (l.length:Int) + 2) = true):(execOp a.eval o).run P w = .ok (.value (stretch s).v) w:=by
  have hz:=of_decide_eq_true hz
  have h1:=hs.sl.len
  have h2:=hs.full.room
  obtain ⟨sa,sl,sc⟩:=s
  simp only [stretch] at h1 h2
  subst hz
  have h3:((l.length:Int) + 2) = ((sl + 2:Nat):Int):=by omega
  rw [h3] at hy
  have eb:∀ (v:Value) (k:IntKind) (q c:Nat) (bc:BoundsCode),v = .int k (q:Nat) → q ≤ c → (Instr.sliceBound v c bc).run P w = .ok q w:=by
    intro v k q c bc hv hq
    subst hv
    have hq':(0:Int) ≤ (q:Int) ∧ (q:Int) ≤ (c:Int):=by omega
    simp only [Instr.sliceBound,asIntOf,Sem.run_bind,Sem.run_pure,Result.andThen_ok,if_pos hq',Int.toNat_natCast]
  have e2:(Instr.sliceBounds true sl sc none (some (a.eval y)) none).run P w = .ok (0,sl + 2,sc) w:=by
    simp only [Instr.sliceBounds,hF.eval hy,eb _ k (sl + 2) sc _ rfl h2,Sem.run_bind,Sem.run_pure,Result.andThen_ok]
  have e3:(Instr.sliceAt t (.slice sa sl sc) none (some (a.eval y)) none).run P w = .ok (SV.v ⟨sa,sl + 2,sc⟩) w:=by
    have hc:¬ sc = 0:=by omega
    simp [Instr.sliceAt,Instr.slice,run_underlying ht,e2,sizeOf,typeInfo,hi,SV.v,hc]
    cases sa <;> simp [hc,Addr.add]
  simp only [execOp,ho,hF.eval hx,SV.v,Option.map_none,Option.map_some,Sem.run_bind,Result.andThen_ok,Sem.run_pure,stretch] at e3 ⊢
  simp only [e3,Result.andThen_ok]
end
end Go.Fx
end
section
namespace Go.Fx
open Go Go.Fw
def ApartR (r s:Res):Prop:=∀ k,r.fp k → ¬ s.fp k
theorem ApartR.symm {r s:Res} (h:ApartR r s):ApartR s r:=fun k h1 h2=>h k h2 h1
theorem iQ {w:World} {L:List Res}:MemL w L ↔ (∀ r ∈ L,r.holds w) ∧ L.Pairwise ApartR:=by
  constructor
  · intro h
    refine ⟨fun r hr=>?_,?_⟩
    · obtain ⟨i,hi⟩:=List.mem_iff_getElem?.1 hr; exact h.hold i r hi
    · rw [List.pairwise_iff_getElem]
      intro i j hi hj hij
      exact h.apart i j _ _ (List.getElem?_eq_getElem hi) (List.getElem?_eq_getElem hj) (by omega)
  · rintro ⟨h1,h2⟩
    rw [List.pairwise_iff_getElem] at h2
    refine ⟨fun i r hi=>h1 r (List.mem_of_getElem? hi),fun i j r s hi hj hij=>?_⟩
    obtain ⟨a,rfl⟩:=List.getElem?_eq_some_iff.1 hi
    obtain ⟨b,rfl⟩:=List.getElem?_eq_some_iff.1 hj
    rcases Nat.lt_or_gt_of_ne hij with h | h
    · exact h2 i j a b h
    · exact ApartR.symm (h2 j i b a h)
theorem permM {w:World} {L L':List Res} (h:MemL w L) (p:L.Perm L'):MemL w L':=by
  rw [iQ] at h ⊢
  exact ⟨fun r hr=>h.1 r (p.mem_iff.2 hr),(p.pairwise_iff ApartR.symm).1 h.2⟩
abbrev manyR (p:Prop) (A:List Res):Res:=.gen (fun k=>∃ r ∈ A,r.fp k) (fun w=>p ∧ MemL w A)
section
variable {w w':World} {A L:List Res} {p:Prop}
theorem movedM (h:MemL w A) (hio:Io w w') (hs:w.heap.size ≤ w'.heap.size) (hk:∀ k,(∃ r ∈ A,r.fp k) → w'.heap[k]? = w.heap[k]?):MemL w' A :=
  ⟨fun i r hi=>Res.keep (h.hold i r hi) hio hs fun k hf=>hk k ⟨r,List.mem_of_getElem? hi,hf⟩,h.apart⟩
theorem tI (hp:p) (h:MemL w A):(manyR p A).holds w:=by
  rw [iQ] at h
  exact ⟨fun k ⟨r,hr,hf⟩=>Res.fp_lt (h.1 r hr) hf,fun w' a b c=>⟨hp,movedM (iQ.2 h) a b c⟩⟩
theorem kS (h:(manyR p A).holds w):p ∧ MemL w A:=h.2 w (Io.refl w) (Nat.le_refl _) fun _ _=>rfl
theorem packM (hp:p) (h:MemL w (A ++ L)):MemL w (manyR p A :: L):=by
  rw [iQ,List.pairwise_append] at h
  obtain ⟨h1,h2,h3,h4⟩:=h
  rw [iQ,List.pairwise_cons]
  refine ⟨fun r hr=>?_,fun s hs k ⟨r,hr,hf⟩ hf'=>h4 r hr s hs k hf hf',h3⟩
  rcases List.mem_cons.1 hr with rfl | hr
  · exact tI hp (iQ.2 ⟨fun r hr=>h1 r (List.mem_append_left _ hr),h2⟩)
  · exact h1 r (List.mem_append_right _ hr)
theorem unpackM (h:MemL w (manyR p A :: L)):p ∧ MemL w (A ++ L):=by
  obtain ⟨hp,hA⟩:=kS (h.hold 0 _ rfl)
  rw [iQ] at h hA
  rw [List.pairwise_cons] at h
  rw [iQ,List.pairwise_append]
  refine ⟨hp,fun r hr=>?_,hA.2,h.2.2,fun r hr s hs k hf hf'=>h.2.1 s hs k ⟨r,hr,hf⟩ hf'⟩
  rcases List.mem_append.1 hr with hr | hr
  · exact hA.1 r hr
  · exact h.1 r (List.mem_cons_of_mem _ hr)
end
def rowsR (hs:List SV) (ls:List (List UInt8)):List Res:=List.zipWith (fun h l=>rowL 0 h 5 l) hs ls
def packR (hs:List SV) (ls:List (List UInt8)):Res:=manyR (hs.length = ls.length) (rowsR hs ls)
def pk (ls:List (List UInt8)) (k:Nat):List UInt8:=ls.getD k []
section
variable {w w':World} {L:List Res} {hs:List SV} {ls m:List (List UInt8)} {h s:SV} {l:List UInt8}
theorem yO (q:(packR hs ls).holds' w):hs.length = ls.length:=(kS q).1
theorem yY {k:Nat} (h1:hs[k]? = some h) (h2:ls[k]? = some l):(rowsR hs ls)[k]? = some (rowL 0 h 5 l):=by
  unfold rowsR; rw [List.getElem?_zipWith,h1,h2]
theorem qH {k:Nat} (q:(packR hs ls).holds' w) (hk:hs[k]? = some h):ls[k]? = some (pk ls k) ∧ Own 0 w 5 h (pk ls k):=by
  have hl:=yO q
  have:k < ls.length:=by rw [← hl]; exact (List.getElem?_eq_some_iff.1 hk).1
  have e:ls[k]? = some (pk ls k):=by simp [pk,this]
  exact ⟨e,(kS q).2.hold k _ (yY hk e)⟩
theorem wS {k:Nat} (q:(packR hs ls).holds' w) (hk:hs[k]? = some h):SliceOf 0 w h (pk ls k):=Own.slice (qH q hk).2
theorem lT (e:hs.length = ls.length):Each (LIn (X:=UInt8) (packR hs ls).holds') hs ls:=by
  refine ⟨e,fun i x y hx hy w q=>?_⟩
  have:=wS q hx
  rwa [show pk ls i = y by simp [pk,hy]] at this
theorem tQ (h:MemL w L):MemL w (packR [] [] :: L):=packM (A:=rowsR [] []) rfl h
theorem rA (q:MemL w (packR hs ls :: rowL 0 h 5 l :: L)) (e:m = ls ++ [l]):MemL w (packR (hs ++ [h]) m :: L):=by
  subst e
  obtain ⟨h1,h2⟩:=unpackM q
  refine packM (by simp [h1]) ?_
  have e:rowsR (hs ++ [h]) (ls ++ [l]) = rowsR hs ls ++ [rowL 0 h 5 l]:=by unfold rowsR; rw [List.zipWith_append h1]; rfl
  rw [e]; simpa using h2
theorem vJ (q:MemL w (packR hs ls :: rowL 0 h 5 l :: L)):MemL w (packR (h :: hs) (l :: ls) :: L):=by
  obtain ⟨h1,h2⟩:=unpackM q
  refine packM (by simp [h1]) ?_
  exact permM h2 List.perm_middle
theorem tR (q:MemL w (packR (h :: hs) ls :: L)):MemL w (rowL 0 h 5 (pk ls 0) :: packR hs ls.tail :: L) ∧ hs.length = ls.tail.length:=by
  obtain ⟨h1,h2⟩:=unpackM q
  cases ls with
  | nil=>simp at h1
  | cons l ls =>
    have e:hs.length = ls.length:=by simpa using h1
    refine ⟨?_,e⟩
    have h3:MemL w (rowL 0 h 5 l :: (rowsR hs ls ++ L)):=h2
    have h4:MemL w (rowsR hs ls ++ (rowL 0 h 5 l :: L)):=permM h3 List.perm_middle.symm
    exact permM (packM e h4) (List.Perm.swap _ _ _)
theorem yP {k:Nat} {l':List UInt8} (q:(packR hs ls).holds' w) (hk:hs[k]? = some h) (hU:Upd (rowL 0 h 5 (pk ls k)) (rowL 0 h 5 l') w w'):Upd (packR hs ls) (packR hs (ls.set k l')) w w':=by
  obtain ⟨e,ho⟩:=qH q hk
  have hr:=yY hk e
  have hin:rowL 0 h 5 (pk ls k) ∈ rowsR hs ls:=List.mem_of_getElem? hr
  have hlt:k < ls.length:=(List.getElem?_eq_some_iff.1 e).1
  have es:rowsR hs (ls.set k l') = (rowsR hs ls).set k (rowL 0 h 5 l'):=by
    unfold rowsR
    apply List.ext_getElem?
    intro j
    rw [List.getElem?_zipWith,List.getElem?_set,List.getElem?_set,List.getElem?_zipWith]
    by_cases hj:k = j
    · subst hj
      rw [if_pos rfl,if_pos rfl,if_pos hlt,if_pos (by rw [List.length_zipWith]; have:=(List.getElem?_eq_some_iff.1 hk).1; omega),hk]
    · rw [if_neg hj,if_neg hj]
  obtain ⟨h1,h2⟩:=kS q
  refine ⟨hU.io,hU.size,fun j hj hf=>hU.block j hj fun hf'=>hf ⟨_,hin,hf'⟩,?_,?_⟩
  · refine tI (by rw [List.length_set]; exact h1) ?_
    rw [es]
    exact h2.chg hU hr
  · rintro j ⟨r,hr',hf⟩
    rw [es] at hr'
    rcases List.mem_or_eq_of_mem_set hr' with hr' | rfl
    · exact .inl ⟨r,hr',hf⟩
    · rcases hU.fp j hf with h | h
      · exact .inl ⟨_,hin,h⟩
      · exact .inr h
theorem zI {A B:Type} {h:A} {hs:List A} {ls:List B} (e:(h :: hs).length = ls.length):hs.length = ls.tail.length:=by
  rw [List.length_tail,← e]; rfl
theorem aBp {A B:Type} {hs:List A} {ls:List B} {k:Nat} {x:B} (e:hs.length = ls.length):hs.length = (ls.set k x).length:=by rw [List.length_set]; exact e
theorem vK {i:Int} {x:List UInt8} (hl:(h :: hs).length = ls.length) (hx:Fx.get ls.tail i = some x):(0 ≤ i ∧ i < (hs.length:Int)) ∧ ∃ y,hs[i.toNat]? = some y ∧ (h :: hs)[i.toNat + 1]? = some y:=by
  obtain ⟨h0,h1⟩:=aM hx
  have h2:=(List.getElem?_eq_some_iff.1 h1).1
  have e:hs.length = ls.tail.length:=zI hl
  have h3:i.toNat < hs.length:=by omega
  exact ⟨by omega,hs[i.toNat],List.getElem?_eq_getElem h3,by simp [h3]⟩
def MixP (B:World → Prop) (n:Nat) (hs:List SV) (ls:List (List UInt8)):Prop:=hs.length = ls.length ∧ ∀ i x y,n ≤ i → hs[i]? = some x → ls[i]? = some y → LIn B x y
theorem aH3 {B:World → Prop} (q:Each (LIn (X:=UInt8) B) hs ls):MixP B 0 hs ls:=⟨q.len,fun i x y _ hx hy=>q.at_ i x y hx hy⟩
theorem yH {B:World → Prop} {n:Nat} {i:Int} {x:List UInt8} (q:MixP B n hs ls) (hx:Fx.get ls i = some x):(0 ≤ i ∧ i < (hs.length:Int)) ∧ ∃ y,hs[i.toNat]? = some y ∧ (n ≤ i.toNat → LIn B y x):=by
  obtain ⟨h0,h1⟩:=aM hx
  have h2:=(List.getElem?_eq_some_iff.1 h1).1
  have h3:i.toNat < hs.length:=by rw [q.1]; exact h2
  exact ⟨by omega,hs[i.toNat],List.getElem?_eq_getElem h3,fun hn=>q.2 _ _ _ hn (List.getElem?_eq_getElem h3) h1⟩
theorem aCl {B:World → Prop} {n:Nat} {i:Int} {x:List UInt8} (q:MixP B n hs ls) (hx:Fx.get ls i = some x) (hi:i.toNat = n):MixP B (n + 1) (hs.set i.toNat h) ls :=
  ⟨by rw [List.length_set]; exact q.1,fun j a b hj ha hb=>by
    rw [List.getElem?_set] at ha
    rw [if_neg (by omega)] at ha
    exact q.2 j a b (by omega) ha hb⟩
theorem aEf {B:World → Prop} {n:Nat} {i:Int} {x:List UInt8} (q:MixP B n hs ls) (hx:Fx.get ls i = some x) (hi:i.toNat = n) (hM:MemL w (packR (hs.take n) (ls.take n) :: rowL 0 h 5 x :: L)) :
    MemL w (packR ((hs.set i.toNat h).take (n + 1)) (ls.take (n + 1)) :: L):=by
  subst hi
  obtain ⟨h0,h1⟩:=aM hx
  have h2:=(List.getElem?_eq_some_iff.1 h1).1
  have h3:i.toNat < hs.length:=by rw [q.1]; exact h2
  have e1:(hs.set i.toNat h).take (i.toNat + 1) = hs.take i.toNat ++ [h]:=by
    rw [List.take_add_one]
    rw [List.getElem?_set,if_pos rfl,if_pos h3]
    congr 1
    rw [List.take_set_of_le (Nat.le_refl _)]
  rw [e1]
  refine rA hM ?_
  rw [List.take_add_one,h1]; rfl
theorem aEe {B:World → Prop} {n:Nat} (q:MixP B n hs ls) (hn:ls.length ≤ n) (hM:MemL w (packR (hs.take n) (ls.take n) :: L)):MemL w (packR hs ls :: L):=by
  rwa [List.take_of_length_le (by rw [q.1]; exact hn),List.take_of_length_le hn] at hM
end
theorem aGt {X:Type} [Enc X] {w:World} {lo e sz:Nat} {s:SV} {l m:List X} {j:Int} (h:Own lo w e s l) (hc:Fx.slc l 0 j = some m):Own lo w e (s.cut (0:Int).toNat j.toNat sz) m ∧ ((s.cut (0:Int).toNat j.toNat sz).v.ownBlock = s.v.ownBlock):=by
  obtain ⟨h1,rfl⟩:=nS hc
  have h0:∀ o:Option Addr,o.map (·.add (0 * sz)) = o:=by intro o; cases o <;> simp [Addr.add]
  have e1:s.cut (0:Int).toNat j.toNat sz = ⟨s.a,j.toNat,s.cap⟩:=by
    show (⟨if s.cap - 0 = 0 then s.a else s.a.map (·.add (0 * sz)),j.toNat - 0,s.cap - 0⟩ : SV) = _
    rw [h0,ite_self,Nat.sub_zero,Nat.sub_zero]
  rw [e1]
  have hj:j.toNat ≤ l.length:=by omega
  have e2:(List.drop (0:Int).toNat l).take (j.toNat - (0:Int).toNat) = l.take j.toNat:=by simp
  rw [e2]
  have el:(l.take j.toNat).length = j.toNat:=by simp; omega
  rcases h with ⟨g1,g2⟩
  rcases g2 with ⟨g2,g3⟩ | ⟨g,cap,cur,g2,g3,g4,g5,g6,g7,g8⟩
  · obtain ⟨a,b,c⟩:=s
    cases g2
    have:j.toNat = 0:=by omega
    refine ⟨⟨by rw [dX],.inl ⟨by simp [SV.v,this],by rw [el,this]⟩⟩,by simp [SV.v,Value.ownBlock]⟩
  · obtain ⟨a,b,c⟩:=s
    cases g2
    refine ⟨⟨by rw [dX],.inr ⟨g,c,cur,by simp only [SV.v]; rw [el],g3,g4,by simp only at g5; omega,g6,g7,?_⟩⟩,rfl⟩
    rw [el]
    have:cur.toList.take (j.toNat * Enc.sz X) = (cur.toList.take (l.length * Enc.sz X)).take (j.toNat * Enc.sz X):=by
      rw [List.take_take,Nat.min_eq_left (Nat.mul_le_mul_right _ hj)]
    rw [this,g8]
    have h':=eJ (l.take j.toNat) (l.drop j.toNat)
    rw [List.take_append_drop] at h'
    rw [h',List.take_left' (by rw [dX,el])]
theorem aF6 {X:Type} [Enc X] {w:World} {L:List Res} {e sz:Nat} {s:SV} {l m:List X} {j:Int} {i:Nat} (h:MemL w L) (hi:L[i]? = some (rowL 0 s e l)) (hc:Fx.slc l 0 j = some m):MemL w (L.set i (rowL 0 (s.cut (0:Int).toNat j.toNat sz) e m)):=by
  obtain ⟨h1,h2⟩:=aGt (sz:=sz) (h.own hi) hc
  exact h.upd i hi (Io.refl w) (Nat.le_refl _) (fun _ _ _=>rfl) h1 fun k hk=>.inl (by simp only [Res.fp] at hk ⊢; rw [← h2]; exact hk)
def cpa {X:Type} (l:List X) (i:Int) (m:List X):Option (List X):=if 0 ≤ i ∧ i.toNat + m.length ≤ l.length then some (put l i.toNat m) else none
theorem aDf {X:Type} {l m r:List X} {i:Int} (h:cpa l i m = some r):(0 ≤ i ∧ i.toNat + m.length ≤ l.length) ∧ r = put l i.toNat m:=by
  unfold cpa at h
  split at h
  · cases h; exact ⟨by assumption,rfl⟩
  · cases h
section
variable {P:Program} {n:Nat} {F:List (Nat × Value)} {a:Act} {dd:List Deferred} {w:World} {o:Oper} {J:Value → World → Prop}
theorem aHi {t dT lo' k:Nat} {s sx:SV} {hs:List SV} {ls:List (List UInt8)} {xs r:List UInt8} {i j:Int} {sz:Nat} {ti:TypeInfo} {x y:Operand} (hr:Fx.cpa (pk ls k) i xs = some r) (hj:j = ((pk ls k).length:Int)) (ht:P.underlying dT = some (.slice 5)) (hi:P.info? 5 = some ti) (hs1:ti.size = 1) (hsz:sz = 1)
    (hF:Fr n F a dd) (ho:o.op = .call { callee:=.builtin .copy,args:=#[x,y],argTypes:=#[dT,t] }) (hx:ev F x = some (s.cut i.toNat j.toNat sz).v) (hy:ev F y = some sx.v)
    (q:(packR hs ls).holds' w) (hk:hs[k]? = some s) (hsx:SliceOf lo' w sx xs)
    (next:∀ w',Upd (packR hs ls) (packR hs (ls.set k r)) w w' → J (.int .i64 (xs.length:Nat)) w'):Yd P o a.eval w J:=by
  obtain ⟨h1,rfl⟩:=aDf hr
  subst hj hsz
  exact vX (ty:=0) (i:=i.toNat) (l:=pk ls k) ht hi hs1 rfl hF ho hx hy (qH q hk).2 hsx h1.2 fun w' hU=>next w' (yP q hk hU)
theorem aFn {t k off:Nat} {i:Int} {x y:Operand} {s:SV} {hs:List SV} {ls:List (List UInt8)} {p u:UInt8} (hsz:∀ w,(sizeOf t).run P w = .ok 1 w) (q:(packR hs ls).holds' w) (hk:hs[k]? = some s) (hp:(pk ls k)[i.toNat]? = some p) (hF:Fr n F a dd) (ho:o.op = .store t x y)
    (hx:ev F x = some (.pointer (some ⟨s.blk,off,none⟩))) (hoff:off = s.off + (i.toNat * 1 + 0)) (hy:ev F y = some (.int .u8 (u.toNat:Int)))
    (next:∀ w',Upd (packR hs ls) (packR hs (ls.set k ((pk ls k).set i.toNat u))) w w' → J undef w'):Yd P o a.eval w J :=
  eY (X:=UInt8) (d:=0) (q:=u) hsz (qH q hk).2 hp hF ho hx hoff hy rfl (by decide) rfl fun w' hU=>next w' (yP q hk hU)
end
end Go.Fx
end
section
namespace Go.Fx
open Go Go.Fw Go.Proofs
def Soft (f:Nat → Prop) (w:World):Prop:=∀ k,f k → ∃ cs T,w.heap[k]? = some (.cells cs T (0,0))
structure SRes where
  f:Nat → Prop
  Q:World → Prop
def SRes.r (x:SRes):Res:=.gen x.f (fun w=>x.Q w ∧ Soft x.f w)
class SoftR (r:Res):Prop where
  soft:∀ w,r.holds w → Soft r.fp w
instance {lo e sz n:Nat} {v:Value} {xs:List Value}:SoftR (.row lo v e sz n xs) where
  soft:=fun w h k hk=>by
    rcases h.2 with ⟨h1,h2⟩ | ⟨g,cap,cur,h1,h3,h4,h5⟩
    · rw [h1] at hk; simp [Res.fp,Value.ownBlock] at hk
    · rw [h1] at hk
      simp only [Res.fp,Value.ownBlock,Option.some.injEq] at hk
      subst hk
      exact ⟨cur,e,h4⟩
instance {b T:Nat} {cs:Array Value}:SoftR (.obj b (.cells cs T (0,0))) where
  soft:=fun w h k hk=>by
    simp only [Res.fp] at hk
    subst hk
    exact ⟨cs,T,h⟩
theorem SRes.now {x:SRes} {w:World} (h:x.r.holds w):x.Q w ∧ Soft x.f w:=h.2 w (Io.refl w) (Nat.le_refl _) fun _ _=>rfl
instance (x:SRes):SoftR x.r where
  soft:=fun w h=>(SRes.now h).2
instance {hs:List SV} {ls:List (List UInt8)}:SoftR (packR hs ls) where
  soft:=fun w h k hk=>by
    obtain ⟨r,hr,hf⟩:=hk
    have hM:=(iQ.1 (kS h).2).1 r hr
    obtain ⟨i,hi⟩:=List.mem_iff_getElem?.1 hr
    unfold rowsR at hi
    rw [List.getElem?_zipWith] at hi
    split at hi
    · cases hi
      exact SoftR.soft (r:=Res.row _ _ _ _ _ _) w hM k hf
    · cases hi
section
variable {w:World} {L:List Res}
theorem joinS {r s:Res} [SoftR r] [SoftR s] (h:MemL w (r :: s :: L)):∃ q:SRes,(∀ w,q.r.holds' w → r.holds' w) ∧ (∀ w,q.r.holds' w → s.holds' w) ∧ MemL w (q.r :: L) :=
  ⟨⟨fun k=>r.fp k ∨ s.fp k,fun w=>r.holds' w ∧ s.holds' w⟩,fun w h=>(SRes.now h).1.1,fun w h=>(SRes.now h).1.2,
    h.both.weak fun w hq=>⟨hq,fun k hk=>hk.elim (SoftR.soft w hq.1 k) (SoftR.soft w hq.2 k)⟩⟩
theorem voidS (h:MemL w L):∃ q:SRes,MemL w (q.r :: L) :=
  ⟨⟨fun _=>False,fun _=>True⟩,h.void (Q:=fun w=>True ∧ Soft (fun _=>False) w) fun w=>⟨trivial,fun _ hk=>hk.elim⟩⟩
theorem oneS {r:Res} [SoftR r] (h:MemL w (r :: L)):∃ q:SRes,(∀ w,q.r.holds' w → r.holds' w) ∧ MemL w (q.r :: L) :=
  ⟨⟨r.fp,r.holds'⟩,fun w h=>(SRes.now h).1,h.freeze.weak fun w hq=>⟨hq,SoftR.soft w hq⟩⟩
end
def Like (u v:Value):Prop:=u = v ∨ (∃ i j,u = .int .i64 i ∧ v = .int .i64 j) ∨ ∃ a b:UInt8,u = .int .u8 (a.toNat:Int) ∧ v = .int .u8 (b.toNat:Int)
theorem Like.refl (u:Value):Like u u:=.inl rfl
theorem Like.trans {u v x:Value} (h:Like u v) (k:Like v x):Like u x:=by
  rcases h with rfl | ⟨i,j,rfl,rfl⟩ | ⟨a,b,rfl,rfl⟩
  · exact k
  · rcases k with rfl | ⟨i',j',_,rfl⟩ | ⟨a,b,h,_⟩
    · exact .inr (.inl ⟨_,_,rfl,rfl⟩)
    · exact .inr (.inl ⟨_,_,rfl,rfl⟩)
    · cases h
  · rcases k with rfl | ⟨i',j',h,_⟩ | ⟨a',b',_,rfl⟩
    · exact .inr (.inr ⟨_,_,rfl,rfl⟩)
    · cases h
    · exact .inr (.inr ⟨_,_,rfl,rfl⟩)
theorem Like.i64 {i:Int} {u:Value} (h:Like (.int .i64 i) u):∃ j,u = .int .i64 j:=by
  rcases h with rfl | ⟨_,j,_,rfl⟩ | ⟨a,b,h,_⟩
  · exact ⟨_,rfl⟩
  · exact ⟨_,rfl⟩
  · cases h
theorem Like.u8 {a:UInt8} {u:Value} (h:Like (.int .u8 (a.toNat:Int)) u):∃ b:UInt8,u = .int .u8 (b.toNat:Int):=by
  rcases h with rfl | ⟨_,j,h,_⟩ | ⟨_,b,_,rfl⟩
  · exact ⟨_,rfl⟩
  · cases h
  · exact ⟨_,rfl⟩
theorem Like.slice {a:Option Addr} {n c:Nat} {u:Value} (h:Like (.slice a n c) u):u = .slice a n c:=by
  rcases h with rfl | ⟨_,j,h,_⟩ | ⟨_,b,h,_⟩
  · rfl
  · cases h
  · cases h
theorem Like.bool {b:Bool} {u:Value} (h:Like (.bool b) u):u = .bool b:=by
  rcases h with rfl | ⟨_,j,h,_⟩ | ⟨_,b,h,_⟩
  · rfl
  · cases h
  · cases h
theorem Like.ints (i j:Int):Like (.int .i64 i) (.int .i64 j):=.inr (.inl ⟨_,_,rfl,rfl⟩)
theorem Like.bytes (a b:UInt8):Like (.int .u8 (a.toNat:Int)) (.int .u8 (b.toNat:Int)):=.inr (.inr ⟨_,_,rfl,rfl⟩)
def spR (x:SRes) (w0:World):Res:=.gen x.f fun w=>∀ k,x.f k → ∃ cs cs' T,w0.heap[k]? = some (.cells cs T (0,0)) ∧ w.heap[k]? = some (.cells cs' T (0,0)) ∧ cs'.size = cs.size ∧ ∀ (i:Nat) u,cs[i]? = some u → ∃ v,cs'[i]? = some v ∧ Like u v
section
variable {x:SRes} {w0 w:World} {L:List Res}
theorem aE6 (h:MemL w (x.r :: L)):MemL w (spR x w :: L):=by
  have h0:=h.hold 0 _ rfl
  have hs:=(SRes.now h0).2
  refine h.upd 0 rfl (Io.refl w) (Nat.le_refl _) (fun _ _ _=>rfl) (r':=spR x w) ⟨h0.1,fun w' _ _ hk k hf=>?_⟩ fun k hk=>.inl hk
  obtain ⟨cs,T,e⟩:=hs k hf
  exact ⟨cs,cs,T,e,(hk k hf).trans e,rfl,fun i u hu=>⟨u,hu,.refl u⟩⟩
theorem aA0 (h:(spR x w0).holds w):∀ k,x.f k → ∃ cs cs' T,w0.heap[k]? = some (.cells cs T (0,0)) ∧ w.heap[k]? = some (.cells cs' T (0,0)) ∧ cs'.size = cs.size ∧ ∀ (i:Nat) u,cs[i]? = some u → ∃ v,cs'[i]? = some v ∧ Like u v :=
  h.2 w (Io.refl w) (Nat.le_refl _) fun _ _=>rfl
theorem aHq {b o:Nat} {v:Value} (hc:∀ w,x.r.holds' w → w.cell? ⟨b,o,none⟩ = some v) (h0:x.r.holds' w0):x.f b:=by
  apply Classical.byContradiction
  intro hn
  have hb:b < w0.heap.size:=by
    have:=hc w0 h0
    apply Classical.byContradiction
    intro hge
    rw [World.cell?,Array.getElem?_eq_none (by show w0.heap.size ≤ b; omega)] at this
    cases this
  have hk:x.r.holds' { w0 with heap:=w0.heap.set b (.cells #[] 0 (0,0)) hb }:=by
    refine Res.keep h0 ⟨rfl,rfl,rfl⟩ (by simp) fun k hf=>?_
    have:b ≠ k:=fun e=>hn (by rw [e]; exact hf)
    simp [Array.getElem?_set,this]
  have:=hc _ hk
  simp [World.cell?] at this
theorem iY {b o:Nat} {v:Value} (hc:∀ w,x.r.holds' w → w.cell? ⟨b,o,none⟩ = some v) (h0:x.r.holds' w0) (hw:(spR x w0).holds w):∃ u,w.cell? ⟨b,o,none⟩ = some u ∧ Like v u:=by
  obtain ⟨cs,cs',T,e0,e,hsz,hl⟩:=aA0 hw b (aHq hc h0)
  have h1:=hc w0 h0
  rw [World.cell?] at h1 ⊢
  simp only [e0] at h1
  simp only [e]
  exact hl o v h1
end
section
variable {P:Program} {n:Nat} {F:List (Nat × Value)} {a:Act} {dd:List Deferred} {w w0:World} {o:Oper} {J:Value → World → Prop} {L:List Res} {s:SRes}
theorem iK {t:TypeId} {x y:Operand} {b off:Nat} {u v:Value} {i:Nat} (hs:∀ w,(sizeOf t).run P w = .ok 1 w) (hM:MemL w L) (hi:L[i]? = some (spR s w0)) (hc:∀ w,s.r.holds' w → w.cell? ⟨b,off,none⟩ = some u) (h0:s.r.holds' w0) (hl:Like u v)
    (hF:Fr n F a dd) (ho:o.op = .store t x y) (hx:ev F x = some (.pointer (some ⟨b,off,none⟩))) (hy:ev F y = some v) (h1:v.oneCell' = true) (next:∀ w',MemL w' L → J undef w'):Yd P o a.eval w J:=by
  have hf:=aHq hc h0
  have hold:=hM.hold i _ hi
  obtain ⟨cs,cs',T,e0,e,hsz,hlk⟩:=aA0 hold b hf
  have hu:=hc w0 h0
  rw [World.cell?] at hu
  simp only [e0] at hu
  have hlt:off < cs'.toList.length:=by
    have:=(Array.getElem?_eq_some_iff.1 hu).1
    simp only [Array.length_toList]; omega
  refine bS (cs:=cs'.toList) (T:=T) hs (by simpa using e) hF ho hx hy h1 hlt rfl fun w' hU=>next w' ?_
  have hnew:w'.heap[b]? = some (.cells ((cs'.toList.set off v).toArray) T (0,0)):=hU.holds
  have hoth:∀ k,k < w.heap.size → k ≠ b → w'.heap[k]? = w.heap[k]?:=fun k hk hne=>hU.block k hk hne
  have:=hM.upd i hi hU.io hU.size (r':=spR s w0) (fun k hk hnf=>hoth k hk fun e=>hnf (by rw [e]; exact hf)) ?_ fun k hk=>.inl hk
  · have e:L.set i (spR s w0) = L:=by
      apply List.ext_getElem?
      intro j
      rw [List.getElem?_set]
      split
      · rename_i h; subst h; rw [if_pos (List.getElem?_eq_some_iff.1 hi).1,hi]
      · rfl
    rwa [e] at this
  · refine ⟨fun k hk=>Nat.lt_of_lt_of_le (hold.1 k hk) hU.size,fun w2 _ _ hk k hkf=>?_⟩
    obtain ⟨c,c',T',g0,g,gs,gl⟩:=aA0 hold k hkf
    by_cases hkb:k = b
    · subst hkb
      cases e0.symm.trans g0
      cases e.symm.trans g
      refine ⟨cs,_,T,e0,(hk k hkf).trans hnew,by simp [hsz],fun j z hz=>?_⟩
      obtain ⟨q,hq,hlq⟩:=hlk j z hz
      by_cases hj:off = j
      · subst hj
        refine ⟨v,?_,?_⟩
        · simp only [List.getElem?_toArray,List.getElem?_set,if_pos hlt]
          simp
        · cases hu.symm.trans hz; exact hl
      · refine ⟨q,?_,hlq⟩
        simp only [List.getElem?_toArray,List.getElem?_set,if_neg hj]
        simpa using hq
    · exact ⟨c,c',T',g0,(hk k hkf).trans ((hoth k (hold.1 k hkf) hkb).trans g),gs,gl⟩
end
section
variable {x:SRes} {w0 w:World}
theorem mV {b o n c:Nat} {a:Option Addr} (hc:∀ w,x.r.holds' w → w.cell? ⟨b,o,none⟩ = some (.slice a n c)) (h0:x.r.holds' w0) (hw:(spR x w0).holds w):w.cell? ⟨b,o,none⟩ = some (.slice a n c):=by
  obtain ⟨u,hu,hl⟩:=iY hc h0 hw
  rw [hu,hl.slice]
theorem aG4 {b off:Nat} {y:RMark} (hc:∀ w,x.r.holds' w → Cells w b off (RMark.enc y)) (h0:x.r.holds' w0) (hw:(spR x w0).holds w):∃ a n:Int,Cells w b off (RMark.enc (RMark.mk a n y.done y.regs y.slots y.pieces y.sent)):=by
  have g:∀ (j:Nat) (v:Value),(RMark.enc y)[j]? = some v → ∃ u,w.cell? ⟨b,off + j,none⟩ = some u ∧ Like v u:=fun j v hv=>iY (fun w h=>hc w h j v hv) h0 hw
  obtain ⟨u0,h0',l0⟩:=g 0 _ rfl
  obtain ⟨u1,h1,l1⟩:=g 1 _ rfl
  obtain ⟨u2,h2,l2⟩:=g 2 _ rfl
  obtain ⟨u3,h3,l3⟩:=g 3 _ rfl
  obtain ⟨u4,h4,l4⟩:=g 4 _ rfl
  obtain ⟨u5,h5,l5⟩:=g 5 _ rfl
  obtain ⟨u6,h6,l6⟩:=g 6 _ rfl
  obtain ⟨a,rfl⟩:=l0.i64
  obtain ⟨n,rfl⟩:=l1.i64
  obtain rfl:=l2.bool
  obtain rfl:=l3.slice
  obtain rfl:=l4.slice
  obtain rfl:=l5.slice
  obtain rfl:=l6.slice
  refine ⟨a,n,fun j v hv=>?_⟩
  match j,hv with
  | 0,hv=>cases hv; exact h0'
  | 1,hv=>cases hv; exact h1
  | 2,hv=>cases hv; exact h2
  | 3,hv=>cases hv; exact h3
  | 4,hv=>cases hv; exact h4
  | 5,hv=>cases hv; exact h5
  | 6,hv=>cases hv; exact h6
  | j + 7,hv=>simp [RMark.enc] at hv
theorem aI5 {X:Type} [Enc X] {b e n c:Nat} {l:List X} (h:(pt b (encs l) e).holds' w) (hn:n = l.length:=by rfl) (hc:n ≤ c:=by decide):SliceOf 0 w ⟨some ⟨b,0,none⟩,n,c⟩ l:=by
  subst hn
  exact ⟨rfl,hc,.inr rfl,Nat.zero_le _,fun j v hv=>sH h (by rw [Nat.zero_add]; exact hv)⟩
end
end Go.Fx
end
noncomputable section
namespace Go.Proofs
open Go Go.Fw Go.Fx
set_option maxRecDepth 10000
def Sh.pD (x0:List UInt8):Option (List UInt8) :=
 ((Sh.bA x0).bind fun y16=>((Fx.app 1 y16 [161,162]).bind fun x20=>((Fx.rm x20 0 (x0.length:Int) spU8).bind fun x21=>(some x21))))
def Sh.gU (x0:QMark) (c0:QMark) (c2:Int):Option (((QMark × Int) ⊕ (QMark ⊕ QMark))) :=
 (bif (decide (c2 < (x0.pieces.length:Int))) then ((Fx.get x0.pieces c2).bind fun c1=>((Sh.pD c1.old).bind fun c4=>((Sh.pD c1.new).bind fun c5=>((Fx.app 64 c0.pieces [(QPiece.mk c1.table c1.from_ c4 c5)]).bind fun c3=>(some (Sum.inl ((QMark.mk c0.at_ c0.next c0.done c0.regs c0.slots c3 c0.sent),(IntKind.i64.wrap (c2 + 1))))))))) else (some (Sum.inr (Sum.inl c0))))
def Sh.pT (x0:QMark) (c0:QMark):Option QMark :=
 ((Fx.app 64 c0.pieces [(QPiece.mk 0 (-7) [] []),(QPiece.mk 0 (-8) [] [])]).bind fun c1=>((Fx.rm c1 0 (x0.pieces.length:Int) spPiece).bind fun c2=>(some (QMark.mk c0.at_ c0.next c0.done c0.regs c0.slots c2 c0.sent))))
def Sh.pS (x0:QMark) (c0:QMark):Option QMark :=
 (Fx.seq (Fx.loop (fun (c2,c3)=>Sh.gU x0 c2 c3) ((QMark.mk c0.at_ c0.next c0.done c0.regs c0.slots [] c0.sent),0)) fun c1=>Sh.pT x0 c1)
def Sh.pR (x0:QMark) (c0:QMark):Option QMark :=
 (Fx.seq ((Sh.fG x0.sent).bind fun c3=>((Fx.app 8 c3 [(-7),(-8)]).bind fun c1=>((Fx.rm c1 0 (x0.sent.length:Int) spInt).bind fun c2=>(some (Sum.inl (QMark.mk c0.at_ c0.next c0.done c0.regs c0.slots c0.pieces c2)))))) fun c4=>Sh.pS x0 c4)
def Sh.pQ (x0:QMark) (c0:QMark):Option QMark :=
 (Fx.seq ((Fx.app 104 [] x0.slots).bind fun c2=>((Fx.app 104 c2 [(LCell.mk (-7) LSlot.zero LSlot.zero),(LCell.mk (-8) LSlot.zero LSlot.zero)]).bind fun c3=>((Fx.rm c3 0 (x0.slots.length:Int) spCell).bind fun c4=>(some (Sum.inl (QMark.mk c0.at_ c0.next c0.done c0.regs c4 c0.pieces c0.sent)))))) fun c1=>Sh.pR x0 c1)
def Sh.oB (x0:QMark):Option QMark :=
 (Fx.seq ((Fx.app 72 [] x0.regs).bind fun c1=>((Fx.app 72 c1 [(LTurn.mk (-7) LVal.zero LVal.zero),(LTurn.mk (-8) LVal.zero LVal.zero)]).bind fun c2=>((Fx.rm c2 0 (x0.regs.length:Int) spTurn).bind fun c3=>(some (Sum.inl (QMark.mk x0.at_ x0.next x0.done c3 x0.slots x0.pieces x0.sent)))))) fun c0=>Sh.pQ x0 c0)
def Sh.uF (v21:Bool):Option Bool :=
 (some v21)
def Sh.rL (x0:List UInt8):Option Bool :=
 (Fx.must (decide ((IntKind.i64.wrap ((x0.length:Int) + 2)) = (x0.length:Int) + 2)) (Fx.seq ((Fx.get (x0 ++ spU8) (x0.length:Int)).bind fun x22=>(bif (decide ((x22.toNat:Int) = 161)) then ((Fx.get (x0 ++ spU8) (IntKind.i64.wrap ((x0.length:Int) + 1))).bind fun x24=>(some (Sum.inl (decide ((x24.toNat:Int) = 162))))) else (some (Sum.inl false)))) fun v21=>Sh.uF v21))
def Sh.pP (c0:Int) (c1:Bool):Option ((Int ⊕ (Unit ⊕ Bool))) :=
 (bif c1 then (some (Sum.inr (Sum.inr false))) else (some (Sum.inl (IntKind.i64.wrap (c0 + 1)))))
def Sh.nH (x0:QMark) (c0:Int):Option ((Int ⊕ (Unit ⊕ Bool))) :=
 (bif (decide (c0 < (x0.pieces.length:Int))) then (Fx.seq ((Fx.get x0.pieces c0).bind fun c2=>((Sh.rL c2.old).bind fun c4=>(bif (!c4) then (some (Sum.inl true)) else ((Fx.get x0.pieces c0).bind fun c3=>((Sh.rL c3.new).bind fun c5=>(some (Sum.inl (!c5)))))))) fun c1=>Sh.pP c0 c1) else (some (Sum.inr (Sum.inl ()))))
def Sh.sX:Option Bool :=
 (some true)
def Sh.nG (x0:QMark) (c0:Bool):Option Bool :=
 (bif c0 then (some false) else (Fx.seq (Fx.loop (fun c1=>Sh.nH x0 c1) 0) fun _=>Sh.sX))
def Sh.nF (x0:QMark) (c0:Bool):Option Bool :=
 (bif c0 then (some false) else (Fx.seq ((Fx.get (x0.sent ++ spInt) (x0.sent.length:Int)).bind fun c2=>(bif (!decide (c2 = (-7))) then (some (Sum.inl true)) else ((Fx.get (x0.sent ++ spInt) (IntKind.i64.wrap ((x0.sent.length:Int) + 1))).bind fun c3=>(bif (!decide (c3 = (-8))) then (some (Sum.inl true)) else ((Fx.get (x0.pieces ++ spPiece) (x0.pieces.length:Int)).bind fun c4=>(bif (!decide (c4.from_ = (-7))) then (some (Sum.inl true)) else ((Fx.get (x0.pieces ++ spPiece) (IntKind.i64.wrap ((x0.pieces.length:Int) + 1))).bind fun c5=>(some (Sum.inl (!decide (c5.from_ = (-8)))))))))))) fun c1=>Sh.nG x0 c1))
def Sh.oA (x0:QMark) (x1:QMark):Option Bool :=
 (Fx.must (decide ((IntKind.i64.wrap ((x0.regs.length:Int) + 2)) = (x0.regs.length:Int) + 2)) (Fx.must (decide ((IntKind.i64.wrap ((x0.slots.length:Int) + 2)) = (x0.slots.length:Int) + 2)) (Fx.must (decide ((IntKind.i64.wrap ((x0.sent.length:Int) + 2)) = (x0.sent.length:Int) + 2)) (Fx.must (decide ((IntKind.i64.wrap ((x0.pieces.length:Int) + 2)) = (x0.pieces.length:Int) + 2)) (Fx.seq ((Sh.cI x0 x1).bind fun c5=>(bif (!c5) then (some (Sum.inl true)) else ((Fx.get (x0.regs ++ spTurn) (x0.regs.length:Int)).bind fun c1=>(bif (!decide (c1.reg = (-7))) then (some (Sum.inl true)) else ((Fx.get (x0.regs ++ spTurn) (IntKind.i64.wrap ((x0.regs.length:Int) + 1))).bind fun c2=>(bif (!decide (c2.reg = (-8))) then (some (Sum.inl true)) else ((Fx.get (x0.slots ++ spCell) (x0.slots.length:Int)).bind fun c3=>(bif (!decide (c3.slot = (-7))) then (some (Sum.inl true)) else ((Fx.get (x0.slots ++ spCell) (IntKind.i64.wrap ((x0.slots.length:Int) + 1))).bind fun c4=>(some (Sum.inl (!decide (c4.slot = (-8)))))))))))))) fun c0=>Sh.nF x0 c0)))))
end Go.Proofs
end
noncomputable section
namespace Go.Proofs
open Go Go.Fw Go.Fx
set_option maxRecDepth 10000
def Sh.kU (x0:List (List UInt8)) (c1:List (List UInt8)) (c0:Int):Option (((List (List UInt8) × Int) ⊕ (List (List UInt8) ⊕ List (List UInt8)))) :=
 (bif (decide (c0 < (x0.length:Int))) then ((Fx.get x0 c0).bind fun c2=>((Sh.bA c2).bind fun c4=>((Fx.app 24 c1 [c4]).bind fun c3=>(some (Sum.inl (c3,(IntKind.i64.wrap (c0 + 1)))))))) else (some (Sum.inr (Sum.inl c1))))
def Sh.sN (c0:List (List UInt8)):Option (List (List UInt8)) :=
 (some c0)
def Sh.qK (x0:List (List UInt8)):Option (List (List UInt8)) :=
 (Fx.seq (Fx.loop (fun (c1,c2)=>Sh.kU x0 c1 c2) ([],0)) fun c0=>Sh.sN c0)
def Sh.pB (x0:QState):Option QState :=
 ((Sh.bA x0.ctx).bind fun y36=>((Sh.qK x0.tables).bind fun y41=>((Sh.fG x0.sent).bind fun y48=>(some (QState.mk x0.regs x0.stack y36 y41 y48 x0.at_ x0.steps x0.done)))))
def Sh.kW (x0:QRecord) (c0:Int):Option ((Int ⊕ (Unit ⊕ Unit))) :=
 (bif (decide (c0 < (x0.in_.ctx.length:Int))) then ((Fx.get x0.in_.ctx c0).bind fun c1=>((Fx.get x0.in_.ctx c0).bind fun c2=>(some (Sum.inl (IntKind.i64.wrap (c0 + 1)))))) else (some (Sum.inr (Sum.inl ()))))
def Sh.kY (x0:QRecord) (c1:Int) (c0:Int):Option ((Int ⊕ (Unit ⊕ (Int ⊕ (Unit ⊕ Unit))))) :=
 ((Fx.get x0.in_.tables c1).bind fun c2=>(bif (decide (c0 < (c2.length:Int))) then ((Fx.get x0.in_.tables c1).bind fun c3=>((Fx.get x0.in_.tables c1).bind fun c4=>((Fx.get c4 c0).bind fun c5=>((Fx.get c3 c0).bind fun c6=>(some (Sum.inl (IntKind.i64.wrap (c0 + 1)))))))) else (some (Sum.inr (Sum.inl ())))))
def Sh.sU (c0:Int):Option ((Int ⊕ (Unit ⊕ Unit))) :=
 (some (Sum.inl (IntKind.i64.wrap (c0 + 1))))
def Sh.kX (x0:QRecord) (c0:Int):Option ((Int ⊕ (Unit ⊕ Unit))) :=
 (bif (decide (c0 < (x0.in_.tables.length:Int))) then (Fx.seq (Fx.loop (fun c1=>Sh.kY x0 c0 c1) 0) fun _=>Sh.sU c0) else (some (Sum.inr (Sum.inl ()))))
def Sh.iV (c1:QMark) (c0:Int):Option ((Int ⊕ (Unit ⊕ (Unit ⊕ (Int ⊕ Unit))))) :=
 (bif (decide (c0 < (c1.regs.length:Int))) then ((Fx.get c1.regs c0).bind fun c2=>((Fx.get c1.regs c0).bind fun c3=>(some (Sum.inl (IntKind.i64.wrap (c0 + 1)))))) else (some (Sum.inr (Sum.inl ()))))
def Sh.iW (c1:QMark) (c0:Int):Option ((Int ⊕ (Unit ⊕ (Unit ⊕ (Int ⊕ Unit))))) :=
 (bif (decide (c0 < (c1.slots.length:Int))) then ((Fx.get c1.slots c0).bind fun c2=>((Fx.get c2.new.bytes.l 3).bind fun c4=>((Fx.get c1.slots c0).bind fun c3=>((Fx.get c3.new.bytes.l 3).bind fun c5=>(some (Sum.inl (IntKind.i64.wrap (c0 + 1)))))))) else (some (Sum.inr (Sum.inl ()))))
def Sh.iY (c2:QMark) (c1:Int) (c0:Int):Option ((Int ⊕ (Unit ⊕ (Unit ⊕ (Int ⊕ (Unit ⊕ (Unit ⊕ (Int ⊕ Unit)))))))) :=
 ((Fx.get c2.pieces c1).bind fun c3=>(bif (decide (c0 < (c3.new.length:Int))) then ((Fx.get c2.pieces c1).bind fun c4=>((Fx.get c2.pieces c1).bind fun c5=>((Fx.get c5.new c0).bind fun c6=>((Fx.get c4.new c0).bind fun c7=>(some (Sum.inl (IntKind.i64.wrap (c0 + 1)))))))) else (some (Sum.inr (Sum.inl ())))))
def Sh.iZ (c2:QMark) (c1:Int) (c0:Int):Option ((Int ⊕ (Unit ⊕ (Int ⊕ (Unit ⊕ (Unit ⊕ (Int ⊕ Unit))))))) :=
 ((Fx.get c2.pieces c1).bind fun c3=>(bif (decide (c0 < (c3.old.length:Int))) then ((Fx.get c2.pieces c1).bind fun c4=>((Fx.get c2.pieces c1).bind fun c5=>((Fx.get c5.old c0).bind fun c6=>((Fx.get c4.old c0).bind fun c7=>(some (Sum.inl (IntKind.i64.wrap (c0 + 1)))))))) else (some (Sum.inr (Sum.inl ())))))
def Sh.rP (c2:QMark) (c0:Int):Option ((Unit ⊕ (Int ⊕ (Unit ⊕ (Unit ⊕ (Int ⊕ Unit)))))) :=
 (Fx.loop (fun c1=>Sh.iZ c2 c0 c1) 0)
def Sh.rO (c0:Int):Option ((Int ⊕ (Unit ⊕ (Unit ⊕ (Int ⊕ Unit))))) :=
 (some (Sum.inl (IntKind.i64.wrap (c0 + 1))))
def Sh.iX (c1:QMark) (c0:Int):Option ((Int ⊕ (Unit ⊕ (Unit ⊕ (Int ⊕ Unit))))) :=
 (bif (decide (c0 < (c1.pieces.length:Int))) then (Fx.seq (Fx.seq (Fx.loop (fun c2=>Sh.iY c1 c0 c2) 0) fun _=>Sh.rP c1 c0) fun _=>Sh.rO c0) else (some (Sum.inr (Sum.inl ()))))
def Sh.jA (c1:QMark) (c0:Int):Option ((Int ⊕ (Unit ⊕ (Unit ⊕ (Int ⊕ Unit))))) :=
 (bif (decide (c0 < (c1.sent.length:Int))) then ((Fx.get c1.sent c0).bind fun c2=>((Fx.get c1.sent c0).bind fun c3=>(some (Sum.inl (IntKind.i64.wrap (c0 + 1)))))) else (some (Sum.inr (Sum.inl ()))))
def Sh.oK (x0:QRecord) (c0:Int):Option ((Unit ⊕ (Int ⊕ Unit))) :=
 ((Fx.get x0.marks c0).bind fun c1=>((Fx.get x0.marks c0).bind fun c2=>(some (Sum.inl ()))))
def Sh.rN (x0:QRecord) (c0:Int) (c2:QMark):Option ((Unit ⊕ (Int ⊕ Unit))) :=
 (Fx.seq (Fx.loop (fun c1=>Sh.jA c2 c1) 0) fun _=>Sh.oK x0 c0)
def Sh.rM (x0:QRecord) (c1:Int) (c0:QMark):Option ((Unit ⊕ (Int ⊕ Unit))) :=
 (Fx.seq (Fx.loop (fun c2=>Sh.iX c0 c2) 0) fun _=>Sh.rN x0 c1 c0)
def Sh.sW (x0:QRecord) (c1:Int) (c0:QMark):Option ((Unit ⊕ (Int ⊕ Unit))) :=
 (Fx.seq (Fx.loop (fun c2=>Sh.iW c0 c2) 0) fun _=>Sh.rM x0 c1 c0)
def Sh.sV (c0:Int):Option ((Int ⊕ Unit)) :=
 (some (Sum.inl (IntKind.i64.wrap (c0 + 1))))
def Sh.kZ (x0:QRecord) (c0:Int):Option ((Int ⊕ Unit)) :=
 (bif (decide (c0 < (x0.marks.length:Int))) then (Fx.seq ((Fx.get x0.marks c0).bind fun c1=>(Fx.seq (Fx.loop (fun c2=>Sh.iV c1 c2) 0) fun _=>Sh.sW x0 c0 c1)) fun _=>Sh.sV c0) else (some (Sum.inr ())))
def Sh.sT (x0:QRecord):Option Unit :=
 (Fx.loop (fun c0=>Sh.kZ x0 c0) 0)
def Sh.sS (x0:QRecord):Option Unit :=
 (Fx.seq (Fx.loop (fun c0=>Sh.kX x0 c0) 0) fun _=>Sh.sT x0)
def Sh.nY (x0:QRecord):Option Unit :=
 (Fx.seq (Fx.loop (fun c0=>Sh.kW x0 c0) 0) fun _=>Sh.sS x0)
end Go.Proofs
end
noncomputable section
namespace Go.Proofs
open Go Go.Fw Go.Fx
set_option maxRecDepth 10000
def Sh.jR (c2:List (List UInt8)) (c1:Nat) (c0:Int):Option (((Nat × Int) ⊕ (Nat ⊕ QState))) :=
 (bif (decide (c0 < (c2.length:Int))) then ((Fx.get c2 c0).bind fun c3=>(Fx.must (decide (c1 ≤ (c0:Int).toNat)) ((Sh.fE c3).bind fun c5=>((Fx.get c2 c0).bind fun c4=>(Fx.must (decide (c1 ≤ (c0:Int).toNat)) (Fx.must (decide ((c0:Int).toNat = c1)) (Fx.must (decide (c5 = c4)) (some (Sum.inl ((c1 + 1),(IntKind.i64.wrap (c0 + 1)))))))))))) else (some (Sum.inr (Sum.inl c1))))
def Sh.oW (x0:QState) (c2:List UInt8) (c0:List (List UInt8)) (c1:Nat):Option QState :=
 ((Sh.eS x0.sent).bind fun c3=>(Fx.must (decide (c0.length ≤ c1)) (some (QState.mk x0.regs x0.stack c2 c0 c3 x0.at_ x0.steps x0.done))))
def Sh.pF (x0:QState):Option QState :=
 ((Sh.fE x0.ctx).bind fun c4=>((Sh.eM x0.tables).bind fun c0=>(Fx.seq (Fx.loop (fun (c2,c3)=>Sh.jR c0 c2 c3) (0,0)) fun c1=>Sh.oW x0 c4 c0 c1)))
def Sh.lA (x0:QState) (c0:QState) (c1:Int):Option (((QState × Int) ⊕ (QState ⊕ QState))) :=
 (bif (decide (c1 < (x0.tables.length:Int))) then ((Fx.get x0.tables c1).bind fun c2=>((Fx.app 1 [] c2).bind fun c3=>((Fx.app 24 c0.tables [c3]).bind fun c4=>(some (Sum.inl ((QState.mk c0.regs c0.stack c0.ctx c4 c0.sent c0.at_ c0.steps c0.done),(IntKind.i64.wrap (c1 + 1)))))))) else (some (Sum.inr (Sum.inl c0))))
def Sh.pN (x0:QState) (c0:QState):Option QState :=
 ((Fx.app 8 [] x0.sent).bind fun c1=>(some (QState.mk c0.regs c0.stack c0.ctx c0.tables c1 c0.at_ c0.steps c0.done)))
def Sh.qM (x0:QState):Option QState :=
 ((Fx.app 1 [] x0.ctx).bind fun c3=>(Fx.seq (Fx.loop (fun (c1,c2)=>Sh.lA x0 c1 c2) ((QState.mk x0.regs x0.stack c3 [] x0.sent x0.at_ x0.steps x0.done),0)) fun c0=>Sh.pN x0 c0))
def Sh.tG (x0:LTurn) (x1:Bool):Option LVal :=
 (bif x1 then (some x0.old) else (some x0.new))
def Sh.rX (x0:LCell) (x1:Bool):Option LSlot :=
 (bif x1 then (some x0.old) else (some x0.new))
def Sh.qN (x0:QPiece) (x1:Bool):Option (List UInt8) :=
 (bif x1 then (some x0.old) else (some x0.new))
def Sh.jO (x1:QMark) (c0:Vec LVal 11) (c3:List Int) (c1:Int):Option (((Vec LVal 11 × List Int × Int) ⊕ ((Vec LVal 11 × List Int) ⊕ QState))) :=
 (bif (decide (c1 < (x1.regs.length:Int))) then ((Fx.get x1.regs c1).bind fun c2=>((Fx.get c0.l c2.reg).bind fun c4=>(some (Sum.inl ((c0.set (c2.reg:Int).toNat c2.new),c3,(IntKind.i64.wrap (c1 + 1))))))) else (some (Sum.inr (Sum.inl (c0,c3)))))
def Sh.jP (x1:QMark) (c0:Vec LSlot 32) (c3:List Int) (c1:Int):Option (((Vec LSlot 32 × List Int × Int) ⊕ ((Vec LSlot 32 × List Int) ⊕ QState))) :=
 (bif (decide (c1 < (x1.slots.length:Int))) then ((Fx.get x1.slots c1).bind fun c2=>((Fx.get c0.l c2.slot).bind fun c4=>(some (Sum.inl ((c0.set (c2.slot:Int).toNat c2.new),c3,(IntKind.i64.wrap (c1 + 1))))))) else (some (Sum.inr (Sum.inl (c0,c3)))))
def Sh.oT (c1:List (List UInt8)) (c3:Int) (c2:QPiece) (c0:Nat) (c5:Bool):Option (((List (List UInt8) × Int) ⊕ (List (List UInt8) ⊕ QState))) :=
 ((Fx.slc (Fx.pk c1 c0) c2.from_ ((Fx.pk c1 c0).length:Int)).bind fun c6=>((Fx.cpa (Fx.pk c1 c0) c2.from_ c2.new).bind fun c4=>(some (Sum.inl ((c1.set c0 c4),(IntKind.i64.wrap (c3 + 1)))))))
def Sh.jQ (x1:QMark) (c1:List (List UInt8)) (c2:Int):Option (((List (List UInt8) × Int) ⊕ (List (List UInt8) ⊕ QState))) :=
 (bif (decide (c2 < (x1.pieces.length:Int))) then ((Fx.get x1.pieces c2).bind fun c0=>(Fx.seq (bif (decide (c0.table < 0)) then (some (Sum.inl (0,true))) else (bif (decide (c0.table < ((List.tail c1).length:Int))) then ((Fx.get (List.tail c1) c0.table).bind fun c5=>(some (Sum.inl (((c0.table:Int).toNat + 1),true)))) else Fx.must false none)) fun (c3,c4)=>Sh.oT c1 c2 c0 c3 c4)) else (some (Sum.inr (Sum.inl c1))))
def Sh.sH (x1:QMark) (c1:QState) (c4:Vec LVal 11) (c2:Vec LSlot 32) (c3:List Int) (c0:List (List UInt8)):Option QState :=
 (some (QState.mk c4 c2 (Fx.pk c0 0) (List.tail c0) c3 x1.next c1.steps c1.done))
def Sh.oV (x1:QMark) (c0:QState) (c6:Vec LVal 11) (c3:Vec LSlot 32) (c4:List Int):Option QState :=
 (Fx.seq (Fx.loop (fun (c2,c5)=>Sh.jQ x1 c2 c5) ((c0.ctx :: c0.tables),0)) fun c1=>Sh.sH x1 c0 c6 c3 c4 c1)
def Sh.oU (x1:QMark) (c0:QState) (c6:Vec LVal 11) (c7:List Int):Option QState :=
 (Fx.seq (Fx.loop (fun (c3,c4,c5)=>Sh.jP x1 c3 c4 c5) (c0.stack,c7,0)) fun (c1,c2)=>Sh.oV x1 c0 c6 c1 c2)
def Sh.nI (x0:QState) (x1:QMark):Option QState :=
 ((Sh.pF x0).bind fun c0=>(Fx.seq (Fx.loop (fun (c3,c4,c5)=>Sh.jO x1 c3 c4 c5) (c0.regs,c0.sent,0)) fun (c1,c2)=>Sh.oU x1 c0 c1 c2))
def Sh.mZ (x1:QMark) (x2:Bool) (c1:Vec LVal 11) (c2:List Int) (c0:Int):Option (((Vec LVal 11 × List Int × Int) ⊕ ((Vec LVal 11 × List Int) ⊕ QState))) :=
 (bif (decide (c0 < (x1.regs.length:Int))) then ((Fx.get x1.regs c0).bind fun c3=>((Fx.get x1.regs c0).bind fun c4=>((Sh.tG c4 x2).bind fun c5=>((Fx.get c1.l c3.reg).bind fun c6=>(some (Sum.inl ((c1.set (c3.reg:Int).toNat c5),c2,(IntKind.i64.wrap (c0 + 1))))))))) else (some (Sum.inr (Sum.inl (c1,c2)))))
def Sh.nA (x1:QMark) (x2:Bool) (c1:Vec LSlot 32) (c2:List Int) (c0:Int):Option (((Vec LSlot 32 × List Int × Int) ⊕ ((Vec LSlot 32 × List Int) ⊕ QState))) :=
 (bif (decide (c0 < (x1.slots.length:Int))) then ((Fx.get x1.slots c0).bind fun c3=>((Fx.get x1.slots c0).bind fun c4=>((Sh.rX c4 x2).bind fun c5=>((Fx.get c1.l c3.slot).bind fun c6=>(some (Sum.inl ((c1.set (c3.slot:Int).toNat c5),c2,(IntKind.i64.wrap (c0 + 1))))))))) else (some (Sum.inr (Sum.inl (c1,c2)))))
def Sh.nC (x1:QMark) (c5:Int) (c4:List UInt8) (c2:Nat) (c1:List (List UInt8)) (c0:Int):Option (((List (List UInt8) × Int) ⊕ (List (List UInt8) ⊕ ((List (List UInt8) × Int) ⊕ (List (List UInt8) ⊕ QState))))) :=
 (bif (decide (c0 < (c4.length:Int))) then ((Fx.get x1.pieces c5).bind fun c3=>((Fx.get c4 c0).bind fun c6=>((Fx.get (Fx.pk c1 c2) (IntKind.i64.wrap (c3.from_ + c0))).bind fun c7=>(some (Sum.inl ((c1.set c2 ((Fx.pk c1 c2).set ((IntKind.i64.wrap (c3.from_ + c0)):Int).toNat c6)),(IntKind.i64.wrap (c0 + 1)))))))) else (some (Sum.inr (Sum.inl c1))))
def Sh.rW (x1:QMark) (c1:List (List UInt8)) (c3:Int) (c5:List UInt8) (c0:Nat):Option ((List (List UInt8) ⊕ ((List (List UInt8) × Int) ⊕ (List (List UInt8) ⊕ QState)))) :=
 (Fx.loop (fun (c2,c4)=>Sh.nC x1 c3 c5 c0 c2 c4) (c1,0))
def Sh.rV (c1:Int) (c0:List (List UInt8)):Option (((List (List UInt8) × Int) ⊕ (List (List UInt8) ⊕ QState))) :=
 (some (Sum.inl (c0,(IntKind.i64.wrap (c1 + 1)))))
def Sh.nB (x1:QMark) (x2:Bool) (c1:List (List UInt8)) (c0:Int):Option (((List (List UInt8) × Int) ⊕ (List (List UInt8) ⊕ QState))) :=
 (bif (decide (c0 < (x1.pieces.length:Int))) then (Fx.seq ((Fx.get x1.pieces c0).bind fun c5=>((Sh.qN c5 x2).bind fun c7=>(Fx.seq ((Fx.get x1.pieces c0).bind fun c6=>(bif (decide (0 ≤ c6.table)) then ((Fx.get x1.pieces c0).bind fun c2=>((Fx.get (List.tail c1) c2.table).bind fun c8=>(some (Sum.inl ((c2.table:Int).toNat + 1))))) else (some (Sum.inl 0)))) fun c3=>Sh.rW x1 c1 c0 c7 c3))) fun c4=>Sh.rV c0 c4) else (some (Sum.inr (Sum.inl c1))))
def Sh.rU (c0:QState) (c2:Vec LVal 11) (c3:Vec LSlot 32) (c4:List Int) (c1:List (List UInt8)):Option QState :=
 (some (QState.mk c2 c3 (Fx.pk c1 0) (List.tail c1) c4 c0.at_ c0.steps c0.done))
def Sh.rT (x1:QMark) (x2:Bool) (c0:QState) (c3:Vec LVal 11) (c4:Vec LSlot 32) (c5:List Int):Option QState :=
 (Fx.seq (Fx.loop (fun (c2,c6)=>Sh.nB x1 x2 c2 c6) ((c0.ctx :: c0.tables),0)) fun c1=>Sh.rU c0 c3 c4 c5 c1)
def Sh.rS (x1:QMark) (x2:Bool) (c0:QState) (c1:Vec LVal 11) (c2:List Int):Option QState :=
 (Fx.seq (Fx.loop (fun (c5,c6,c7)=>Sh.nA x1 x2 c5 c6 c7) (c0.stack,c2,0)) fun (c3,c4)=>Sh.rT x1 x2 c0 c1 c3 c4)
def Sh.rK (x0:QState) (x1:QMark) (x2:Bool):Option QState :=
 ((Sh.qM x0).bind fun c0=>(Fx.seq (Fx.loop (fun (c3,c4,c5)=>Sh.mZ x1 x2 c3 c4 c5) (c0.regs,c0.sent,0)) fun (c1,c2)=>Sh.rS x1 x2 c0 c1 c2))
end Go.Proofs
end
section
namespace Go.Fx
open Go Go.Fw Go.Proofs
def LastP (sep:Bool) (L:World → Prop) (hs:List RPiece) (l:List QPiece) (so sn:SV) (lo ln:List UInt8):Prop :=
  (sep = false ∧ Each (QPieceIn L) hs l) ∨ (sep = true ∧ ∃ hs0 l0 t f,hs = hs0 ++ [⟨t,f,so,sn⟩] ∧ l = l0 ++ [⟨t,f,lo,ln⟩] ∧ Each (QPieceIn L) hs0 l0)
section
variable {sep:Bool} {L L':World → Prop} {hs:List RPiece} {l:List QPiece} {so sn:SV} {lo ln:List UInt8}
theorem LastP.none (h:Each (QPieceIn L) hs l):LastP false L hs l so sn lo ln:=.inl ⟨rfl,h⟩
theorem LastP.mono (h:LastP sep L hs l so sn lo ln) (k:∀ w,L' w → L w):LastP sep L' hs l so sn lo ln:=by
  rcases h with ⟨h1,h2⟩ | ⟨h1,hs0,l0,t,f,h2,h3,h4⟩
  · exact .inl ⟨h1,h2.mono fun _ _ q=>q.mono k⟩
  · exact .inr ⟨h1,hs0,l0,t,f,h2,h3,h4.mono fun _ _ q=>q.mono k⟩
theorem LastP.each (h:LastP sep L hs l so sn lo ln) (k:∀ w,L' w → L w) (ho:∀ w,L' w → SliceOf 0 w so lo) (hn:∀ w,L' w → SliceOf 0 w sn ln):Each (QPieceIn L') hs l:=by
  rcases h with ⟨h1,h2⟩ | ⟨h1,hs0,l0,t,f,rfl,rfl,h4⟩
  · exact h2.mono fun _ _ q=>q.mono k
  · exact (h4.mono fun _ _ q=>q.mono k).snoc ⟨so,sn,rfl,ho,hn⟩
theorem LastP.len (h:LastP sep L hs l so sn lo ln):hs.length = l.length:=by
  rcases h with ⟨h1,h2⟩ | ⟨h1,hs0,l0,t,f,rfl,rfl,h4⟩
  · exact h2.len
  · simp [h4.len]
theorem LastP.getr {i:Int} {p:QPiece} (h:LastP sep L hs l so sn lo ln) (hp:Fx.get l i = some p):∃ y,hs[i.toNat]? = some y:=by
  obtain ⟨_,hp⟩:=aM hp
  have:=(List.getElem?_eq_some_iff.1 hp).1
  exact ⟨_,List.getElem?_eq_getElem (by rw [h.len]; exact this)⟩
end
end Go.Fx
end
noncomputable section
namespace Go.Proofs
open Go Go.Fw Go.Fx
set_option maxRecDepth 10000
def Sh.kT (x0:QState) (x1:QMark):Option Int :=
 ((Sh.gL x0).bind fun y38=>(bif (!y38) then (some 1) else ((Sh.cG x1).bind fun y41=>(bif (!y41) then (some 230) else (some 0)))))
def Sh.pU (x0:QState) (x1:QMark) (c1:Bool):Option ((QState × Int)) :=
 (bif c1 then (some ((QState.mk (⟨List.replicate 11 LVal.zero,rfl⟩ : Vec LVal 11) (⟨List.replicate 32 LSlot.zero,rfl⟩ : Vec LSlot 32) [] [] [] 0 0 false),231)) else ((Sh.nI x0 x1).bind fun c0=>((Fx.app 8 c0.sent x1.sent).bind fun c2=>(some ((QState.mk c0.regs c0.stack c0.ctx c0.tables c2 c0.at_ (IntKind.i64.wrap (c0.steps + 1)) x1.done),0)))))
def Sh.eD (x0:QState) (x1:QMark):Option ((QState × Int)) :=
 ((Sh.kT x0 x1).bind fun y89=>(bif (!decide (y89 = 0)) then (some ((QState.mk (⟨List.replicate 11 LVal.zero,rfl⟩ : Vec LVal 11) (⟨List.replicate 32 LSlot.zero,rfl⟩ : Vec LSlot 32) [] [] [] 0 0 false),y89)) else (Fx.seq (bif x0.done then (some (Sum.inl true)) else (bif (decide (x0.steps = 4294967296)) then (some (Sum.inl true)) else ((Sh.pV x0 x1).bind fun c1=>(some (Sum.inl (!c1)))))) fun c0=>Sh.pU x0 x1 c0)))
def Sh.kF (x1:QMark) (c1:List Int) (c0:Int):Option ((Int ⊕ (Unit ⊕ (Bool ⊕ (Bool ⊕ (QState × Int)))))) :=
 (bif (decide (c0 < (c1.length:Int))) then ((Fx.get c1 c0).bind fun c2=>((Fx.get x1.sent c0).bind fun c3=>(bif (!decide (c2 = c3)) then (some (Sum.inr (Sum.inr (Sum.inl false)))) else (some (Sum.inl (IntKind.i64.wrap (c0 + 1))))))) else (some (Sum.inr (Sum.inl ()))))
def Sh.rB:Option ((Bool ⊕ (Bool ⊕ (QState × Int)))) :=
 (some (Sum.inl true))
def Sh.nW (x0:QState) (c1:QMark) (c0:Bool):Option ((Bool ⊕ (QState × Int))) :=
 (bif (!c0) then (some (Sum.inl true)) else ((Sh.pV x0 c1).bind fun c2=>(some (Sum.inl (!c2)))))
def Sh.rA (x0:QState) (x1:QMark) (c1:Bool):Option ((QState × Int)) :=
 (bif c1 then (some ((QState.mk (⟨List.replicate 11 LVal.zero,rfl⟩ : Vec LVal 11) (⟨List.replicate 32 LSlot.zero,rfl⟩ : Vec LSlot 32) [] [] [] 0 0 false),231)) else ((Sh.nP x1).bind fun c3=>((Sh.nI x0 c3).bind fun c0=>((Fx.slc c0.sent 0 (IntKind.i64.wrap ((x0.sent.length:Int) - (x1.sent.length:Int)))).bind fun c2=>((Sh.eS c2).bind fun c4=>(some ((QState.mk c0.regs c0.stack c0.ctx c0.tables c4 c0.at_ (IntKind.i64.wrap (c0.steps - 1)) false),0)))))))
def Sh.eN (x0:QState) (x1:QMark):Option ((QState × Int)) :=
 ((Sh.kT x0 x1).bind fun c1=>(bif (!decide (c1 = 0)) then (some ((QState.mk (⟨List.replicate 11 LVal.zero,rfl⟩ : Vec LVal 11) (⟨List.replicate 32 LSlot.zero,rfl⟩ : Vec LSlot 32) [] [] [] 0 0 false),c1)) else ((Sh.nP x1).bind fun c5=>(Fx.seq (bif (!(decide (x0.done = x1.done))) then (some (Sum.inl true)) else (bif (decide (x0.steps = 0)) then (some (Sum.inl true)) else (bif (decide ((IntKind.i64.wrap ((x0.sent.length:Int) - (x1.sent.length:Int))) < 0)) then (some (Sum.inl true)) else ((Fx.slc x0.sent (IntKind.i64.wrap ((x0.sent.length:Int) - (x1.sent.length:Int))) (x0.sent.length:Int)).bind fun c0=>(Fx.seq (bif (!decide ((c0.length:Int) = (x1.sent.length:Int))) then (some (Sum.inl false)) else (Fx.seq (Fx.loop (fun c4=>Sh.kF x1 c0 c4) 0) fun _=>Sh.rB)) fun c3=>Sh.nW x0 c5 c3))))) fun c2=>Sh.rA x0 x1 c2))))
def Sh.jG (x0:QState) (x1:QMark) (x2:Bool) (c0:Int):Option ((Int ⊕ (Unit ⊕ Bool))) :=
 (bif (decide (c0 < (x1.regs.length:Int))) then ((Fx.get x1.regs c0).bind fun c1=>((Fx.get x0.regs.l c1.reg).bind fun c2=>((Fx.get x1.regs c0).bind fun c3=>((Sh.tG c3 x2).bind fun c4=>(bif (!(decide (c2 = c4))) then (some (Sum.inr (Sum.inr false))) else (some (Sum.inl (IntKind.i64.wrap (c0 + 1))))))))) else (some (Sum.inr (Sum.inl ()))))
def Sh.jH (x0:QState) (x1:QMark) (x2:Bool) (c0:Int):Option ((Int ⊕ (Unit ⊕ Bool))) :=
 (bif (decide (c0 < (x1.slots.length:Int))) then ((Fx.get x1.slots c0).bind fun c1=>((Fx.get x0.stack.l c1.slot).bind fun c2=>((Fx.get x1.slots c0).bind fun c3=>((Sh.rX c3 x2).bind fun c4=>(bif (!(decide (c2 = c4))) then (some (Sum.inr (Sum.inr false))) else (some (Sum.inl (IntKind.i64.wrap (c0 + 1))))))))) else (some (Sum.inr (Sum.inl ()))))
def Sh.oL (c0:Bool):Option ((Bool ⊕ (Int ⊕ (Unit ⊕ Bool)))) :=
 (some (Sum.inl (!c0)))
def Sh.oP (c0:Int) (c1:Bool):Option ((Int ⊕ (Unit ⊕ Bool))) :=
 (bif c1 then (some (Sum.inr (Sum.inr false))) else (some (Sum.inl (IntKind.i64.wrap (c0 + 1)))))
def Sh.oO (x1:QMark) (c2:Int) (c1:List UInt8) (c3:List UInt8):Option ((Int ⊕ (Unit ⊕ Bool))) :=
 ((Fx.get x1.pieces c2).bind fun c0=>(Fx.seq (bif (decide ((c3.length:Int) < (IntKind.i64.wrap (c0.from_ + (c1.length:Int))))) then (some (Sum.inl true)) else ((Fx.slc c3 c0.from_ (IntKind.i64.wrap (c0.from_ + (c1.length:Int)))).bind fun c6=>(Fx.seq (some (Sum.inl (decide (c6 = c1)))) fun c5=>Sh.oL c5))) fun c4=>Sh.oP c2 c4))
def Sh.jI (x0:QState) (x1:QMark) (x2:Bool) (c0:Int):Option ((Int ⊕ (Unit ⊕ Bool))) :=
 (bif (decide (c0 < (x1.pieces.length:Int))) then ((Fx.get x1.pieces c0).bind fun c2=>((Sh.qN c2 x2).bind fun c7=>((Fx.get x1.pieces c0).bind fun c3=>(bif (decide ((x0.tables.length:Int) ≤ c3.table)) then (some (Sum.inr (Sum.inr false))) else (Fx.seq ((Fx.get x1.pieces c0).bind fun c4=>(bif (decide (0 ≤ c4.table)) then ((Fx.get x1.pieces c0).bind fun c5=>((Fx.get x0.tables c5.table).bind fun c6=>(some (Sum.inl c6)))) else (some (Sum.inl x0.ctx)))) fun c1=>Sh.oO x1 c0 c7 c1))))) else (some (Sum.inr (Sum.inl ()))))
def Sh.rY:Option Bool :=
 (some true)
def Sh.oN (x0:QState) (x1:QMark) (x2:Bool):Option Bool :=
 (Fx.seq (Fx.loop (fun c0=>Sh.jI x0 x1 x2 c0) 0) fun _=>Sh.rY)
def Sh.oM (x0:QState) (x1:QMark) (x2:Bool):Option Bool :=
 (Fx.seq (Fx.loop (fun c0=>Sh.jH x0 x1 x2 c0) 0) fun _=>Sh.oN x0 x1 x2)
def Sh.lF (x0:QState) (x1:QMark) (x2:Bool):Option Bool :=
 (Fx.seq (Fx.loop (fun c0=>Sh.jG x0 x1 x2 c0) 0) fun _=>Sh.oM x0 x1 x2)
def Sh.pI (x0:QState) (x1:QMark) (c1:Bool):Option ((QState × Int)) :=
 (bif c1 then (some ((QState.mk (⟨List.replicate 11 LVal.zero,rfl⟩ : Vec LVal 11) (⟨List.replicate 32 LSlot.zero,rfl⟩ : Vec LSlot 32) [] [] [] 0 0 false),231)) else ((Sh.rK x0 x1 false).bind fun c0=>((Fx.app 8 c0.sent x1.sent).bind fun c2=>(some ((QState.mk c0.regs c0.stack c0.ctx c0.tables c2 x1.next (IntKind.i64.wrap (x0.steps + 1)) x1.done),0)))))
def Sh.hA (x0:QState) (x1:QMark):Option ((QState × Int)) :=
 ((Sh.fB x0).bind fun c1=>(bif (!c1) then (some ((QState.mk (⟨List.replicate 11 LVal.zero,rfl⟩ : Vec LVal 11) (⟨List.replicate 32 LSlot.zero,rfl⟩ : Vec LSlot 32) [] [] [] 0 0 false),1)) else ((Sh.iM x1).bind fun c2=>(bif (!c2) then (some ((QState.mk (⟨List.replicate 11 LVal.zero,rfl⟩ : Vec LVal 11) (⟨List.replicate 32 LSlot.zero,rfl⟩ : Vec LSlot 32) [] [] [] 0 0 false),230)) else (Fx.seq (bif x0.done then (some (Sum.inl true)) else (bif (!decide (x0.at_ = x1.at_)) then (some (Sum.inl true)) else (bif (decide (x0.steps = 4294967296)) then (some (Sum.inl true)) else ((Sh.lF x0 x1 true).bind fun c3=>(some (Sum.inl (!c3))))))) fun c0=>Sh.pI x0 x1 c0)))))
def Sh.qS (x0:QState) (x1:QMark) (c1:Bool):Option ((QState × Int)) :=
 (bif c1 then (some ((QState.mk (⟨List.replicate 11 LVal.zero,rfl⟩ : Vec LVal 11) (⟨List.replicate 32 LSlot.zero,rfl⟩ : Vec LSlot 32) [] [] [] 0 0 false),231)) else ((Sh.rK x0 x1 true).bind fun c0=>((Fx.slc c0.sent 0 (IntKind.i64.wrap ((x0.sent.length:Int) - (x1.sent.length:Int)))).bind fun c2=>(some ((QState.mk c0.regs c0.stack c0.ctx c0.tables c2 x1.at_ (IntKind.i64.wrap (x0.steps - 1)) false),0)))))
def Sh.iN (x0:QState) (x1:QMark):Option ((QState × Int)) :=
 ((Sh.fB x0).bind fun c3=>(bif (!c3) then (some ((QState.mk (⟨List.replicate 11 LVal.zero,rfl⟩ : Vec LVal 11) (⟨List.replicate 32 LSlot.zero,rfl⟩ : Vec LSlot 32) [] [] [] 0 0 false),1)) else ((Sh.iM x1).bind fun c4=>(bif (!c4) then (some ((QState.mk (⟨List.replicate 11 LVal.zero,rfl⟩ : Vec LVal 11) (⟨List.replicate 32 LSlot.zero,rfl⟩ : Vec LSlot 32) [] [] [] 0 0 false),230)) else (Fx.seq (bif (!decide (x0.at_ = x1.next)) then (some (Sum.inl true)) else (bif (!(decide (x0.done = x1.done))) then (some (Sum.inl true)) else (bif (decide (x0.steps = 0)) then (some (Sum.inl true)) else ((Sh.lF x0 x1 false).bind fun c5=>(bif (!c5) then (some (Sum.inl true)) else (bif (decide ((IntKind.i64.wrap ((x0.sent.length:Int) - (x1.sent.length:Int))) < 0)) then (some (Sum.inl true)) else (bif (decide ((x1.sent.length:Int) = 1)) then ((Fx.get x0.sent (IntKind.i64.wrap ((x0.sent.length:Int) - (x1.sent.length:Int)))).bind fun c1=>((Fx.get x1.sent 0).bind fun c2=>(some (Sum.inl (!decide (c1 = c2)))))) else (some (Sum.inl false))))))))) fun c0=>Sh.qS x0 x1 c0)))))
end Go.Proofs
end
noncomputable section
namespace Go.Proofs
open Go Go.Fw Go.Fx
set_option maxRecDepth 10000
def Sh.iT (c0:Bool):Option Bool :=
 (some c0)
def Sh.iS (c0:QState) (c1:QMark) (c4:(QState × Int)) (c5:(QState × Int)) (c6:(QState × Int)) (c7:(QState × Int)) (c2:Bool):Option Bool :=
 (bif c2 then (some false) else ((Sh.nY (QRecord.mk (QInput.mk c0.ctx c0.tables) [c1] 0)).bind fun d0=>(Fx.seq ((Sh.bV c4.1 c6.1).bind fun c8=>(bif c8 then ((Sh.bV c5.1 c7.1).bind fun c9=>(some (Sum.inl c9))) else (some (Sum.inl false)))) fun c3=>Sh.iT c3)))
def Sh.iR (x0:QState) (x1:QMark) (c0:QState) (c1:QMark):Option Bool :=
 ((Sh.eD c0 c1).bind fun c2=>((Sh.eN c0 c1).bind fun c3=>((Sh.hA x0 x1).bind fun c4=>((Sh.iN x0 x1).bind fun c5=>(Fx.seq (bif (!decide (c2.2 = c4.2)) then (some (Sum.inl true)) else (bif (!decide (c3.2 = c5.2)) then (some (Sum.inl true)) else ((Sh.bV c2.1 c4.1).bind fun c7=>(bif (!c7) then (some (Sum.inl true)) else ((Sh.bV c3.1 c5.1).bind fun c8=>(bif (!c8) then (some (Sum.inl true)) else ((Sh.bV c0 x0).bind fun c9=>(bif (!c9) then (some (Sum.inl true)) else ((Sh.oA c1 x1).bind fun d0=>(some (Sum.inl (!d0)))))))))))) fun c6=>Sh.iS c0 c1 c2 c3 c4 c5 c6)))))
def Sh.mC (x0:QState) (x1:QMark):Option Bool :=
 ((Sh.dV).bind fun c2=>(bif (!c2) then (some false) else (Fx.seq ((Sh.pB x0).bind fun c3=>((Sh.oB x1).bind fun c4=>(some (Sum.inl (c3,c4))))) fun (c0,c1)=>Sh.iR x0 x1 c0 c1)))
end Go.Proofs
end
section
namespace Go.Sp
open Go Go.Fw Go.Fx
theorem w64 {x:Int} (h : -9223372036854775808 ≤ x ∧ x ≤ 9223372036854775807):IntKind.i64.wrap x = x:=kL h
def num:List UInt8 → Nat
  | []=>0
  | b :: l=>b.toNat + 256 * num l
theorem aAj (l:List UInt8):num l < 256 ^ l.length:=by
  induction l with
  | nil=>simp [num]
  | cons b l ih =>
    simp only [num,List.length_cons,Nat.pow_succ]
    have:=b.toNat_lt
    omega
theorem aEg (l:List UInt8) (b:UInt8):num (l ++ [b]) = num l + 256 ^ l.length * b.toNat:=by
  induction l with
  | nil=>simp [num]
  | cons a l ih =>
    simp only [List.cons_append,num,ih,List.length_cons,Nat.pow_succ,Nat.mul_add]
    rw [Nat.mul_comm (256 ^ l.length) 256,Nat.mul_assoc]
    omega
theorem aBv (x:Int):∃ k:Int,IntKind.i64.wrap x = x + 18446744073709551616 * k:=by
  unfold IntKind.wrap
  simp only [IntKind.signed,IntKind.bits,Bool.true_and,decide_eq_true_eq]
  have h:=Int.emod_add_mul_ediv x (2 ^ 64)
  split
  · exact ⟨-(x / 2 ^ 64) - 1,by omega⟩
  · exact ⟨-(x / 2 ^ 64),by omega⟩
theorem tO (x:Int):BitVec.ofInt 64 (IntKind.i64.wrap x) = BitVec.ofInt 64 x:=by
  obtain ⟨k,hk⟩:=aBv x
  rw [hk]
  apply BitVec.eq_of_toInt_eq
  simp only [BitVec.toInt_ofInt]
  rw [show (18446744073709551616:Int) = ((2 ^ 64:Nat):Int) by rfl,Int.add_mul_bmod_self_left]
theorem aDa {N b m:Nat} (hN:N < 2 ^ m) (hb:2 ^ m * b + N < 2 ^ 64):bor .i64 (IntKind.i64.wrap (N:Nat)) (IntKind.i64.wrap ((2 ^ m * b:Nat):Int)) = IntKind.i64.wrap ((N + 2 ^ m * b:Nat):Int):=by
  have e0:∀ x y,bor .i64 x y = IntKind.i64.wrap ((BitVec.ofInt 64 x ||| BitVec.ofInt 64 y).toNat:Int):=fun _ _=>rfl
  rw [e0,tO,tO,BitVec.toNat_or,BitVec.ofInt_natCast,BitVec.ofInt_natCast,BitVec.toNat_ofNat,BitVec.toNat_ofNat,Nat.mod_eq_of_lt (by omega),Nat.mod_eq_of_lt (by omega),Nat.or_comm,
    ← Nat.two_pow_add_eq_or_of_lt hN,Nat.add_comm]
end Go.Sp
end
section
namespace Go.Sp
open Go Go.Fw Go.Fx Go.Proofs
structure Wf (b:List UInt8) (r:QReader):Prop where
  b_eq:r.b = b
  at0:0 ≤ r.at_
  at1:r.at_ ≤ b.length
  p0:0 ≤ r.place
  p1:r.place ≤ b.length
def Rd (b:List UInt8) (r r':QReader) (enc:List UInt8) (good:Prop):Prop :=
  Wf b r' ∧ (r'.e = 0 → r.e = 0 ∧ good ∧ b.drop r.at_.toNat = enc ++ b.drop r'.at_.toNat)
section
variable {b:List UInt8} {r r1 r2:QReader}
theorem Rd.trans {e1 e2:List UInt8} {g1 g2:Prop} (h:Rd b r r1 e1 g1) (k:Rd b r1 r2 e2 g2):Rd b r r2 (e1 ++ e2) (g1 ∧ g2) :=
  ⟨k.1,fun he=>by
    obtain ⟨h1,h2,h3⟩:=k.2 he
    obtain ⟨h4,h5,h6⟩:=h.2 h1
    exact ⟨h4,⟨h5,h2⟩,by rw [h6,h3,List.append_assoc]⟩⟩
theorem Rd.refl (h:Wf b r):Rd b r r [] True:=⟨h,fun he=>⟨he,trivial,rfl⟩⟩
theorem Rd.imp {e e':List UInt8} {g g':Prop} (h:Rd b r r1 e g) (k:g → e = e' ∧ g'):Rd b r r1 e' g' :=
  ⟨h.1,fun he=>by obtain ⟨h1,h2,h3⟩:=h.2 he; obtain ⟨h4,h5⟩:=k h2; subst h4; exact ⟨h1,h5,h3⟩⟩
theorem Rd.bad (h:Wf b r1) (he:r1.e ≠ 0) {e:List UInt8} {g:Prop}:Rd b r r1 e g:=⟨h,fun k=>absurd k he⟩
theorem rT (y:List UInt8 × QReader) (hl:y.1.length ≤ 8):∀ (m k:Nat),m + k = y.1.length →
    Fx.loop (fun (v:Int × Int)=>match v with | (v1,v2)=>Sh.eE y v1 v2) ((k:Int),IntKind.i64.wrap (num (y.1.take k):Nat)) = some (Sum.inl (y.2,IntKind.i64.wrap (num y.1:Nat))):=by
  intro m
  induction m with
  | zero =>
    intro k hk
    rw [Fx.loop_eq]
    have h:¬ ((k:Int) < (y.1.length:Int)):=by omega
    simp [Sh.eE,h,List.take_of_length_le (show y.1.length ≤ k by omega)]
  | succ m ih =>
    intro k hk
    rw [Fx.loop_eq]
    have h:((k:Int) < (y.1.length:Int)):=by omega
    have hkl:k < y.1.length:=by omega
    have e1:IntKind.i64.wrap (8 * (k:Int)) = 8 * (k:Int):=w64 (by omega)
    have e2:IntKind.i64.wrap ((k:Int) + 1) = ((k + 1:Nat):Int):=by rw [w64 (by omega)]; rfl
    have hg:Fx.get y.1 (k:Int) = some y.1[k]:=by simp [Fx.get,List.getElem?_eq_getElem hkl]
    have e3:(8 * (k:Int)).toNat = 8 * k:=by omega
    have e4:shl .i64 (y.1[k].toNat:Int) (8 * k) = IntKind.i64.wrap ((2 ^ (8 * k) * y.1[k].toNat:Nat):Int):=by
      unfold shl
      rw [Nat.min_eq_left (by simp [IntKind.bits]; omega),Int.mul_comm]
      congr 1
    have hN:=aAj (y.1.take k)
    rw [List.length_take,Nat.min_eq_left (by omega)] at hN
    have e256:(256:Nat) ^ k = 2 ^ (8 * k):=by rw [Nat.pow_mul]
    have hb:=y.1[k].toNat_lt
    have hb2:2 ^ (8 * k) * y.1[k].toNat + num (y.1.take k) < 2 ^ 64:=by
      have h1:2 ^ (8 * k) * y.1[k].toNat ≤ 2 ^ (8 * k) * 255:=Nat.mul_le_mul_left _ (by omega)
      have h2:2 ^ (8 * k) * 256 ≤ 2 ^ 64:=by
        rw [show (256:Nat) = 2 ^ 8 by rfl,← Nat.pow_add]; exact Nat.pow_le_pow_right (by decide) (by omega)
      rw [← e256] at h1 h2 ⊢
      omega
    have e5:num (y.1.take (k + 1)) = num (y.1.take k) + 2 ^ (8 * k) * y.1[k].toNat:=by
      rw [List.take_add_one,List.getElem?_eq_getElem hkl,Option.toList_some,aEg,List.length_take,Nat.min_eq_left (by omega),e256]
    have:=ih (k + 1) (by omega)
    simp only [Sh.eE,h,decide_true,cond_true,hg,Option.bind_some,e1,e2,Fx.must,show (0 ≤ 8 * (k:Int)) by omega,e3,e4,aDa (by rw [← e256]; exact hN) hb2]
    rw [← e5]
    exact this
end
end Go.Sp
end
section
namespace Go.Sp
open Go Go.Fw Go.Fx
section
variable {σ γ X:Type} {body:σ → Option (σ ⊕ γ)}
theorem eM {s s':σ} {o:Option γ} (h:body s = some (.inl s')) (k:loop body s' = o):loop body s = o:=by rw [loop_eq,h]; exact k
theorem dW {s:σ} {g:γ} (h:body s = some (.inr g)):loop body s = some g:=by rw [loop_eq,h]
theorem cK {α:Type} (n:Nat) (st:Nat → α → σ) (I:Nat → α → Prop) (Q:γ → Prop)
    (h:∀ i a,i < n → I i a → (∃ a',body (st i a) = some (.inl (st (i + 1) a')) ∧ I (i + 1) a') ∨ ∃ g,body (st i a) = some (.inr g) ∧ Q g)
    (h':∀ a,I n a → ∃ g,body (st n a) = some (.inr g) ∧ Q g):∀ m i a,m + i = n → I i a → ∃ g,loop body (st i a) = some g ∧ Q g:=by
  intro m
  induction m with
  | zero =>
    intro i a e hI
    obtain rfl:i = n:=by omega
    obtain ⟨g,hg,hq⟩:=h' a hI
    exact ⟨g,dW hg,hq⟩
  | succ m ih =>
    intro i a e hI
    rcases h i a (by omega) hI with ⟨a',hb,hI'⟩ | ⟨g,hg,hq⟩
    · obtain ⟨g,hg,hq⟩:=ih (i + 1) a' (by omega) hI'
      exact ⟨g,eM hb hg,hq⟩
    · exact ⟨g,dW hg,hq⟩
end
theorem bB {τ γ:Type} {x:τ} {k:τ → Option γ}:Fx.seq (some (Sum.inl x)) k = k x:=rfl
theorem kB {τ γ:Type} {x:γ} {k:τ → Option γ}:Fx.seq (some (Sum.inr x)) k = some x:=rfl
theorem cD {τ γ:Type} {t:Option (τ ⊕ γ)} {o:τ ⊕ γ} {k:τ → Option γ} {u:Option γ} (h:t = some o) (h':Fx.fin k o = u):Fx.seq t k = u:=by rw [h]; exact h'
theorem next64 {i n:Nat} (h:i < n) (hn:n ≤ 4611686018427387904):IntKind.i64.wrap ((i:Int) + 1) = ((i + 1:Nat):Int):=by rw [w64 (by omega)]; rfl
theorem bN {X:Type} {l:List X} {i:Nat} (h:i < l.length):Fx.get l (i:Int) = some l[i]:=by simp [Fx.get,List.getElem?_eq_getElem h]
theorem cC {i n:Nat}:decide ((i:Int) < (n:Int)) = decide (i < n):=by simp
theorem cZ {X:Type} {bytes:Nat} {l m:List X} (h:(l.length + m.length) * bytes ≤ 140737488355328) (k:l.length + m.length ≤ 4611686018427387904):Fx.app bytes l m = some (l ++ m):=if_pos ⟨h,k⟩
end Go.Sp
end
section
namespace Go.Sp
open Go Go.Fw Go.Fx Go.Proofs
section
variable {b:List UInt8} {r r1 r2:QReader}
theorem Rd.at_ {e:List UInt8} {g:Prop} (hw:Wf b r) (h:Rd b r r1 e g) (he:r1.e = 0):r1.at_ = r.at_ + e.length:=by
  have h1:=congrArg List.length (h.2 he).2.2
  simp only [List.length_append,List.length_drop] at h1
  have:=hw.at1; have:=h.1.at1; have:=hw.at0; have:=h.1.at0
  omega
end
end Go.Sp
end
section
namespace Go.Sp
open Go Go.Fw Go.Fx Go.Proofs
theorem dY (x lo hi:Int):Sh.bU x lo hi = some (decide (lo ≤ x ∧ x ≤ hi)):=by
  unfold Sh.bU
  by_cases h:lo ≤ x <;> simp [h,Fx.seq,Fx.fin,Sh.pA]
end Go.Sp
end
section
namespace Go.Sp
open Go Go.Fw Go.Fx Go.Proofs
def cur (r:QReader):QCursor:=QCursor.mk r.b r.at_ r.place r.e
def tk (r:QReader) (n:Int):List UInt8 × QReader :=
  if r.e = 0 then (if r.at_ + n ≤ r.b.length then ((r.b.drop r.at_.toNat).take n.toNat,QReader.mk r.b (r.at_ + n) r.place r.e) else ([],QReader.mk r.b r.at_ r.b.length 236)) else ([],r)
section
variable {b:List UInt8} {r r1 r2:QReader}
theorem qR (hb:b.length ≤ 16777216) (hw:Wf b r) {n:Int} (hn:0 ≤ n ∧ n ≤ 4294967296):Sh.aU r n = some (tk r n):=by
  obtain ⟨h1,h2,h3,h4,h5⟩:=hw
  unfold Sh.aU tk
  have e1:IntKind.i64.wrap ((r.b.length:Int) - r.at_) = (b.length:Int) - r.at_:=by rw [h1]; exact w64 (by omega)
  rw [e1]
  have e2:IntKind.i64.wrap (r.at_ + n) = r.at_ + n:=w64 (by omega)
  have e3:IntKind.i64.wrap (r.at_ + n - n) = r.at_:=by rw [w64 (by omega)]; omega
  by_cases he:r.e = 0
  · by_cases hlt:(b.length:Int) - r.at_ < n
    · have h6:¬ r.at_ + n ≤ (r.b.length:Int):=by rw [h1]; omega
      simp [hlt,he,h6,Sh.aB,bB,Sh.cD]
    · have h6:r.at_ + n ≤ (r.b.length:Int):=by rw [h1]; omega
      have e4:(r.at_ + n).toNat - r.at_.toNat = n.toNat:=by omega
      simp only [hlt,decide_false,cond_false,bB,Sh.cD,he,decide_true,Bool.not_true,e2,e3,if_true,h6,Fx.slc]
      have h7:0 ≤ r.at_ ∧ r.at_ ≤ r.at_ + n ∧ True:=⟨h2,by omega,trivial⟩
      rw [if_pos h7,e4]; rfl
  · by_cases hlt:(b.length:Int) - r.at_ < n
    · simp [hlt,he,Sh.aB,bB,Sh.cD]
    · simp [hlt,he,bB,Sh.cD]
theorem lQ (hb:b.length ≤ 16777216) (hw:Wf b r) {n:Nat} (hn:n ≤ 8):Sh.aA r (n:Nat) = some (IntKind.i64.wrap (num (tk r n).1:Nat),(tk r n).2):=by
  have ht:=qR hb hw (n:=(n:Nat)) (by omega)
  have hxl:(tk r n).1.length ≤ 8:=by unfold tk; split <;> (try split) <;> simp <;> omega
  have hl:=rT (tk r n) hxl (tk r n).1.length 0 (by simp)
  have e0:IntKind.i64.wrap ((num ((tk r n).1.take 0):Nat):Int) = 0:=by simp [num]; rfl
  rw [e0] at hl
  unfold Sh.aA
  simp only [ht,Option.bind_some]
  exact cD hl rfl
theorem yJ (x:List UInt8) (i:Nat) (h:i < x.length):num (x.drop i) = x[i].toNat + 256 * num (x.drop (i + 1)):=by
  rw [List.drop_eq_getElem_cons h]; rfl
theorem wu64 {x:Int} (h:0 ≤ x ∧ x < 18446744073709551616):IntKind.u64.wrap x = x:=by
  simp [IntKind.wrap,IntKind.signed,IntKind.bits]; omega
theorem uV (c:QCursor) (x:List UInt8) (h0:0 ≤ c.at_) (hc:c.at_ ≤ 16777216) (hx:x.length ≤ 8) (hg:∀ i (h:i < x.length),Fx.get c.b (c.at_ + (i:Int)) = some x[i]):∀ (m:Nat),m ≤ x.length →
    Fx.loop (fun (v:Int × Int)=>match v with | (v1,v2)=>Sh.eC c v1 v2) ((num (x.drop m):Nat),(m:Int) - 1) = some (Sum.inl ((num x:Nat):Int)):=by
  intro m
  induction m with
  | zero=>intro _; exact dW (by simp [Sh.eC])
  | succ m ih =>
    intro hm
    have hlt:=aAj (x.drop m)
    rw [List.length_drop] at hlt
    have h8:256 ^ (x.length - m) ≤ 256 ^ 8:=Nat.pow_le_pow_right (by decide) (by omega)
    have h8':256 ^ 8 = 18446744073709551616:=by decide
    rw [yJ x m (by omega)] at hlt
    have e1:((m + 1:Nat):Int) - 1 = (m:Int):=by omega
    refine eM ?_ (ih (by omega))
    rw [e1]
    have h1:(0:Int) ≤ (m:Int):=by omega
    have e2:IntKind.i64.wrap (c.at_ + (m:Int)) = c.at_ + (m:Int):=w64 (by omega)
    have e3:IntKind.i64.wrap ((m:Int) - 1) = (m:Int) - 1:=w64 (by omega)
    have e4:IntKind.u64.wrap (IntKind.u64.wrap (((num (x.drop (m + 1)):Nat):Int) * 256) + ((x[m]'(by omega)).toNat:Int)) = ((num (x.drop m):Nat):Int):=by
      rw [yJ x m (by omega)]
      rw [wu64 (x:=((num (x.drop (m + 1)):Nat):Int) * 256) (by omega),wu64 (by omega)]
      omega
    simp only [Sh.eC,h1,decide_true,cond_true,e2,hg m (by omega),Option.bind_some,e3,e4]
theorem xR (hb:b.length ≤ 16777216) (hw:Wf b r) {n:Nat} (hn:n ≤ 8):Sh.aC (cur r) (n:Nat) = some (IntKind.i64.wrap (num (tk r n).1:Nat),cur (tk r n).2):=by
  obtain ⟨h1,h2,h3,h4,h5⟩:=hw
  have e2:IntKind.i64.wrap (r.at_ + (n:Int)) = r.at_ + n:=w64 (by omega)
  unfold Sh.aC tk
  by_cases he:r.e = 0
  · by_cases hlt:r.at_ + (n:Int) ≤ (r.b.length:Int)
    · have h6:¬ (r.b.length:Int) < r.at_ + (n:Int):=by omega
      simp only [cur,he,decide_true,cond_true,e2,h6,decide_false,bB,Sh.dC,cond_false,Sh.dB,Bool.not_true,if_true,hlt]
      have hlen:((r.b.drop r.at_.toNat).take (n:Int).toNat).length = n:=by simp; omega
      have:=uV (QCursor.mk r.b r.at_ r.place 0) ((r.b.drop r.at_.toNat).take (n:Int).toNat) h2 (by simp; omega) (by omega) (fun i h=>by
        have hi:r.at_.toNat + i < r.b.length:=by rw [hlen] at h; omega
        have e:(r.at_ + (i:Int)).toNat = r.at_.toNat + i:=by omega
        simp only [Fx.get]
        rw [if_pos (by omega),e,List.getElem?_eq_getElem hi]
        simp) n (by omega)
      rw [List.drop_of_length_le (by omega)] at this
      have e5:IntKind.i64.wrap ((n:Int) - 1) = (n:Int) - 1:=w64 (by omega)
      rw [e5]
      exact cD this (by simp only [Fx.fin,Sh.iO,e2,cur])
    · have h6:(r.b.length:Int) < r.at_ + (n:Int):=by omega
      simp [cur,he,e2,h6,bB,Sh.dC,Sh.dB,hlt,Sh.aL,num]
      rfl
  · simp [cur,he,bB,Sh.dC,Sh.dB,num]
    rfl
end
end Go.Sp
end
section
namespace Go.Sp
open Go Go.Fw Go.Fx Go.Proofs
section
variable {b:List UInt8} {r r1 r2:QReader}
theorem gO (hb:b.length ≤ 16777216) (hw:Wf b r) (n:Nat) (hn:n ≤ 8) {v:Int} (h:Sh.aA r (n:Nat) = some (v,r1)):Sh.aC (cur r) (n:Nat) = some (v,cur r1) ∧ (r1.e ≠ 0 → v = 0):=by
  rw [lQ hb hw hn] at h
  have h1:=congrArg Prod.fst (Option.some.inj h)
  have h2:=congrArg Prod.snd (Option.some.inj h)
  simp only at h1 h2
  subst h1 h2
  refine ⟨xR hb hw hn,fun he=>?_⟩
  have:(tk r n).1 = []:=by
    unfold tk at he ⊢
    split
    · rename_i h0
      rw [if_pos h0] at he
      split
      · rename_i h1; rw [if_pos h1] at he; exact absurd h0 he
      · rfl
    · rfl
  rw [this]; simp [num]; rfl
end
end Go.Sp
end
section
namespace Go.Sp
open Go Go.Fw Go.Fx Go.Proofs
theorem gD (x lo hi:Int):Sh.bS x lo hi = some (decide (lo ≤ x ∧ x ≤ hi)):=by
  unfold Sh.bS
  by_cases h:lo ≤ x <;> simp [h,Fx.seq,Fx.fin,Sh.oQ]
theorem prev64 {i:Nat} (h:0 < i) (hn:i ≤ 4611686018427387904):IntKind.i64.wrap ((i:Int) - 1) = ((i - 1:Nat):Int):=by rw [w64 (by omega)]; omega
structure OkAt {X:Type} (key:X → Int) (bad:X → Prop) (top:Int) (l:List X) (i:Nat) (h:i < l.length):Prop where
  lo:0 ≤ key l[i]
  hi:key l[i] ≤ top
  un:¬ bad l[i]
  up:∀ (k:0 < i),key (l[i - 1]'(by omega)) < key l[i]
def AllOk {X:Type} (key:X → Int) (bad:X → Prop) (top:Int) (l:List X) (n:Nat):Prop:=∀ i (h:i < l.length),i < n → OkAt key bad top l i h
def AllReg (m:QMark) (n:Nat):Prop:=AllOk (fun t:LTurn=>t.reg) (fun t=>t.old = t.new) 10 m.regs n
def AllSlot (m:QMark) (n:Nat):Prop:=AllOk (fun t:LCell=>t.slot) (fun t=>t.old = t.new) 31 m.slots n
theorem AllOk.succ {X:Type} {key:X → Int} {bad:X → Prop} {top:Int} {l:List X} {n:Nat} (h:AllOk key bad top l n) (hn:n < l.length) (k:OkAt key bad top l n hn):AllOk key bad top l (n + 1):=by
  intro i hi hin
  by_cases e:i = n
  · subst e; exact k
  · exact h i hi (by omega)
theorem aAt {m:QMark} (hm:m.regs.length ≤ 1099511627776):∃ g,Fx.loop (fun (v:Int × Int)=>match v with | (v1,v2)=>Sh.bG m v1 v2) (0,-1) = some g ∧ ((g = Sum.inl () ∧ AllReg m m.regs.length) ∨ (g = Sum.inr false ∧ ¬ AllReg m m.regs.length)):=by
  refine cK (body:=fun (v:Int × Int)=>match v with | (v1,v2)=>Sh.bG m v1 v2) m.regs.length (fun i (a:Int)=>((i:Int),a)) (fun i a=>AllReg m i ∧ ((i = 0 ∧ a = -1) ∨ ∃ h:i - 1 < m.regs.length,0 < i ∧ a = (m.regs[i - 1]).reg)) _
    (fun i a hi hI=>?_) (fun a hI=>⟨Sum.inl (),by simp [Sh.bG],.inl ⟨rfl,hI.1⟩⟩) m.regs.length 0 (-1) (by omega) ⟨fun _ _ h=>by omega,.inl ⟨rfl,rfl⟩⟩
  show (∃ a',Sh.bG m (i:Int) a = _ ∧ _) ∨ ∃ g,Sh.bG m (i:Int) a = _ ∧ _
  obtain ⟨hA,ha⟩:=hI
  have hrange : -1 ≤ a ∧ a ≤ 10:=by
    rcases ha with ⟨_,rfl⟩ | ⟨h,h0,rfl⟩
    · omega
    · have:=hA (i - 1) h (by omega); have h1:=this.lo; have h2:=this.hi; omega
  have e1:IntKind.i64.wrap (a + 1) = a + 1:=w64 (by omega)
  have hup:∀ q:Int,(∀ (k:0 < i),(m.regs[i - 1]'(by omega)).reg < q) ∧ 0 ≤ q ↔ a + 1 ≤ q:=by
    intro q
    rcases ha with ⟨h0,rfl⟩ | ⟨h,h0,rfl⟩
    · subst h0; constructor
      · rintro ⟨_,h⟩; omega
      · intro h; exact ⟨fun k=>by omega,by omega⟩
    · have:=(hA (i - 1) h (by omega)).lo
      constructor
      · rintro ⟨h1,_⟩; have:=h1 h0; omega
      · intro h1; exact ⟨fun _=>by omega,by omega⟩
  simp only [Sh.bG,cC,hi,decide_true,cond_true,bN hi,Option.bind_some,dY,Sh.nM,e1]
  by_cases c:a + 1 ≤ (m.regs[i]).reg ∧ (m.regs[i]).reg ≤ 10
  · by_cases c':(m.regs[i]).old = (m.regs[i]).new
    · right
      refine ⟨Sum.inr false,by simp [c,c',bB],.inr ⟨rfl,fun h=>(h i hi hi).un c'⟩⟩
    · left
      refine ⟨(m.regs[i]).reg,by simp [c,c',bB,next64 hi (show m.regs.length ≤ _ by omega)],hA.succ hi ⟨((hup _).2 c.1).2,c.2,c',((hup _).2 c.1).1⟩,.inr ⟨by omega,by omega,rfl⟩⟩
  · right
    refine ⟨Sum.inr false,by simp [c,bB],.inr ⟨rfl,fun h=>c ⟨(hup _).1 ⟨(h i hi hi).up,(h i hi hi).lo⟩,(h i hi hi).hi⟩⟩⟩
theorem aIe {m:QMark} (hm:m.regs.length ≤ 1099511627776):∃ g,Fx.loop (fun (v:Int)=>Sh.fH m v) 0 = some g ∧ ((g = Sum.inl () ∧ AllReg m m.regs.length) ∨ (g = Sum.inr false ∧ ¬ AllReg m m.regs.length)):=by
  refine cK (body:=fun (v:Int)=>Sh.fH m v) m.regs.length (fun i (a:Unit)=>(i:Int)) (fun i a=>AllReg m i) _
    (fun i a hi hA=>?_) (fun a hI=>⟨Sum.inl (),by simp [Sh.fH],.inl ⟨rfl,hI⟩⟩) m.regs.length 0 () (by omega) (fun _ _ h=>by omega)
  show (∃ a',Sh.fH m (i:Int) = _ ∧ _) ∨ ∃ g,Sh.fH m (i:Int) = _ ∧ _
  simp only [Sh.fH,cC,hi,decide_true,cond_true,bN hi,Option.bind_some,gD,Sh.pL]
  by_cases c:0 ≤ (m.regs[i]).reg ∧ (m.regs[i]).reg ≤ 10
  · by_cases c':(m.regs[i]).old = (m.regs[i]).new
    · right
      refine ⟨Sum.inr false,by simp [c,c',bB],.inr ⟨rfl,fun h=>(h i hi hi).un c'⟩⟩
    · by_cases h0:0 < i
      · have h0':(0:Int) < (i:Int):=by omega
        have hp:i - 1 < m.regs.length:=by omega
        by_cases c2:(m.regs[i]).reg ≤ (m.regs[i - 1]).reg
        · right
          refine ⟨Sum.inr false,by simp [c,c',h0,prev64 h0 (by omega),bN hp,c2,bB],.inr ⟨rfl,fun h=>?_⟩⟩
          have:=(h i hi hi).up h0
          omega
        · left
          refine ⟨(),by simp [c,c',h0,prev64 h0 (by omega),bN hp,c2,bB,next64 hi (show m.regs.length ≤ _ by omega)],AllOk.succ hA hi ⟨c.1,c.2,c',fun _=>by omega⟩⟩
      · left
        have h0':¬ (0:Int) < (i:Int):=by omega
        refine ⟨(),by simp [c,c',h0,bB,next64 hi (show m.regs.length ≤ _ by omega)],AllOk.succ hA hi ⟨c.1,c.2,c',fun k=>absurd k h0⟩⟩
  · right
    refine ⟨Sum.inr false,by simp [c,bB],.inr ⟨rfl,fun h=>c ⟨(h i hi hi).lo,(h i hi hi).hi⟩⟩⟩
theorem xC {m:QMark} (hm:m.slots.length ≤ 1099511627776):∃ g,Fx.loop (fun (v:Int × Int)=>match v with | (v1,v2)=>Sh.bH m v1 v2) (-1,0) = some g ∧ ((g = Sum.inl () ∧ AllSlot m m.slots.length) ∨ (g = Sum.inr false ∧ ¬ AllSlot m m.slots.length)):=by
  refine cK (body:=fun (v:Int × Int)=>match v with | (v1,v2)=>Sh.bH m v1 v2) m.slots.length (fun i (a:Int)=>(a,(i:Int))) (fun i a=>AllSlot m i ∧ ((i = 0 ∧ a = -1) ∨ ∃ h:i - 1 < m.slots.length,0 < i ∧ a = (m.slots[i - 1]).slot)) _
    (fun i a hi hI=>?_) (fun a hI=>⟨Sum.inl (),by simp [Sh.bH],.inl ⟨rfl,hI.1⟩⟩) m.slots.length 0 (-1) (by omega) ⟨fun _ _ h=>by omega,.inl ⟨rfl,rfl⟩⟩
  show (∃ a',Sh.bH m a (i:Int) = _ ∧ _) ∨ ∃ g,Sh.bH m a (i:Int) = _ ∧ _
  obtain ⟨hA,ha⟩:=hI
  have hrange : -1 ≤ a ∧ a ≤ 31:=by
    rcases ha with ⟨_,rfl⟩ | ⟨h,h0,rfl⟩
    · omega
    · have:=hA (i - 1) h (by omega); have h1:=this.lo; have h2:=this.hi; omega
  have e1:IntKind.i64.wrap (a + 1) = a + 1:=w64 (by omega)
  have hup:∀ q:Int,(∀ (k:0 < i),(m.slots[i - 1]'(by omega)).slot < q) ∧ 0 ≤ q ↔ a + 1 ≤ q:=by
    intro q
    rcases ha with ⟨h0,rfl⟩ | ⟨h,h0,rfl⟩
    · subst h0; constructor
      · rintro ⟨_,h⟩; omega
      · intro h; exact ⟨fun k=>by omega,by omega⟩
    · have:=(hA (i - 1) h (by omega)).lo
      constructor
      · rintro ⟨h1,_⟩; have:=h1 h0; omega
      · intro h1; exact ⟨fun _=>by omega,by omega⟩
  simp only [Sh.bH,cC,hi,decide_true,cond_true,bN hi,Option.bind_some,dY,Sh.nN,e1]
  by_cases c:a + 1 ≤ (m.slots[i]).slot ∧ (m.slots[i]).slot ≤ 31
  · by_cases c':(m.slots[i]).old = (m.slots[i]).new
    · right
      refine ⟨Sum.inr false,by simp [c,c',bB],.inr ⟨rfl,fun h=>(h i hi hi).un c'⟩⟩
    · left
      refine ⟨(m.slots[i]).slot,by simp [c,c',bB,next64 hi (show m.slots.length ≤ _ by omega)],hA.succ hi ⟨((hup _).2 c.1).2,c.2,c',((hup _).2 c.1).1⟩,.inr ⟨by omega,by omega,rfl⟩⟩
  · right
    refine ⟨Sum.inr false,by simp [c,bB],.inr ⟨rfl,fun h=>c ⟨(hup _).1 ⟨(h i hi hi).up,(h i hi hi).lo⟩,(h i hi hi).hi⟩⟩⟩
theorem aG3 {m:QMark} (hm:m.slots.length ≤ 1099511627776):∃ g,Fx.loop (fun (v:Int)=>Sh.fI m v) 0 = some g ∧ ((g = Sum.inl () ∧ AllSlot m m.slots.length) ∨ (g = Sum.inr false ∧ ¬ AllSlot m m.slots.length)):=by
  refine cK (body:=fun (v:Int)=>Sh.fI m v) m.slots.length (fun i (a:Unit)=>(i:Int)) (fun i a=>AllSlot m i) _
    (fun i a hi hA=>?_) (fun a hI=>⟨Sum.inl (),by simp [Sh.fI],.inl ⟨rfl,hI⟩⟩) m.slots.length 0 () (by omega) (fun _ _ h=>by omega)
  show (∃ a',Sh.fI m (i:Int) = _ ∧ _) ∨ ∃ g,Sh.fI m (i:Int) = _ ∧ _
  simp only [Sh.fI,cC,hi,decide_true,cond_true,bN hi,Option.bind_some,gD,Sh.pM]
  by_cases c:0 ≤ (m.slots[i]).slot ∧ (m.slots[i]).slot ≤ 31
  · by_cases c':(m.slots[i]).old = (m.slots[i]).new
    · right
      refine ⟨Sum.inr false,by simp [c,c',bB],.inr ⟨rfl,fun h=>(h i hi hi).un c'⟩⟩
    · by_cases h0:0 < i
      · have h0':(0:Int) < (i:Int):=by omega
        have hp:i - 1 < m.slots.length:=by omega
        by_cases c2:(m.slots[i]).slot ≤ (m.slots[i - 1]).slot
        · right
          refine ⟨Sum.inr false,by simp [c,c',h0,prev64 h0 (by omega),bN hp,c2,bB],.inr ⟨rfl,fun h=>?_⟩⟩
          have:=(h i hi hi).up h0
          omega
        · left
          refine ⟨(),by simp [c,c',h0,prev64 h0 (by omega),bN hp,c2,bB,next64 hi (show m.slots.length ≤ _ by omega)],AllOk.succ hA hi ⟨c.1,c.2,c',fun _=>by omega⟩⟩
      · left
        have h0':¬ (0:Int) < (i:Int):=by omega
        refine ⟨(),by simp [c,c',h0,bB,next64 hi (show m.slots.length ≤ _ by omega)],AllOk.succ hA hi ⟨c.1,c.2,c',fun k=>absurd k h0⟩⟩
  · right
    refine ⟨Sum.inr false,by simp [c,bB],.inr ⟨rfl,fun h=>c ⟨(h i hi hi).lo,(h i hi hi).hi⟩⟩⟩
def Differ (x y:List UInt8):Prop:=∀ i,i < x.length → x.getD i 0 ≠ y.getD i 0
structure OkP (l:List QPiece) (i:Nat) (h:i < l.length):Prop where
  lo : -1 ≤ (l[i]).table
  hi:(l[i]).table ≤ 7
  from0:0 ≤ (l[i]).from_
  ne:(l[i]).old.length ≠ 0
  eq:(l[i]).new.length = (l[i]).old.length
  top:(l[i]).from_ + ((l[i]).old.length:Int) ≤ 65535
  df:Differ (l[i]).old (l[i]).new
  up:∀ (k:0 < i),(l[i - 1]'(by omega)).table < (l[i]).table ∨ ((l[i - 1]'(by omega)).table = (l[i]).table ∧ (l[i - 1]'(by omega)).from_ + ((l[i - 1]'(by omega)).old.length:Int) < (l[i]).from_)
def AllP (l:List QPiece) (n:Nat):Prop:=∀ i (h:i < l.length),i < n → OkP l i h
theorem AllP.succ {l:List QPiece} {n:Nat} (h:AllP l n) (hn:n < l.length) (k:OkP l n hn):AllP l (n + 1):=by
  intro i hi hin
  by_cases e:i = n
  · subst e; exact k
  · exact h i hi (by omega)
theorem xT {x y:List UInt8} (h:y.length = x.length) (hx:x.length ≤ 1099511627776):∃ l,Sh.cF x y = some l ∧ l.length ≤ x.length ∧ (l.length = x.length ↔ Differ x y):=by
  unfold Sh.cF
  obtain ⟨g,h1,l,h2,h3,h4⟩:=cK (body:=fun (v:List Int × Int)=>match v with | (v1,v2)=>Sh.aT x y v1 v2) x.length (fun i (a:List Int)=>(a,(i:Int))) (fun i a=>a.length ≤ i ∧ (a.length = i ↔ ∀ j,j < i → x.getD j 0 ≠ y.getD j 0)) (fun g=>∃ l,g = Sum.inl l ∧ l.length ≤ x.length ∧ (l.length = x.length ↔ Differ x y))
    (fun i a hi ha=>.inl (by
      have ex:x.getD i 0 = x[i]:=by simp [List.getD,List.getElem?_eq_getElem hi]
      have ey:y.getD i 0 = y[i]'(by omega):=by simp [List.getD,List.getElem?_eq_getElem (show i < y.length by omega)]
      by_cases hc:x[i] = y[i]'(by omega)
      · refine ⟨a,by simp [Sh.aT,Sh.bZ,hi,bN hi,bN (show i < y.length by omega),hc,bB,next64 hi (by omega)],by omega,?_⟩
        constructor
        · intro e; omega
        · intro e; exact absurd (by rw [ex,ey,hc]) (e i (by omega))
      · have hc':¬ ((x[i]).toNat:Int) = ((y[i]'(by omega)).toNat:Int):=fun e=>hc (UInt8.toNat_inj.1 (by omega))
        refine ⟨a ++ [(i:Int)],by simp [Sh.aT,Sh.bZ,hi,bN hi,bN (show i < y.length by omega),hc',bB,next64 hi (by omega),cZ (bytes:=8) (l:=a) (m:=[(i:Int)]) (by simp; omega) (by simp; omega)],by simp; omega,?_⟩
        simp only [List.length_append,List.length_singleton]
        constructor
        · intro e j hj
          by_cases hji:j = i
          · subst hji; rw [ex,ey]; exact hc
          · exact ha.2.1 (by omega) j (by omega)
        · intro e
          have:=ha.2.2 (fun j hj=>e j (by omega))
          omega))
    (fun a ha=>⟨Sum.inl a,by simp [Sh.aT],a,rfl,ha.1,ha.2⟩) x.length 0 [] (by omega) (by simp)
  subst h2
  exact ⟨l,cD h1 rfl,h3,h4⟩
end Go.Sp
end
section
namespace Go.Sp
open Go Go.Fw Go.Fx Go.Proofs
theorem tS {l:List QPiece} (hl:l.length ≤ 1099511627776):∃ g,Fx.loop (fun (v:Int × Int × Int)=>match v with | (v1,v2,v3)=>Sh.aK l v1 v2 v3) (0,-1,0) = some g ∧ ((g = Sum.inl () ∧ AllP l l.length) ∨ (g = Sum.inr false ∧ ¬ AllP l l.length)):=by
  refine cK (body:=fun (v:Int × Int × Int)=>match v with | (v1,v2,v3)=>Sh.aK l v1 v2 v3) l.length (fun i (a:Int × Int)=>((i:Int),a.1,a.2)) (fun i a=>AllP l i ∧ ((i = 0 ∧ a = (-1,0)) ∨ ∃ h:i - 1 < l.length,0 < i ∧ a = ((l[i - 1]).table,(l[i - 1]).from_ + ((l[i - 1]).old.length:Int) + 1))) _
    (fun i a hi hI=>?_) (fun a hI=>⟨Sum.inl (),by simp [Sh.aK],.inl ⟨rfl,hI.1⟩⟩) l.length 0 (-1,0) (by omega) ⟨fun _ _ h=>by omega,.inl ⟨rfl,rfl⟩⟩
  obtain ⟨t,f⟩:=a
  obtain ⟨hA,ha⟩:=hI
  show (∃ a',Sh.aK l (i:Int) t f = _ ∧ _) ∨ ∃ g,Sh.aK l (i:Int) t f = _ ∧ _
  generalize hp:l[i] = p
  have ht : -1 ≤ t ∧ t ≤ 7 ∧ 0 ≤ f ∧ f ≤ 65536:=by
    rcases ha with ⟨_,e⟩ | ⟨h,h0,e⟩
    · cases e; omega
    · have:=hA (i - 1) h (by omega)
      have h1:=this.lo; have h2:=this.hi; have h3:=this.from0; have h4:=this.top
      cases e; omega
  have bad:(∀ h:OkP l i hi,False) → ∃ g,(some (Sum.inr (Sum.inr false)):Option ((Int × Int × Int) ⊕ (Unit ⊕ Bool))) = some (Sum.inr g) ∧ ((g = Sum.inl () ∧ AllP l l.length) ∨ (g = Sum.inr false ∧ ¬ AllP l l.length)) :=
    fun h=>⟨_,rfl,.inr ⟨rfl,fun k=>h (k i hi hi)⟩⟩
  -- what the place must be,said of the state (t,f)
  have hup:∀ h:OkP l i hi,t ≤ p.table ∧ (p.table = t → f ≤ p.from_):=by
    intro h
    rcases ha with ⟨h0,e⟩ | ⟨h',h0,e⟩
    · cases e; have:=h.lo; have:=h.from0; rw [hp] at *; exact ⟨by omega,fun _=>by omega⟩
    · cases e
      have:=h.up h0
      rw [hp] at this
      rcases this with h1 | ⟨h1,h2⟩
      · exact ⟨by omega,fun e=>by omega⟩
      · exact ⟨by omega,fun e=>by omega⟩
  have hdown:∀ q:Int,t ≤ p.table → 0 ≤ p.from_ → (p.table = t → f ≤ p.from_) → ∀ (k:0 < i),(l[i - 1]'(by omega)).table < p.table ∨ ((l[i - 1]'(by omega)).table = p.table ∧ (l[i - 1]'(by omega)).from_ + ((l[i - 1]'(by omega)).old.length:Int) < p.from_):=by
    intro q h1 h2 h3 k
    rcases ha with ⟨h0,e⟩ | ⟨h',h0,e⟩
    · omega
    · cases e
      by_cases hc:p.table = (l[i - 1]).table
      · right; have:=h3 hc; exact ⟨hc.symm,by omega⟩
      · left; omega
  have key:∀ f',0 ≤ f' ∧ f' ≤ 65536 → t ≤ p.table → p.table ≤ 7 → (f' ≤ p.from_ → 0 ≤ p.from_ → (p.table = t → f ≤ p.from_)) → (∀ h:OkP l i hi,f' ≤ p.from_) →
      (∃ a',Sh.cB (i:Int) p p.table f' = some (Sum.inl (((i + 1:Nat):Int),a'.1,a'.2)) ∧ AllP l (i + 1) ∧ ((i + 1 = 0 ∧ a' = ((-1,0):Int × Int)) ∨ ∃ h:i + 1 - 1 < l.length,0 < i + 1 ∧ a' = ((l[i + 1 - 1]).table,(l[i + 1 - 1]).from_ + ((l[i + 1 - 1]).old.length:Int) + 1))) ∨
      ∃ g,Sh.cB (i:Int) p p.table f' = some (Sum.inr g) ∧ ((g = Sum.inl () ∧ AllP l l.length) ∨ (g = Sum.inr false ∧ ¬ AllP l l.length)):=by
    intro f' hf h1 h2 h3 h4
    unfold Sh.cB
    by_cases c1:(p.old.length:Int) = 0
    · right; simpa [c1,bB,Sh.aW] using bad (fun h=>h.ne (by rw [hp]; omega))
    by_cases c2:(p.new.length:Int) = (p.old.length:Int)
    · by_cases c3:65535 < (p.old.length:Int)
      · right; simpa [c1,c2,c3,bB,Sh.aW] using bad (fun h=>by have h5:=h.top; have h6:=h.from0; rw [hp] at h5 h6; omega)
      · have e1:IntKind.i64.wrap (65535 - (p.old.length:Int)) = 65535 - (p.old.length:Int):=w64 (by omega)
        simp only [c1,c2,c3,decide_false,decide_true,cond_false,Bool.not_true,dY,Option.bind_some,e1]
        by_cases c4:f' ≤ p.from_ ∧ p.from_ ≤ 65535 - (p.old.length:Int)
        · obtain ⟨x,hx,hx1,hx2⟩:=xT (x:=p.old) (y:=p.new) (by omega) (by omega)
          simp only [c4,decide_true,Bool.not_true,cond_false,and_self,hx,Option.bind_some,bB,Sh.aW]
          by_cases c5:(x.length:Int) < (p.old.length:Int)
          · right
            rw [decide_eq_true c5]
            exact bad (fun h=>by have:=hx2.2 (by rw [← hp]; exact h.df); omega)
          · left
            have e2:IntKind.i64.wrap (IntKind.i64.wrap (p.from_ + (p.old.length:Int)) + 1) = p.from_ + (p.old.length:Int) + 1:=by rw [w64 (x:=p.from_ + (p.old.length:Int)) (by omega),w64 (by omega)]
            refine ⟨(p.table,p.from_ + (p.old.length:Int) + 1),by simp only [c5,decide_false,cond_false,next64 hi (show l.length ≤ _ by omega),e2],hA.succ hi ?_,.inr ⟨by omega,by omega,by simp [hp]⟩⟩
            have hd:=hx2.1 (by omega)
            refine ⟨by rw [hp]; omega,by rw [hp]; omega,by rw [hp]; omega,by rw [hp]; omega,by rw [hp]; omega,by rw [hp]; omega,by rw [hp]; exact hd,?_⟩
            rw [hp]
            exact hdown 0 h1 (by omega) (h3 c4.1 (by omega))
        · right
          simp only [c4,decide_false,Bool.not_false,cond_true,bB,Sh.aW]
          exact bad (fun h=>c4 ⟨h4 h,by have h5:=h.top; rw [hp] at h5; omega⟩)
    · right; simpa [c1,c2,bB,Sh.aW] using bad (fun h=>c2 (by have:=h.eq; rw [hp] at this; omega))
  simp only [Sh.aK,cC,hi,decide_true,cond_true,bN hi,hp,Option.bind_some,dY]
  by_cases c:t ≤ p.table ∧ p.table ≤ 7
  · simp only [c,and_self,decide_true,Bool.not_true,cond_false]
    by_cases c':t < p.table
    · simp only [c',decide_true,cond_true,bB]
      exact key 0 (by omega) c.1 c.2 (fun _ _ e=>by omega) (fun h=>by have:=h.from0; rw [hp] at this; exact this)
    · have e:p.table = t:=by omega
      simp only [c',decide_false,cond_false,bB]
      have:=key f (by omega) c.1 c.2 (fun h _ _=>h) (fun h=>(hup h).2 e)
      rw [e] at this
      rw [e] at *
      exact this
  · simp only [c,decide_false,Bool.not_false,cond_true,kB]
    right
    exact bad (fun h=>c ⟨(hup h).1,by have:=h.hi; rw [hp] at this; exact this⟩)
theorem aF1 {x:QPiece} (h:x.new.length = x.old.length) (hx:x.old.length ≤ 1099511627776):∃ g,Fx.loop (fun (v:Int)=>Sh.gA x v) 0 = some g ∧ ((g = Sum.inl () ∧ Differ x.old x.new) ∨ (g = Sum.inr (Sum.inr (Sum.inr (Sum.inr false))) ∧ ¬ Differ x.old x.new)):=by
  refine cK (body:=fun (v:Int)=>Sh.gA x v) x.old.length (fun i (a:Unit)=>(i:Int)) (fun i a=>∀ j,j < i → x.old.getD j 0 ≠ x.new.getD j 0) _
    (fun i a hi hA=>?_) (fun a hI=>⟨Sum.inl (),by simp [Sh.gA],.inl ⟨rfl,hI⟩⟩) x.old.length 0 () (by omega) (fun _ h=>by omega)
  have hi2:i < x.new.length:=by omega
  have ex:x.old.getD i 0 = x.old[i]:=by simp [List.getD,List.getElem?_eq_getElem hi]
  have ey:x.new.getD i 0 = x.new[i]:=by simp [List.getD,List.getElem?_eq_getElem hi2]
  by_cases hc:((x.old[i]).toNat:Int) = ((x.new[i]).toNat:Int)
  · right
    refine ⟨Sum.inr (Sum.inr (Sum.inr (Sum.inr false))),by simp [Sh.gA,hi,bN hi,bN hi2,hc],.inr ⟨rfl,fun hd=>hd i hi ?_⟩⟩
    rw [ex,ey]
    exact UInt8.toNat_inj.1 (by omega)
  · left
    refine ⟨(),by simp [Sh.gA,hi,bN hi,bN hi2,hc,next64 hi (show x.old.length ≤ _ by omega)],fun j hj=>?_⟩
    by_cases e:j = i
    · subst e; rw [ex,ey]; intro e; rw [e] at hc; exact hc rfl
    · exact hA j (by omega)
theorem aEo {l:List QPiece} (hl:l.length ≤ 1099511627776) (hq:∀ p ∈ l,p.old.length ≤ 1099511627776):∃ g,Fx.loop (fun (v:Int)=>Sh.eL l v) 0 = some g ∧ ((g = Sum.inl () ∧ AllP l l.length) ∨ (g = Sum.inr false ∧ ¬ AllP l l.length)):=by
  refine cK (body:=fun (v:Int)=>Sh.eL l v) l.length (fun i (a:Unit)=>(i:Int)) (fun i a=>AllP l i) _
    (fun i a hi hA=>?_) (fun a hI=>⟨Sum.inl (),by simp [Sh.eL],.inl ⟨rfl,hI⟩⟩) l.length 0 () (by omega) (fun _ _ h=>by omega)
  have hpl:=hq l[i] (List.getElem_mem hi)
  generalize hp:l[i] = p at hpl
  have bad:(∀ h:OkP l i hi,False) → ∃ g,(some (Sum.inr (Sum.inr false)):Option (Int ⊕ (Unit ⊕ Bool))) = some (Sum.inr g) ∧ ((g = Sum.inl () ∧ AllP l l.length) ∨ (g = Sum.inr false ∧ ¬ AllP l l.length)) :=
    fun h=>⟨_,rfl,.inr ⟨rfl,fun k=>h (k i hi hi)⟩⟩
  show (∃ a',Sh.eL l (i:Int) = _ ∧ _) ∨ ∃ g,Sh.eL l (i:Int) = _ ∧ _
  simp only [Sh.eL,cC,hi,decide_true,cond_true,bN hi,hp,Option.bind_some,gD]
  by_cases c1 : -1 ≤ p.table ∧ p.table ≤ 7
  case neg=>right; simpa [c1,bB,Sh.bJ,kB] using bad (fun h=>c1 ⟨by rw [← hp]; exact h.lo,by rw [← hp]; exact h.hi⟩)
  by_cases c2:0 ≤ p.from_ ∧ p.from_ ≤ 65535
  case neg=>right; simpa [c1,c2,bB,Sh.bJ,kB] using bad (fun h=>c2 ⟨by rw [← hp]; exact h.from0,by have:=h.top; rw [hp] at this; omega⟩)
  by_cases c3:(p.old.length:Int) = (p.new.length:Int)
  case neg=>right; simpa [c1,c2,c3,bB,Sh.bJ,kB] using bad (fun h=>c3 (by have:=h.eq; rw [hp] at this; omega))
  by_cases c4:(p.old.length:Int) = 0
  · right
    simp only [decide_eq_true c1,decide_eq_true c2,decide_eq_true c3,decide_eq_true c4,Bool.not_true,cond_false,cond_true,bB,Sh.bJ,kB]
    exact bad (fun h=>h.ne (by rw [hp]; omega))
  by_cases c5:65535 < IntKind.i64.wrap (p.from_ + (p.old.length:Int))
  · right
    have:=bad (fun h=>by have h5:=h.top; rw [hp] at h5; rw [w64 (by omega)] at c5; omega)
    simp only [decide_eq_true c1,decide_eq_true c2,decide_eq_true c3,decide_eq_false c4,decide_eq_true c5,Bool.not_true,cond_false,cond_true,bB,Sh.bJ,kB]
    exact this
  have c5':p.from_ + (p.old.length:Int) ≤ 65535:=by rw [w64 (by omega)] at c5; omega
  obtain ⟨g,hg,hgo⟩:=aF1 (x:=p) (by omega) (by omega)
  have hred:∀ t,Sh.bJ l (i:Int) p false = t → seq (seq (bif !decide (-1 ≤ p.table ∧ p.table ≤ 7) then some (Sum.inl true) else bif !decide (0 ≤ p.from_ ∧ p.from_ ≤ 65535) then some (Sum.inl true) else bif !decide ((p.old.length:Int) = (p.new.length:Int)) then some (Sum.inl true) else bif decide ((p.old.length:Int) = 0) then some (Sum.inl true) else some (Sum.inl (decide (65535 < IntKind.i64.wrap (p.from_ + (p.old.length:Int)))))) fun v10065=>Sh.bJ l (i:Int) p v10065) (fun x=>Sh.fZ (i:Int)) = seq t (fun x=>Sh.fZ (i:Int)):=by
    intro t ht
    rw [decide_eq_true c1,decide_eq_true c2,decide_eq_true c3,decide_eq_false c4,decide_eq_false c5]
    simp only [Bool.not_true,cond_false,bB,ht]
  rcases hgo with ⟨rfl,hd⟩ | ⟨rfl,hd⟩
  · have hj4:Sh.bJ l (i:Int) p false = Sh.mF l (i:Int) p:=by
      unfold Sh.bJ
      simp only [cond_false]
      exact cD hg rfl
    rw [hred _ hj4]
    have hok:(∀ (k:0 < i),(l[i - 1]'(by omega)).table < p.table ∨ ((l[i - 1]'(by omega)).table = p.table ∧ (l[i - 1]'(by omega)).from_ + ((l[i - 1]'(by omega)).old.length:Int) < p.from_)) → OkP l i hi:=by
      intro hu
      refine ⟨by rw [hp]; omega,by rw [hp]; omega,by rw [hp]; omega,by rw [hp]; omega,by rw [hp]; omega,by rw [hp]; omega,by rw [hp]; exact hd,?_⟩
      rw [hp]; exact hu
    unfold Sh.mF
    by_cases h0:i = 0
    · subst h0
      left
      exact ⟨(),by simp [bB,Sh.fZ]; exact next64 hi (by omega),hA.succ hi (hok (fun k=>absurd k (by omega)))⟩
    · have h0':¬ (i:Int) = 0:=by omega
      have hpi:i - 1 < l.length:=by omega
      have hprev:=hA (i - 1) hpi (by omega)
      simp only [h0',decide_false,cond_false,prev64 (show 0 < i by omega) (by omega),bN hpi,Option.bind_some]
      generalize hq:l[i - 1] = q at *
      have e1:IntKind.i64.wrap (q.from_ + (q.old.length:Int)) = q.from_ + (q.old.length:Int):=by
        have h1:=hprev.from0; have h2:=hprev.top; rw [hq] at h1 h2; exact w64 (by omega)
      by_cases d1:p.table < q.table
      · right
        simpa [d1,bB,kB,Sh.hI] using bad (fun h=>by have:=h.up (by omega); rw [hp,hq] at this; omega)
      · by_cases d2:p.table = q.table
        · by_cases d3:p.from_ ≤ q.from_ + (q.old.length:Int)
          · right
            simpa [d1,d2,d3,e1,bB,kB,Sh.hI] using bad (fun h=>by have:=h.up (by omega); rw [hp,hq] at this; omega)
          · left
            exact ⟨(),by simp [d1,d2,d3,e1,bB,Sh.hI,Sh.fZ]; exact next64 hi (by omega),hA.succ hi (hok (fun k=>by rw [hq]; right; omega))⟩
        · left
          exact ⟨(),by simp [d1,d2,bB,Sh.hI,Sh.fZ]; exact next64 hi (by omega),hA.succ hi (hok (fun k=>by rw [hq]; left; omega))⟩
  · have hj4:Sh.bJ l (i:Int) p false = some (Sum.inr (Sum.inr (Sum.inr false))):=by
      unfold Sh.bJ
      simp only [cond_false]
      exact cD hg rfl
    rw [hred _ hj4]
    right
    exact bad (fun h=>hd (by rw [← hp]; exact h.df))
theorem xB {τ τ' γ:Type} {t:Option (τ ⊕ γ)} {t':Option (τ' ⊕ γ)} {o:τ ⊕ γ} {o':τ' ⊕ γ} {k:τ → Option γ} {k':τ' → Option γ} (h:t = some o) (h':t' = some o') (e:Fx.fin k o = Fx.fin k' o'):Fx.seq t k = Fx.seq t' k':=by rw [h,h']; exact e
theorem pS {m:QMark} (h1:m.regs.length ≤ 1099511627776) (h2:m.slots.length ≤ 1099511627776) (h3:m.pieces.length ≤ 1099511627776) (h4:∀ p ∈ m.pieces,p.old.length ≤ 1099511627776):Sh.iM m = Sh.cG m:=by
  have k5:Sh.mX m = Sh.cS m:=by
    obtain ⟨g,e1,hg⟩:=aEo h3 h4
    obtain ⟨g',e1',hg'⟩:=tS h3
    have hb:Sh.pC m.pieces = Sh.dS m.pieces:=by
      unfold Sh.pC Sh.dS
      refine xB e1 e1' ?_
      rcases hg with ⟨rfl,ha⟩ | ⟨rfl,ha⟩ <;> rcases hg' with ⟨rfl,ha'⟩ | ⟨rfl,ha'⟩
      · rfl
      · exact absurd ha ha'
      · exact absurd ha' ha
      · rfl
    simp only [Sh.mX,Sh.cS,hb]
  have k2:Sh.mW m = Sh.cR m:=by
    obtain ⟨g,e1,hg⟩:=aG3 h2
    obtain ⟨g',e1',hg'⟩:=xC h2
    unfold Sh.mW Sh.cR
    refine xB e1 e1' ?_
    rcases hg with ⟨rfl,ha⟩ | ⟨rfl,ha⟩ <;> rcases hg' with ⟨rfl,ha'⟩ | ⟨rfl,ha'⟩
    · exact k5
    · exact absurd ha ha'
    · exact absurd ha' ha
    · rfl
  have k1:∀ v,Sh.mV m v = Sh.cQ m v:=by
    intro v
    unfold Sh.mV Sh.cQ
    cases v
    · simp only [cond_false]
      obtain ⟨g,e1,hg⟩:=aIe h1
      obtain ⟨g',e1',hg'⟩:=aAt h1
      refine xB e1 e1' ?_
      rcases hg with ⟨rfl,ha⟩ | ⟨rfl,ha⟩ <;> rcases hg' with ⟨rfl,ha'⟩ | ⟨rfl,ha'⟩
      · exact k2
      · exact absurd ha ha'
      · exact absurd ha' ha
      · rfl
    · rfl
  unfold Sh.iM Sh.cG
  simp only [dY,gD,k1]
end Go.Sp
end
section
namespace Go.Sp
open Go Go.Fw Go.Fx Go.Proofs
structure St (b more:List UInt8) (r:QReader) (t:List UInt8):Prop where
  wf:Wf b r
  ok:r.e = 0 → b.drop r.at_.toNat ++ more = t
  bad:r.e ≠ 0 → r.e = 236 ∧ r.place = b.length ∧ more ≠ []
section
variable {b more:List UInt8} {r r1 r2:QReader} {t:List UInt8}
theorem St.any (h:St b more r t) (he:r.e ≠ 0) (t':List UInt8):St b more r t':=⟨h.wf,fun k=>absurd k he,h.bad⟩
theorem St.to {t':List UInt8} (h:St b more r t) (k:r.e = 0 → t = t'):St b more r t':=⟨h.wf,fun he=>(h.ok he).trans (k he),h.bad⟩
end
end Go.Sp
end
section
namespace Go.Sp
open Go Go.Fw Go.Fx Go.Proofs
theorem eN {X:Type} {enc:X → List UInt8} (h:∀ x,1 ≤ (enc x).length) (xs:List X):xs.length ≤ (xs.flatMap enc).length:=by
  induction xs with
  | nil=>simp
  | cons x xs ih=>have:=h x; simp only [List.length_cons,List.flatMap_cons,List.length_append]; omega
end Go.Sp
end
section
namespace Go.Sp
open Go Go.Fw Go.Fx Go.Proofs
def Says (o:Option Bool) (P:Prop):Prop:=∃ t,o = some t ∧ (t = true ↔ P)
theorem Says.eq {o o':Option Bool} {P:Prop} (h:Says o P) (h':Says o' P):o = o':=by
  obtain ⟨t,rfl,ht⟩:=h
  obtain ⟨t',rfl,ht'⟩:=h'
  congr 1
  cases t <;> cases t' <;> simp_all
theorem Says.true {o:Option Bool} {P:Prop} (h:Says o P) (hp:P):o = some true:=by
  obtain ⟨t,rfl,ht⟩:=h
  rw [ht.2 hp]
theorem Says.false {o:Option Bool} {P:Prop} (h:Says o P) (hp:¬ P):o = some false:=by
  obtain ⟨t,rfl,ht⟩:=h
  cases t
  · rfl
  · exact absurd (ht.1 rfl) hp
theorem Says.of {P:Prop} [Decidable P]:Says (some (decide P)) P:=⟨_,rfl,by simp⟩
theorem scan {γ:Type} {body:Int → Option (Int ⊕ γ)} {ok bad:γ} (n:Nat) (P:Nat → Prop) (hn:n ≤ 4611686018427387904)
    (h:∀ i:Nat,i < n → (P i ∧ body (i:Int) = some (.inl (IntKind.i64.wrap ((i:Int) + 1)))) ∨ (¬ P i ∧ body (i:Int) = some (.inr bad))) (h':body (n:Int) = some (.inr ok)) :
    ∃ g,Fx.loop body 0 = some g ∧ ((g = ok ∧ ∀ i,i < n → P i) ∨ (g = bad ∧ ¬ ∀ i,i < n → P i)):=by
  refine cK (body:=body) n (fun i (a:Unit)=>(i:Int)) (fun i a=>∀ j,j < i → P j) _ (fun i a hi hI=>?_) (fun a hI=>⟨ok,h',.inl ⟨rfl,hI⟩⟩) n 0 () (by omega) (fun j hj=>by omega)
  rcases h i hi with ⟨hp,hb⟩ | ⟨hp,hb⟩
  · left
    refine ⟨(),by rw [hb,next64 hi hn],fun j hj=>?_⟩
    by_cases e:j = i
    · subst e; exact hp
    · exact hI j (by omega)
  · exact .inr ⟨bad,hb,.inr ⟨rfl,fun k=>hp (k i hi)⟩⟩
end Go.Sp
end
section
namespace Go.Sp
open Go Go.Fw Go.Fx Go.Proofs
theorem lG {X:Type} {l:List X} {Q:X → Prop}:(∀ i,i < l.length → ∀ h:i < l.length,Q l[i]) ↔ ∀ t ∈ l,Q t:=by
  constructor
  · intro h t ht
    obtain ⟨i,hi,rfl⟩:=List.mem_iff_getElem.1 ht
    exact h i hi hi
  · intro h i hi _; exact h _ (List.getElem_mem hi)
def InOk (i:QInput):Prop:=i.ctx.length ≤ 65535 ∧ i.tables.length ≤ 8 ∧ ∀ t ∈ i.tables,t.length ≤ 65535
theorem uA (i:QInput):Says (Sh.iI i) (InOk i):=by
  unfold Sh.iI InOk
  by_cases c1:i.ctx.length ≤ 65535
  · have d1:decide ((65535:Int) < (i.ctx.length:Int)) = false:=decide_eq_false (by omega)
    by_cases c2:i.tables.length ≤ 8
    · have d2:decide ((8:Int) < (i.tables.length:Int)) = false:=decide_eq_false (by omega)
      simp only [d1,d2,cond_false,bB,Sh.gB]
      obtain ⟨g,e1,e2⟩:=scan (body:=fun (v:Int)=>Sh.eI i v) (ok:=Sum.inl ()) (bad:=Sum.inr false) i.tables.length (fun k=>∀ h:k < i.tables.length,(i.tables[k]).length ≤ 65535) (by omega) (fun k hk=>by
        simp only [Sh.eI,cC,hk,decide_true,cond_true,bN hk,Option.bind_some]
        by_cases c3:(i.tables[k]).length ≤ 65535
        · exact .inl ⟨fun _=>c3,by rw [decide_eq_false (by omega),cond_false]⟩
        · exact .inr ⟨fun h=>c3 (h trivial),by rw [decide_eq_true (by omega),cond_true]⟩) (by simp [Sh.eI])
      rw [lG (l:=i.tables) (Q:=fun t:List UInt8=>t.length ≤ 65535)] at e2
      rw [show Fx.loop (fun v140=>Sh.eI i v140) 0 = some g from e1]
      rcases e2 with ⟨rfl,ha⟩ | ⟨rfl,ha⟩
      · exact ⟨true,rfl,by simp only [true_iff]; exact ⟨c1,c2,ha⟩⟩
      · exact ⟨false,rfl,by simp only [Bool.false_eq_true,false_iff]; exact fun h=>ha h.2.2⟩
    · have d2:decide ((8:Int) < (i.tables.length:Int)) = true:=decide_eq_true (by omega)
      exact ⟨false,by simp only [d1,d2,cond_false,bB,Sh.gB,cond_true],by simp only [Bool.false_eq_true,false_iff]; exact fun h=>c2 h.2.1⟩
  · have d1:decide ((65535:Int) < (i.ctx.length:Int)) = true:=decide_eq_true (by omega)
    exact ⟨false,by simp only [d1,cond_true,bB,Sh.gB],by simp only [Bool.false_eq_true,false_iff]; exact fun h=>c1 h.1⟩
end Go.Sp
end
section
namespace Go.Sp
open Go Go.Fw Go.Fx Go.Proofs
theorem pass {γ:Type} {body:Int → Option (Int ⊕ γ)} {g:γ} (n:Nat) (hn:n ≤ 4611686018427387904) (h:∀ i:Nat,i < n → body (i:Int) = some (.inl (IntKind.i64.wrap ((i:Int) + 1)))) (h':body (n:Int) = some (.inr g)):Fx.loop body 0 = some g:=by
  obtain ⟨g',h1,h2⟩:=cK (body:=body) n (fun i (a:Unit)=>(i:Int)) (fun i a=>True) (fun g'=>g' = g)
    (fun i a hi _=>.inl ⟨(),by rw [h i hi,next64 hi hn],trivial⟩) (fun a _=>⟨g,h',rfl⟩) n 0 () (by omega) trivial
  subst h2; exact h1
def SmallM (m:QMark):Prop:=m.regs.length ≤ 1099511627776 ∧ m.slots.length ≤ 1099511627776 ∧ m.pieces.length ≤ 1099511627776 ∧ m.sent.length ≤ 1099511627776
theorem pA {l:List Int} (h:l.length ≤ 1099511627776):Sh.gN l l = some true:=by
  unfold Sh.gN
  simp only [decide_true,Bool.not_true,cond_false]
  exact cD (pass (g:=Sum.inl ()) l.length (by omega) (fun i hi=>by simp [Sh.dK,hi,bN hi]) (by simp [Sh.dK])) rfl
theorem pB {l:List (List UInt8)} (h:l.length ≤ 1099511627776):Sh.gO l l = some true:=by
  unfold Sh.gO
  simp only [decide_true,Bool.not_true,cond_false]
  exact cD (pass (g:=Sum.inl ()) l.length (by omega) (fun i hi=>by simp [Sh.dL,hi,bN hi,Sh.aV]) (by simp [Sh.dL])) rfl
theorem gH {m:QMark} (h:SmallM m):Sh.cI m m = some true:=by
  obtain ⟨h1,h2,h3,h4⟩:=h
  have k4:Sh.hR m m = some true :=
    cD (pass (g:=Sum.inl ()) m.pieces.length (by omega) (fun i hi=>by simp [Sh.dP,hi,bN hi,Sh.aV,bB,Sh.dM]) (by simp [Sh.dP])) rfl
  have k2:Sh.hQ m m = some true :=
    cD (pass (g:=Sum.inl ()) m.slots.length (by omega) (fun i hi=>by simp [Sh.dO,hi,bN hi]) (by simp [Sh.dO])) k4
  have k1:Sh.bF m m false = some true :=
    cD (pass (g:=Sum.inl ()) m.regs.length (by omega) (fun i hi=>by simp [Sh.dN,hi,bN hi]) (by simp [Sh.dN])) k2
  unfold Sh.cI
  simp only [decide_true,Bool.not_true,cond_false,pA h4,Option.bind_some,bB,k1]
end Go.Sp
end
section
namespace Go.Sp
open Go Go.Fw Go.Fx Go.Proofs
section
variable {b:List UInt8} {r r1 r2:QReader}
theorem two {σ γ τ δ X:Type} (N n:Nat) {body1:σ → Option (σ ⊕ γ)} {body2:τ → Option (τ ⊕ δ)} (st1:List X → QReader → Int → σ) (out1:List X → QReader → γ) (st2:List X → QCursor → Int → τ) (out2:List X → QCursor → δ)
    (he1:∀ xs r m,(m = 0 ∨ r.e ≠ 0) → body1 (st1 xs r m) = some (.inr (out1 xs r)))
    (he2:∀ xs c i,(i = (n:Int) ∨ c.e ≠ 0) → body2 (st2 xs c i) = some (.inr (out2 xs c)))
    (hs:∀ xs r (m i:Nat),Wf b r → r.e = 0 → m + 1 + i = n → xs.length < N → ∃ x x' r',body1 (st1 xs r ((m + 1:Nat):Int)) = some (.inl (st1 (xs ++ [x]) r' (m:Int))) ∧
      body2 (st2 xs (cur r) (i:Int)) = some (.inl (st2 (xs ++ [x']) (cur r') ((i + 1:Nat):Int))) ∧ Wf b r' ∧ (r'.e = 0 → x' = x)) :
    ∀ (m i:Nat) xs xs' r,m + i = n → Wf b r → xs.length + m ≤ N → (r.e = 0 → xs' = xs) →
      ∃ ys ys' r',loop body1 (st1 xs r (m:Int)) = some (out1 (xs ++ ys) r') ∧ loop body2 (st2 xs' (cur r) (i:Int)) = some (out2 (xs' ++ ys') (cur r')) ∧ Wf b r' ∧ (r'.e = 0 → xs' ++ ys' = xs ++ ys):=by
  intro m
  induction m with
  | zero =>
    intro i xs xs' r hi hw _ hx
    refine ⟨[],[],r,?_,?_,hw,fun h=>by rw [hx h]⟩
    · rw [List.append_nil]; exact dW (he1 _ _ _ (.inl rfl))
    · rw [List.append_nil]; exact dW (he2 _ _ _ (.inl (by omega)))
  | succ m ih =>
    intro i xs xs' r hi hw hN hx
    by_cases he:r.e = 0
    · obtain rfl:=hx he
      obtain ⟨x,x',r1,h1,h2,h3,h4⟩:=hs xs' r m i hw he hi (by omega)
      obtain ⟨ys,ys',r2,k1,k2,k3,k4⟩:=ih (i + 1) (xs' ++ [x]) (xs' ++ [x']) r1 (by omega) h3 (by simp; omega) (fun h=>by rw [h4 h])
      exact ⟨x :: ys,x' :: ys',r2,eM h1 (by rw [k1]; simp),eM h2 (by rw [k2]; simp),k3,fun h=>by simpa using k4 h⟩
    · refine ⟨[],[],r,?_,?_,hw,fun h=>absurd h he⟩
      · rw [List.append_nil]; exact dW (he1 _ _ _ (.inr he))
      · rw [List.append_nil]; exact dW (he2 _ _ _ (.inr he))
theorem c1 (hb:b.length ≤ 16777216) (hw:Wf b r) {v:Int} (h:Sh.aA r 1 = some (v,r1)):Sh.aC (cur r) 1 = some (v,cur r1):=(gO hb hw 1 (by omega) h).1
theorem c2 (hb:b.length ≤ 16777216) (hw:Wf b r) {v:Int} (h:Sh.aA r 2 = some (v,r1)):Sh.aC (cur r) 2 = some (v,cur r1):=(gO hb hw 2 (by omega) h).1
theorem c4 (hb:b.length ≤ 16777216) (hw:Wf b r) {v:Int} (h:Sh.aA r 4 = some (v,r1)):Sh.aC (cur r) 4 = some (v,cur r1):=(gO hb hw 4 (by omega) h).1
end
end Go.Sp
end
section
namespace Go.Sp
open Go Go.Fw Go.Fx Go.Proofs
section
variable {X S:Type} [DecidableEq X]
def scanD (f:Nat → X → X → S → S) (a b:List X) (s:S):Nat → S
  | 0=>s
  | i + 1=>match a[i]?,b[i]? with
    | some x,some y=>if x = y then scanD f a b s i else f i x y (scanD f a b s i)
    | _,_=>scanD f a b s i
end
def ext (t:Int) (i:Nat) (x y:UInt8) (P:List QPiece):List QPiece:=match P.getLast? with
  | some p=>if p.from_ + (p.old.length:Int) = (i:Int) then P.dropLast ++ [⟨p.table,p.from_,p.old ++ [x],p.new ++ [y]⟩] else P ++ [⟨t,(i:Int),[x],[y]⟩]
  | none=>P ++ [⟨t,(i:Int),[x],[y]⟩]
def grow (t:Int) (a b:List UInt8):Nat → List QPiece:=scanD (ext t) a b []
structure Lie (t:Int) (i:Nat) (P:List QPiece):Prop where
  few:P.length ≤ i
  each:∀ p ∈ P,p.table = t ∧ 0 ≤ p.from_ ∧ p.from_ + (p.old.length:Int) ≤ (i:Int) ∧ p.new.length = p.old.length
theorem Lie.mono {t:Int} {i j:Nat} {P:List QPiece} (h:Lie t i P) (hj:i ≤ j):Lie t j P:=⟨by have:=h.few; omega,fun p hp=>by obtain ⟨a1,a2,a3,a4⟩:=h.each p hp; exact ⟨a1,a2,by omega,a4⟩⟩
end Go.Sp
end
section
namespace Go.Sp
open Go Go.Fw Go.Fx Go.Proofs
structure SmallS (x:QState):Prop where
  ctx:x.ctx.length ≤ 1099511627776
  tables:x.tables.length ≤ 1099511627776
  each:∀ t ∈ x.tables,t.length ≤ 1099511627776
  sent:x.sent.length ≤ 1099511627776
def PlainS (x:QState):Prop:=(0 ≤ x.at_ ∧ x.at_ ≤ 4095) ∧ (0 ≤ x.steps ∧ x.steps ≤ 4294967296) ∧ InOk ⟨x.ctx,x.tables⟩
theorem hY (x:QState):Says (Sh.gL x) (PlainS x):=by
  unfold Sh.gL PlainS InOk
  simp only [dY,Option.bind_some]
  by_cases c1:0 ≤ x.at_ ∧ x.at_ ≤ 4095
  · by_cases c2:0 ≤ x.steps ∧ x.steps ≤ 4294967296
    · rw [decide_eq_true c1,decide_eq_true c2]
      simp only [cond_true]
      by_cases c3:x.ctx.length ≤ 65535
      · have d3:decide ((65535:Int) < (x.ctx.length:Int)) = false:=decide_eq_false (by omega)
        by_cases c4:x.tables.length ≤ 8
        · have d4:decide ((x.tables.length:Int) ≤ 8) = true:=decide_eq_true (by omega)
          simp only [d3,bB,Sh.gD,Bool.not_false,cond_true,d4]
          obtain ⟨g,e1,e2⟩:=cK (body:=fun (v:Int)=>Sh.eJ x v) x.tables.length (fun k (a:Unit)=>(k:Int)) (fun k a=>∀ j,j < k → ∀ h:j < x.tables.length,(x.tables[j]).length ≤ 65535)
            (fun g=>(g = Sum.inl () ∧ ∀ t ∈ x.tables,t.length ≤ 65535) ∨ (∃ k:Nat,g = Sum.inr (Sum.inl (k:Int))) ∧ ¬ ∀ t ∈ x.tables,t.length ≤ 65535)
            (fun k a hk hI=>by
              simp only [Sh.eJ,cC,hk,decide_true,cond_true,bN hk,Option.bind_some,bB,Sh.lU]
              by_cases c3:(x.tables[k]).length ≤ 65535
              · left
                have d3:decide ((65535:Int) < ((x.tables[k]).length:Int)) = false:=decide_eq_false (by omega)
                refine ⟨(),by rw [d3,cond_false,next64 hk (by omega)],fun j hj h=>?_⟩
                by_cases e:j = k
                · subst e; exact c3
                · exact hI j (by omega) h
              · right
                have d3:decide ((65535:Int) < ((x.tables[k]).length:Int)) = true:=decide_eq_true (by omega)
                exact ⟨_,by rw [d3,cond_true],.inr ⟨⟨k,rfl⟩,fun h=>c3 (h _ (List.getElem_mem hk))⟩⟩)
            (fun a hI=>⟨Sum.inl (),by simp [Sh.eJ],.inl ⟨rfl,lG.1 hI⟩⟩) x.tables.length 0 () (by omega) (fun j hj=>by omega)
          rw [show Fx.loop (fun v11504=>Sh.eJ x v11504) 0 = some g from e1]
          rcases e2 with ⟨rfl,ha⟩ | ⟨⟨k,rfl⟩,ha⟩
          · exact ⟨true,rfl,by simp only [true_iff]; exact ⟨c1,c2,c3,c4,ha⟩⟩
          · refine ⟨false,?_,by simp only [Bool.false_eq_true,false_iff]; exact fun h=>ha h.2.2.2.2⟩
            have dk:decide (0 ≤ (k:Int)) = true:=decide_eq_true (by omega)
            simp only [kB,bB,Sh.lT,dk,Sh.lS,Sh.gF,Sh.gC,Sh.gE,Bool.not_true]
        · have d4:decide ((x.tables.length:Int) ≤ 8) = false:=decide_eq_false (by omega)
          exact ⟨false,by simp only [d3,bB,Sh.gD,Bool.not_false,cond_true,d4,cond_false,Sh.gF,Sh.gC,Sh.gE],by simp only [Bool.false_eq_true,false_iff]; exact fun h=>c4 h.2.2.2.1⟩
      · have d3:decide ((65535:Int) < (x.ctx.length:Int)) = true:=decide_eq_true (by omega)
        exact ⟨false,by simp only [d3,bB,Sh.gD,Bool.not_true,cond_false,Sh.gF,Sh.gC,Sh.gE],by simp only [Bool.false_eq_true,false_iff]; exact fun h=>c3 h.2.2.1⟩
    · rw [decide_eq_true c1,decide_eq_false c2]
      exact ⟨false,rfl,by simp only [Bool.false_eq_true,false_iff]; exact fun h=>c2 h.2.1⟩
  · rw [decide_eq_false c1]
    exact ⟨false,rfl,by simp only [Bool.false_eq_true,false_iff]; exact fun h=>c1 h.1⟩
theorem fA (x:QState):Says (Sh.fB x) (PlainS x):=by
  unfold Sh.fB PlainS
  simp only [gD,Option.bind_some]
  by_cases c1:0 ≤ x.at_ ∧ x.at_ ≤ 4095
  · by_cases c2:0 ≤ x.steps ∧ x.steps ≤ 4294967296
    · rw [decide_eq_true c1,decide_eq_true c2]
      obtain ⟨t,ht,hi⟩:=uA ⟨x.ctx,x.tables⟩
      simp only [cond_true,ht,Option.bind_some,bB,Sh.lR]
      exact ⟨t,rfl,hi.trans ⟨fun h=>⟨c1,c2,h⟩,fun h=>h.2.2⟩⟩
    · rw [decide_eq_true c1,decide_eq_false c2]
      exact ⟨false,rfl,by simp only [Bool.false_eq_true,false_iff]; exact fun h=>c2 h.2.1⟩
  · rw [decide_eq_false c1]
    exact ⟨false,rfl,by simp only [Bool.false_eq_true,false_iff]; exact fun h=>c1 h.1⟩
def tabs (A B:List (List UInt8)) (P:List QPiece):Nat → List QPiece
  | 0=>P
  | k + 1=>match A[k]?,B[k]? with
    | some a,some b=>tabs A B P k ++ grow (k:Int) a b a.length
    | _,_=>tabs A B P k
end Go.Sp
end
section
namespace Go.Sp
open Go Go.Fw Go.Fx Go.Proofs
theorem fB {x:QState} (h:SmallS x):Sh.bV x x = some true:=by
  unfold Sh.bV
  simp only [decide_true,cond_true,Sh.aV,Option.bind_some,pB h.tables,pA h.sent,bB,Sh.mB]
theorem kD {l:List UInt8} (h:l.length ≤ 1099511627776):Sh.bA l = some l:=by
  unfold Sh.bA
  rw [cZ (by simp; omega) (by simp; omega)]; rfl
theorem rO {l:List Int} (h:l.length ≤ 1099511627776):Sh.fG l = some l:=by
  unfold Sh.fG
  rw [cZ (by simp; omega) (by simp; omega)]; rfl
end Go.Sp
end
section
namespace Go.Sp
open Go Go.Fw Go.Fx Go.Proofs
section
variable {Y:Type} {key:Y → Int}
theorem aEt {T:List Y} {R:Y → Y → Prop} (tr:∀ a b c,R a b → R b c → R a c) (h:∀ i (k:0 < i) (hi:i < T.length),R (T[i - 1]'(by omega)) T[i]):T.Pairwise R:=by
  rw [List.pairwise_iff_getElem]
  intro i j hi hj hij
  induction j with
  | zero=>omega
  | succ j ih =>
    have h1:=h (j + 1) (by omega) hj
    simp only [Nat.add_sub_cancel] at h1
    by_cases c:i = j
    · subst c; exact h1
    · exact tr _ _ _ (ih (by omega) (by omega)) h1
end
end Go.Sp
end
section
namespace Go.Sp
open Go Go.Fw Go.Fx Go.Proofs
abbrev kp (p:QPiece):Nat:=(p.table + 1).toNat
abbrev fp (p:QPiece):Nat:=p.from_.toNat
abbrev wd (p:QPiece):Nat:=p.old.length
def bt (M:List (List UInt8)) (k j:Nat):Option UInt8:=(M[k]?).bind (fun b=>b[j]?)
def putP (val:QPiece → List UInt8) (M:List (List UInt8)) (p:QPiece):List (List UInt8):=M.set (kp p) (put (pk M (kp p)) (fp p) (val p))
def putAll (val:QPiece → List UInt8) (M:List (List UInt8)) (P:List QPiece):List (List UInt8):=P.foldl (putP val) M
def RoomP (M:List (List UInt8)) (p:QPiece):Prop:=∃ b,M[kp p]? = some b ∧ fp p + wd p ≤ b.length
def Cov (p:QPiece) (k j:Nat):Prop:=kp p = k ∧ fp p ≤ j ∧ j < fp p + wd p
def StandP (val:QPiece → List UInt8) (M:List (List UInt8)) (p:QPiece):Prop:=∃ b,M[kp p]? = some b ∧ fp p + (val p).length ≤ b.length ∧ (b.drop (fp p)).take (val p).length = val p
theorem wT {α:Type} {l vs:List α} {i:Nat} (h:i + vs.length ≤ l.length):(put l i vs).length = l.length:=by simp [put]; omega
theorem aAo {α:Type} {l vs:List α} {i:Nat} (h:i + vs.length ≤ l.length) (j:Nat):(put l i vs)[j]? = if i ≤ j ∧ j < i + vs.length then vs[j - i]? else l[j]?:=by
  unfold put
  simp only [List.getElem?_append,List.length_append,List.length_take,List.getElem?_take,List.getElem?_drop]
  repeat' split
  all_goals first | rfl | omega | (congr 1; omega) | skip
theorem aD7 {M M':List (List UInt8)} (hl:M.map List.length = M'.map List.length) {k:Nat} {b:List UInt8} (h:M[k]? = some b):∃ b',M'[k]? = some b' ∧ b'.length = b.length:=by
  have h1:(M.map List.length)[k]? = some b.length:=by rw [List.getElem?_map,h]; rfl
  rw [hl,List.getElem?_map] at h1
  cases h2:M'[k]? with
  | none=>rw [h2] at h1; cases h1
  | some b'=>rw [h2] at h1; exact ⟨b',rfl,by simpa using h1⟩
theorem vM {M:List (List UInt8)} {k:Nat} {b:List UInt8} (h:M[k]? = some b):pk M k = b:=by simp [pk,h]
section
variable {val:QPiece → List UInt8} {M:List (List UInt8)} {P:List QPiece} {p:QPiece}
theorem RoomP.shape {M':List (List UInt8)} (h:RoomP M p) (hl:M.map List.length = M'.map List.length):RoomP M' p:=by
  obtain ⟨b,h1,h2⟩:=h
  obtain ⟨b',h3,h4⟩:=aD7 hl h1
  exact ⟨b',h3,by omega⟩
theorem nP (h:RoomP M p) (hv:(val p).length = wd p):(putP val M p).map List.length = M.map List.length:=by
  obtain ⟨b,h1,h2⟩:=h
  unfold putP
  rw [vM h1,List.map_set,wT (by omega)]
  apply List.ext_getElem?
  intro j
  rw [List.getElem?_set]
  split
  · rename_i e; subst e
    rw [List.getElem?_map,h1]
    have:=(List.getElem?_eq_some_iff.1 h1).1
    rw [if_pos (by simpa using this)]; rfl
  · rfl
theorem mO (h:∀ p ∈ P,RoomP M p) (hv:∀ p ∈ P,(val p).length = wd p):(putAll val M P).map List.length = M.map List.length:=by
  unfold putAll
  induction P generalizing M with
  | nil=>rfl
  | cons p P ih =>
    have e:=nP (h p (List.mem_cons_self ..)) (hv p (List.mem_cons_self ..))
    rw [List.foldl_cons,ih (fun q hq=>(h q (List.mem_cons_of_mem _ hq)).shape e.symm) fun q hq=>hv q (List.mem_cons_of_mem _ hq),e]
def ApP (p q:QPiece):Prop:=∀ k j,Cov p k j → ¬ Cov q k j
theorem StandP.room (h:StandP val M p) (hv:(val p).length = wd p):RoomP M p:=by
  obtain ⟨b,h1,h2,h3⟩:=h; exact ⟨b,h1,by omega⟩
theorem StandP.bt (h:StandP val M p) {k j:Nat} (hv:(val p).length = wd p) (hc:Cov p k j):bt M k j = (val p)[j - fp p]?:=by
  obtain ⟨b,h1,h2,h3⟩:=h
  obtain ⟨rfl,c2,c3⟩:=hc
  rw [← h3]
  simp only [Go.Sp.bt,h1,Option.bind_some,List.getElem?_take,List.getElem?_drop]
  rw [if_pos (by omega)]
  congr 1; omega
theorem StandP.of (h:RoomP M p) (hv:(val p).length = wd p) (hb:∀ k j,Cov p k j → Go.Sp.bt M k j = (val p)[j - fp p]?):StandP val M p:=by
  obtain ⟨b,h1,h2⟩:=h
  refine ⟨b,h1,by omega,?_⟩
  apply List.ext_getElem?
  intro j
  rw [List.getElem?_take,List.getElem?_drop]
  split
  · rename_i c
    have:=hb (kp p) (fp p + j) ⟨rfl,by omega,by omega⟩
    rw [show fp p + j - fp p = j by omega] at this
    simpa [Go.Sp.bt,h1] using this
  · rename_i c; rw [List.getElem?_eq_none (by omega)]
end
section
variable {t:Int} {a b:List UInt8}
structure PieceOf (t:Int) (a b:List UInt8) (p:QPiece):Prop where
  table:p.table = t
  from0:0 ≤ p.from_
  pos:0 < wd p
  room:fp p + wd p ≤ a.length
  eq:p.new.length = wd p
  df:Differ p.old p.new
  old:(a.drop (fp p)).take (wd p) = p.old
  new:(b.drop (fp p)).take (wd p) = p.new
theorem PieceOf.ne {p:QPiece} (h:PieceOf t a b p) (hl:a.length = b.length) {k:Nat} (h1:fp p ≤ k) (h2:k < fp p + wd p):a[k]? ≠ b[k]?:=by
  have hw:wd p = p.old.length:=rfl
  have h3:=h.df (k - fp p) (by omega)
  have:=h.room
  have ha:k < a.length:=by omega
  have hb:k < b.length:=by omega
  intro e
  apply h3
  rw [← h.new,← h.old]
  simp only [List.getD,List.getElem?_take,List.getElem?_drop]
  rw [show fp p + (k - fp p) = k by omega,e]
end
end Go.Sp
end
section
namespace Go.Sp
open Go Go.Fw Go.Fx Go.Proofs
theorem iC {P:Prop} (h:P → False):Says (some false) P:=⟨false,rfl,by simp only [Bool.false_eq_true,false_iff]; exact h⟩
theorem yZ {P:Prop} (h:P):Says (some true) P:=⟨true,rfl,by simp only [true_iff]; exact h⟩
structure PlnM (m:QMark):Prop where
  at_:0 ≤ m.at_ ∧ m.at_ ≤ 4095
  next:0 ≤ m.next ∧ m.next ≤ 4095
  sent:m.sent.length ≤ 1
  regs:AllReg m m.regs.length
  slots:AllSlot m m.slots.length
  pieces:AllP m.pieces m.pieces.length
theorem nT {m:QMark} (h:SmallM m):Says (Sh.cG m) (PlnM m):=by
  obtain ⟨g1,e1,c1⟩:=aAt h.1
  obtain ⟨g2,e2,c2⟩:=xC h.2.1
  obtain ⟨g3,e3,c3⟩:=tS h.2.2.1
  unfold Sh.cG
  simp only [dY,Option.bind_some]
  by_cases d1:0 ≤ m.at_ ∧ m.at_ ≤ 4095
  case neg =>
    rw [decide_eq_false d1]
    exact iC fun k=>d1 k.at_
  by_cases d2:0 ≤ m.next ∧ m.next ≤ 4095
  case neg =>
    rw [decide_eq_true d1,decide_eq_false d2]
    exact iC fun k=>d2 k.next
  by_cases d3:m.sent.length ≤ 1
  case neg =>
    rw [decide_eq_true d1,decide_eq_true d2,decide_eq_true (by omega)]
    exact iC fun k=>d3 k.sent
  rw [decide_eq_true d1,decide_eq_true d2,decide_eq_false (by omega)]
  simp only [Bool.not_true,cond_false,bB,Sh.cQ]
  rw [show Fx.loop (fun (v:Int × Int)=>match v with | (v1427,v1428)=>Sh.bG m v1427 v1428) (0,-1) = some g1 from e1]
  rcases c1 with ⟨rfl,d4⟩ | ⟨rfl,d4⟩
  case inr=>exact iC fun k=>d4 k.regs
  simp only [bB,Sh.cR]
  rw [show Fx.loop (fun (v:Int × Int)=>match v with | (v1889,v1890)=>Sh.bH m v1889 v1890) (-1,0) = some g2 from e2]
  rcases c2 with ⟨rfl,d5⟩ | ⟨rfl,d5⟩
  case inr=>exact iC fun k=>d5 k.slots
  simp only [bB,Sh.cS,Sh.dS]
  rw [show Fx.loop (fun (v:Int × Int × Int)=>match v with | (v1,v2,v3)=>Sh.aK m.pieces v1 v2 v3) (0,-1,0) = some g3 from e3]
  rcases c3 with ⟨rfl,d6⟩ | ⟨rfl,d6⟩
  case inr=>exact iC fun k=>d6 k.pieces
  exact yZ ⟨d1,d2,d3,d4,d5,d6⟩
theorem PlnM.reg {m:QMark} (h:PlnM m):∀ t ∈ m.regs,0 ≤ t.reg ∧ t.reg ≤ 10 ∧ t.old ≠ t.new:=fun t ht=>by
  obtain ⟨i,hi,rfl⟩:=List.mem_iff_getElem.1 ht
  have:=h.regs i hi hi
  exact ⟨this.lo,this.hi,this.un⟩
theorem PlnM.slot {m:QMark} (h:PlnM m):∀ t ∈ m.slots,0 ≤ t.slot ∧ t.slot ≤ 31 ∧ t.old ≠ t.new:=fun t ht=>by
  obtain ⟨i,hi,rfl⟩:=List.mem_iff_getElem.1 ht
  have:=h.slots i hi hi
  exact ⟨this.lo,this.hi,this.un⟩
structure PieceP (p:QPiece):Prop where
  lo : -1 ≤ p.table
  hi:p.table ≤ 7
  from0:0 ≤ p.from_
  ne:0 < wd p
  eq:p.new.length = wd p
  top:p.from_ + (wd p:Int) ≤ 65535
  df:Differ p.old p.new
theorem PlnM.piece {m:QMark} (h:PlnM m):∀ p ∈ m.pieces,PieceP p:=fun p hp=>by
  obtain ⟨i,hi,rfl⟩:=List.mem_iff_getElem.1 hp
  have:=h.pieces i hi hi
  exact ⟨this.lo,this.hi,this.from0,Nat.pos_of_ne_zero this.ne,this.eq,this.top,this.df⟩
def Behind (p q:QPiece):Prop:=p.table < q.table ∨ (p.table = q.table ∧ p.from_ + (wd p:Int) < q.from_)
theorem PlnM.pieces_pw {m:QMark} (h:PlnM m):m.pieces.Pairwise Behind :=
  aEt (R:=Behind) (fun a b c h1 h2=>by unfold Behind at *; omega) fun i k hi=>(h.pieces i hi hi).up k
theorem PlnM.apart {m:QMark} (h:PlnM m):m.pieces.Pairwise ApP:=by
  refine List.Pairwise.imp_of_mem ?_ h.pieces_pw
  intro p q hp hq hb k j h1 h2
  have a:=h.piece p hp
  have b:=h.piece q hq
  obtain ⟨c1,c2,c3⟩:=h1
  obtain ⟨c4,c5,c6⟩:=h2
  have:=a.lo; have:=b.lo; have:=a.from0; have:=b.from0
  unfold Behind at hb
  simp only [kp,fp] at *
  omega
def turnR (t:LTurn):LTurn:=⟨t.reg,t.new,t.old⟩
def turnC (t:LCell):LCell:=⟨t.slot,t.new,t.old⟩
def turnP (p:QPiece):QPiece:=⟨p.table,p.from_,p.new,p.old⟩
def turn (m:QMark):QMark:=⟨m.next,m.at_,false,m.regs.map turnR,m.slots.map turnC,m.pieces.map turnP,[]⟩
theorem Differ.symm {x y:List UInt8} (h:Differ x y) (hl:y.length = x.length):Differ y x:=fun i hi e=>h i (by omega) e.symm
theorem PlnM.turn {m:QMark} (h:PlnM m):PlnM (turn m):=by
  refine ⟨h.next,h.at_,Nat.zero_le _,?_,?_,?_⟩
  · intro i hi hi'
    have hj:i < m.regs.length:=by simpa [Sp.turn] using hi
    have:=h.regs i hj hj
    refine ⟨by simpa [Sp.turn,turnR] using this.lo,by simpa [Sp.turn,turnR] using this.hi,?_,fun k=>by simpa [Sp.turn,turnR] using this.up k⟩
    have:=this.un
    simpa [Sp.turn,turnR] using fun e=>this e.symm
  · intro i hi hi'
    have hj:i < m.slots.length:=by simpa [Sp.turn] using hi
    have:=h.slots i hj hj
    refine ⟨by simpa [Sp.turn,turnC] using this.lo,by simpa [Sp.turn,turnC] using this.hi,?_,fun k=>by simpa [Sp.turn,turnC] using this.up k⟩
    have:=this.un
    simpa [Sp.turn,turnC] using fun e=>this e.symm
  · intro i hi hi'
    have hj:i < m.pieces.length:=by simpa [Sp.turn] using hi
    have o:=h.pieces i hj hj
    have e:(Sp.turn m).pieces[i] = turnP m.pieces[i]:=by simp [Sp.turn]
    refine ⟨by rw [e]; exact o.lo,by rw [e]; exact o.hi,by rw [e]; exact o.from0,by rw [e]; simp only [turnP]; rw [o.eq]; exact o.ne,by rw [e]; simp only [turnP]; exact o.eq.symm,by rw [e]; simp only [turnP]; rw [o.eq]; exact o.top,by rw [e]; simp only [turnP]; exact o.df.symm o.eq,fun k=>?_⟩
    have hj':i - 1 < m.pieces.length:=by omega
    have e':(Sp.turn m).pieces[i - 1]'(by omega) = turnP (m.pieces[i - 1]):=by simp [Sp.turn]
    have:=o.up k
    have eq':=(h.pieces (i - 1) hj' hj').eq
    rw [e,e']
    simp only [turnP]
    rw [eq']
    exact this
theorem SmallM.turn {m:QMark} (h:SmallM m):SmallM (turn m):=⟨by simpa [Sp.turn] using h.1,by simpa [Sp.turn] using h.2.1,by simpa [Sp.turn] using h.2.2.1,Nat.zero_le _⟩
theorem tK {σ γ X Y:Type} {body:σ → Option (σ ⊕ γ)} (l:List X) (f:X → Y) (st:List Y → Int → σ) (g:List Y → γ) (hn:l.length ≤ 4611686018427387904)
    (h:∀ (i:Nat) (hi:i < l.length) T,T.length = i → body (st T (i:Int)) = some (.inl (st (T ++ [f l[i]]) (IntKind.i64.wrap ((i:Int) + 1))))) (h':∀ T,body (st T (l.length:Int)) = some (.inr (g T))):Fx.loop body (st [] 0) = some (g (l.map f)):=by
  obtain ⟨o,e,rfl⟩:=cK (body:=body) l.length (fun i T=>st T (i:Int)) (fun i T=>T = (l.take i).map f) (fun o=>o = g (l.map f)) (fun i T hi hT=>.inl ⟨T ++ [f l[i]],by
      rw [h i hi T (by rw [hT]; simp; omega),next64 hi hn],by
      rw [hT,List.take_add_one,List.getElem?_eq_getElem hi,List.map_append]; rfl⟩) (fun T hT=>⟨_,h' T,by rw [hT,List.take_length]⟩) l.length 0 [] (by omega) (by simp)
  exact e
theorem uP {m:QMark} (h:SmallM m):Sh.nP m = some (turn m):=by
  obtain ⟨h1,h2,h3,h4⟩:=h
  unfold Sh.nP
  have e1:=tK (body:=fun (v:List LTurn × Int)=>match v with | (v759,v762)=>Sh.jV m v759 v762) m.regs turnR (fun T i=>(T,i)) (fun T=>Sum.inl T) (by omega)
    (fun i hi T hT=>by
      have ha:Fx.app 72 T [turnR m.regs[i]] = some (T ++ [turnR m.regs[i]]):=cZ (by simp; omega) (by simp; omega)
      simp only [Sh.jV,cC,hi,decide_true,cond_true,bN hi,Option.bind_some]
      exact (congrArg (fun o=>Option.bind o _) ha).trans rfl) (fun T=>by simp [Sh.jV])
  refine cD e1 ?_
  simp only [Fx.fin,Sh.oY]
  have e2:=tK (body:=fun (v:List LTurn × List LCell × Int)=>match v with | (v921,v924,v927)=>Sh.jW m v921 v924 v927) m.slots turnC (fun T i=>(m.regs.map turnR,T,i)) (fun T=>Sum.inl (m.regs.map turnR,T)) (by omega)
    (fun i hi T hT=>by
      have ha:Fx.app 104 T [turnC m.slots[i]] = some (T ++ [turnC m.slots[i]]):=cZ (by simp; omega) (by simp; omega)
      simp only [Sh.jW,cC,hi,decide_true,cond_true,bN hi,Option.bind_some]
      exact (congrArg (fun o=>Option.bind o _) ha).trans rfl) (fun T=>by simp [Sh.jW])
  refine cD e2 ?_
  simp only [Fx.fin,Sh.oZ]
  have e3:=tK (body:=fun (v:List LTurn × List LCell × List QPiece × Int)=>match v with | (v1204,v1207,v1210,v1215)=>Sh.jX m v1204 v1207 v1210 v1215) m.pieces turnP (fun T i=>(m.regs.map turnR,m.slots.map turnC,T,i)) (fun T=>Sum.inl (m.regs.map turnR,m.slots.map turnC,T)) (by omega)
    (fun i hi T hT=>by
      have ha:Fx.app 64 T [turnP m.pieces[i]] = some (T ++ [turnP m.pieces[i]]):=cZ (by simp; omega) (by simp; omega)
      simp only [Sh.jX,cC,hi,decide_true,cond_true,bN hi,Option.bind_some]
      exact (congrArg (fun o=>Option.bind o _) ha).trans rfl) (fun T=>by simp [Sh.jX])
  refine cD e3 ?_
  rfl
end Go.Sp
end
section
namespace Go.Sp
open Go Go.Fw Go.Fx Go.Proofs
def mem (x:QState):List (List UInt8):=x.ctx :: x.tables
structure Stand (x:QState) (m:QMark):Prop where
  regs:∀ t ∈ m.regs,x.regs.l[t.reg.toNat]? = some t.old
  slots:∀ t ∈ m.slots,x.stack.l[t.slot.toNat]? = some t.old
  pieces:∀ p ∈ m.pieces,StandP (fun p=>p.old) (mem x) p
theorem nY {X:Type} {l:List X} {P:X → Prop}:(∀ i,i < l.length → ∀ h:i < l.length,P l[i]) ↔ ∀ t ∈ l,P t:=by
  constructor
  · intro h t ht
    obtain ⟨i,hi,rfl⟩:=List.mem_iff_getElem.1 ht
    exact h i hi hi
  · intro h i _ hi
    exact h _ (List.getElem_mem hi)
theorem kE {X:Type} {n:Nat} (v:Vec X n) {i:Int} (h0:0 ≤ i) (h1:i < (n:Int)):∃ x,Fx.get v.l i = some x ∧ v.l[i.toNat]? = some x:=by
  obtain ⟨x,hx⟩:=v.get (i:=i.toNat) (by omega)
  exact ⟨x,by unfold Fx.get; rw [if_pos h0,hx],hx⟩
theorem aFb (x:QState) {t:Int} (ht : -1 ≤ t):(∃ b,(mem x)[(t + 1).toNat]? = some b ∧ Sh.nK x t = some (b,true)) ∨ ((mem x)[(t + 1).toNat]? = none ∧ Sh.nK x t = some ([],false)):=by
  unfold Sh.nK
  by_cases c:t < 0
  · left
    have:t = -1:=by omega
    subst this
    exact ⟨x.ctx,rfl,rfl⟩
  · have e:(t + 1).toNat = t.toNat + 1:=by omega
    by_cases c2:t < (x.tables.length:Int)
    · left
      have hk:t.toNat < x.tables.length:=by omega
      refine ⟨x.tables[t.toNat],by rw [e]; simp [mem,hk],?_⟩
      rw [decide_eq_false c,decide_eq_true c2]
      have:Fx.get x.tables t = some x.tables[t.toNat]:=by unfold Fx.get; rw [if_pos (by omega)]; exact List.getElem?_eq_getElem hk
      simp [this]
    · right
      refine ⟨by rw [e]; simp [mem]; omega,?_⟩
      rw [decide_eq_false c,decide_eq_false c2]; rfl
theorem vS {b o:List UInt8} {f:Int} (h0:0 ≤ f) (h1:f + (o.length:Int) ≤ 65535):IntKind.i64.wrap (f + (o.length:Int)) = f + (o.length:Int) ∧ (f.toNat + o.length ≤ b.length → Fx.slc b f (f + (o.length:Int)) = some ((b.drop f.toNat).take o.length)):=by
  refine ⟨w64 (by omega),fun h=>?_⟩
  unfold Fx.slc
  rw [if_pos (by omega)]
  congr 2
  omega
theorem xG {x:QState} {m:QMark} (hm:SmallM m) (hp:PlnM m):Says (Sh.pV x m) (Stand x m ∧ x.at_ = m.at_):=by
  obtain ⟨h1,h2,h3,h4⟩:=hm
  unfold Sh.pV
  obtain ⟨g,e,c⟩:=scan (body:=fun v804=>Sh.lY x m v804) (ok:=Sum.inl ()) (bad:=Sum.inr false) m.regs.length (fun i=>∀ h:i < m.regs.length,x.regs.l[(m.regs[i]).reg.toNat]? = some (m.regs[i]).old) (by omega) (fun i hi=>by
    obtain ⟨r1,r2,_⟩:=hp.reg _ (List.getElem_mem hi)
    obtain ⟨y,e1,e2⟩:=kE x.regs r1 (by omega)
    simp only [Sh.lY,cC,hi,decide_true,cond_true,bN hi,Option.bind_some,e1]
    by_cases c:y = (m.regs[i]).old
    · exact .inl ⟨fun _=>by rw [e2,c],by rw [decide_eq_true c]; rfl⟩
    · exact .inr ⟨fun h=>c (Option.some.inj (e2.symm.trans (h trivial))),by rw [decide_eq_false c]; rfl⟩) (by simp [Sh.lY])
  rw [e]
  rcases c with ⟨rfl,c1⟩ | ⟨rfl,c1⟩
  case inr=>exact iC fun k=>c1 fun i hi h=>k.1.regs _ (List.getElem_mem h)
  simp only [bB,Sh.rD]
  obtain ⟨g,e,c⟩:=scan (body:=fun v918=>Sh.lZ x m v918) (ok:=Sum.inl ()) (bad:=Sum.inr false) m.slots.length (fun i=>∀ h:i < m.slots.length,x.stack.l[(m.slots[i]).slot.toNat]? = some (m.slots[i]).old) (by omega) (fun i hi=>by
    obtain ⟨r1,r2,_⟩:=hp.slot _ (List.getElem_mem hi)
    obtain ⟨y,e1,e2⟩:=kE x.stack r1 (by omega)
    simp only [Sh.lZ,cC,hi,decide_true,cond_true,bN hi,Option.bind_some,e1]
    by_cases c:y = (m.slots[i]).old
    · exact .inl ⟨fun _=>by rw [e2,c],by rw [decide_eq_true c]; rfl⟩
    · exact .inr ⟨fun h=>c (Option.some.inj (e2.symm.trans (h trivial))),by rw [decide_eq_false c]; rfl⟩) (by simp [Sh.lZ])
  rw [e]
  rcases c with ⟨rfl,c2⟩ | ⟨rfl,c2⟩
  case inr=>exact iC fun k=>c2 fun i hi h=>k.1.slots _ (List.getElem_mem h)
  simp only [bB,Sh.rE]
  obtain ⟨g,e,c⟩:=scan (body:=fun v1336=>Sh.mA x m v1336) (ok:=Sum.inl ()) (bad:=Sum.inr false) m.pieces.length (fun i=>∀ h:i < m.pieces.length,StandP (fun p=>p.old) (mem x) m.pieces[i]) (by omega) (fun i hi=>by
    have q:=hp.piece _ (List.getElem_mem hi)
    refine (?_:(StandP (fun p=>p.old) (mem x) m.pieces[i] ∧ _) ∨ (¬ StandP (fun p=>p.old) (mem x) m.pieces[i] ∧ _)).imp (fun a=>⟨fun _=>a.1,a.2⟩) (fun a=>⟨fun h=>a.1 (h hi),a.2⟩)
    have q1:=q.lo; have q2:=q.from0; have q3:=q.top
    simp only [Sh.mA,cC,hi,decide_true,cond_true,bN hi,Option.bind_some]
    generalize m.pieces[i] = p at *
    rcases aFb x q1 with ⟨b,e1,e2⟩ | ⟨e1,e2⟩
    · obtain ⟨w1,w2⟩:=vS (b:=b) (o:=p.old) q2 q3
      simp only [e2,Option.bind_some,Bool.not_true,cond_false,w1]
      by_cases c:p.from_.toNat + p.old.length ≤ b.length
      · rw [decide_eq_false (by omega),w2 c]
        simp only [cond_false,Option.bind_some,bB,Sh.rC,Sh.nX]
        by_cases c':(b.drop p.from_.toNat).take p.old.length = p.old
        · rw [decide_eq_true c']
          exact .inl ⟨⟨b,e1,c,c'⟩,rfl⟩
        · rw [decide_eq_false c']
          refine .inr ⟨fun h=>?_,rfl⟩
          obtain ⟨b',k1,k2,k3⟩:=h
          cases e1.symm.trans k1
          exact c' k3
      · rw [decide_eq_true (by omega)]
        refine .inr ⟨fun h=>?_,rfl⟩
        obtain ⟨b',k1,k2,k3⟩:=h
        cases e1.symm.trans k1
        exact c k2
    · simp only [e2,Option.bind_some,Bool.not_false,cond_true,bB,Sh.nX]
      refine .inr ⟨fun h=>?_,by first | rfl | trivial⟩
      obtain ⟨b',k1,k2,k3⟩:=h
      cases e1.symm.trans k1) (by simp [Sh.mA])
  rw [e]
  rcases c with ⟨rfl,c3⟩ | ⟨rfl,c3⟩
  case inr=>exact iC fun k=>c3 fun i hi h=>k.1.pieces _ (List.getElem_mem h)
  simp only [bB,Sh.rF]
  refine ⟨_,rfl,?_⟩
  rw [decide_eq_true_iff]
  exact ⟨fun h=>⟨⟨nY.1 c1,nY.1 c2,nY.1 c3⟩,h⟩,fun h=>h.2⟩
def side (m:QMark) (o:Bool):QMark:=bif o then m else turn m
theorem vR (m:QMark) (o:Bool) (t:LTurn):Sh.tG t o = some (bif o then t.old else t.new):=by cases o <;> rfl
theorem uK (m:QMark) (o:Bool) (t:LCell):Sh.rX t o = some (bif o then t.old else t.new):=by cases o <;> rfl
theorem uJ (m:QMark) (o:Bool) (t:QPiece):Sh.qN t o = some (bif o then t.old else t.new):=by cases o <;> rfl
structure Side (x:QState) (m:QMark) (o:Bool):Prop where
  regs:∀ t ∈ m.regs,x.regs.l[t.reg.toNat]? = some (bif o then t.old else t.new)
  slots:∀ t ∈ m.slots,x.stack.l[t.slot.toNat]? = some (bif o then t.old else t.new)
  pieces:∀ p ∈ m.pieces,StandP (fun p=>bif o then p.old else p.new) (mem x) p
theorem aAw {x:QState} {m:QMark} {o:Bool}:Side x m o ↔ Stand x (side m o):=by
  cases o
  · constructor
    · intro h
      refine ⟨fun t ht=>?_,fun t ht=>?_,fun t ht=>?_⟩
      · obtain ⟨u,hu,rfl⟩:=List.mem_map.1 (show t ∈ m.regs.map turnR from ht); exact h.regs u hu
      · obtain ⟨u,hu,rfl⟩:=List.mem_map.1 (show t ∈ m.slots.map turnC from ht); exact h.slots u hu
      · obtain ⟨u,hu,rfl⟩:=List.mem_map.1 (show t ∈ m.pieces.map turnP from ht); exact h.pieces u hu
    · intro h
      exact ⟨fun t ht=>h.regs (turnR t) (List.mem_map_of_mem ht),fun t ht=>h.slots (turnC t) (List.mem_map_of_mem ht),fun t ht=>h.pieces (turnP t) (List.mem_map_of_mem ht)⟩
  · exact ⟨fun h=>⟨h.regs,h.slots,h.pieces⟩,fun h=>⟨h.regs,h.slots,h.pieces⟩⟩
theorem nQ {x:QState} {m:QMark} (o:Bool) (hm:SmallM m) (hp:PlnM m):Says (Sh.lF x m o) (Stand x (side m o)):=by
  suffices h:Says (Sh.lF x m o) (Side x m o) by
    obtain ⟨t,e,i⟩:=h; exact ⟨t,e,i.trans aAw⟩
  obtain ⟨h1,h2,h3,h4⟩:=hm
  unfold Sh.lF
  obtain ⟨g,e,c⟩:=scan (body:=fun v=>Sh.jG x m o v) (ok:=Sum.inl ()) (bad:=Sum.inr false) m.regs.length (fun i=>∀ h:i < m.regs.length,x.regs.l[(m.regs[i]).reg.toNat]? = some (bif o then (m.regs[i]).old else (m.regs[i]).new)) (by omega) (fun i hi=>by
    obtain ⟨r1,r2,_⟩:=hp.reg _ (List.getElem_mem hi)
    obtain ⟨y,e1,e2⟩:=kE x.regs r1 (by omega)
    simp only [Sh.jG,cC,hi,decide_true,cond_true,bN hi,Option.bind_some,e1,vR m]
    by_cases c:y = (bif o then (m.regs[i]).old else (m.regs[i]).new)
    · exact .inl ⟨fun _=>by rw [e2,c],by rw [decide_eq_true c]; rfl⟩
    · exact .inr ⟨fun h=>c (Option.some.inj (e2.symm.trans (h trivial))),by rw [decide_eq_false c]; rfl⟩) (by simp [Sh.jG])
  rw [e]
  rcases c with ⟨rfl,c1⟩ | ⟨rfl,c1⟩
  case inr=>exact iC fun k=>c1 fun i hi h=>k.regs _ (List.getElem_mem h)
  simp only [bB,Sh.oM]
  obtain ⟨g,e,c⟩:=scan (body:=fun v=>Sh.jH x m o v) (ok:=Sum.inl ()) (bad:=Sum.inr false) m.slots.length (fun i=>∀ h:i < m.slots.length,x.stack.l[(m.slots[i]).slot.toNat]? = some (bif o then (m.slots[i]).old else (m.slots[i]).new)) (by omega) (fun i hi=>by
    obtain ⟨r1,r2,_⟩:=hp.slot _ (List.getElem_mem hi)
    obtain ⟨y,e1,e2⟩:=kE x.stack r1 (by omega)
    simp only [Sh.jH,cC,hi,decide_true,cond_true,bN hi,Option.bind_some,e1,uK m]
    by_cases c:y = (bif o then (m.slots[i]).old else (m.slots[i]).new)
    · exact .inl ⟨fun _=>by rw [e2,c],by rw [decide_eq_true c]; rfl⟩
    · exact .inr ⟨fun h=>c (Option.some.inj (e2.symm.trans (h trivial))),by rw [decide_eq_false c]; rfl⟩) (by simp [Sh.jH])
  rw [e]
  rcases c with ⟨rfl,c2⟩ | ⟨rfl,c2⟩
  case inr=>exact iC fun k=>c2 fun i hi h=>k.slots _ (List.getElem_mem h)
  simp only [bB,Sh.oN]
  obtain ⟨g,e,c⟩:=scan (body:=fun v=>Sh.jI x m o v) (ok:=Sum.inl ()) (bad:=Sum.inr false) m.pieces.length (fun i=>∀ h:i < m.pieces.length,StandP (fun p=>bif o then p.old else p.new) (mem x) m.pieces[i]) (by omega) (fun i hi=>by
    have q:=hp.piece _ (List.getElem_mem hi)
    refine (?_:(StandP (fun p=>bif o then p.old else p.new) (mem x) m.pieces[i] ∧ _) ∨ (¬ StandP (fun p=>bif o then p.old else p.new) (mem x) m.pieces[i] ∧ _)).imp (fun a=>⟨fun _=>a.1,a.2⟩) (fun a=>⟨fun h=>a.1 (h hi),a.2⟩)
    have q1:=q.lo; have q2:=q.from0; have q3:=q.top; have q4:=q.eq
    simp only [Sh.jI,cC,hi,decide_true,cond_true,bN hi,Option.bind_some,uJ m,Sh.oO]
    generalize m.pieces[i] = p at *
    generalize hv:(bif o then p.old else p.new) = v
    have hl:v.length = p.old.length:=by subst hv; cases o <;> simp [q4]
    have hst:StandP (fun p=>bif o then p.old else p.new) (mem x) p ↔ ∃ b,(mem x)[(p.table + 1).toNat]? = some b ∧ p.from_.toNat + v.length ≤ b.length ∧ (b.drop p.from_.toNat).take v.length = v:=by unfold StandP; simp only [hv]
    by_cases c0:(x.tables.length:Int) ≤ p.table
    · rw [decide_eq_true c0]
      refine .inr ⟨fun h=>?_,rfl⟩
      obtain ⟨b,k1,_⟩:=hst.1 (h)
      have:=(List.getElem?_eq_some_iff.1 k1).1
      simp [mem] at this
      omega
    rw [decide_eq_false c0]
    have hb:∃ b,(mem x)[(p.table + 1).toNat]? = some b ∧ (bif decide (0 ≤ p.table) then (Fx.get x.tables p.table).bind fun x4034=>some (Sum.inl x4034) else some (Sum.inl x.ctx):Option (List UInt8 ⊕ (Int ⊕ (Unit ⊕ Bool)))) = some (Sum.inl b):=by
      by_cases c5:0 ≤ p.table
      · have hk:p.table.toNat < x.tables.length:=by omega
        have e:(p.table + 1).toNat = p.table.toNat + 1:=by omega
        have:Fx.get x.tables p.table = some x.tables[p.table.toNat]:=by unfold Fx.get; rw [if_pos (by omega)]; exact List.getElem?_eq_getElem hk
        exact ⟨x.tables[p.table.toNat],by rw [e]; simp [mem,hk],by rw [decide_eq_true c5,this]; rfl⟩
      · have:p.table = -1:=by omega
        exact ⟨x.ctx,by rw [this]; rfl,by rw [decide_eq_false c5]; rfl⟩
    obtain ⟨b,e1,e2⟩:=hb
    obtain ⟨w1,w2⟩:=vS (b:=b) (o:=v) q2 (by rw [hl]; exact q3)
    simp only [e2,bB,w1,cond_false]
    by_cases c:p.from_.toNat + v.length ≤ b.length
    · rw [decide_eq_false (by omega),w2 c]
      simp only [cond_false,Option.bind_some,bB,Sh.oL,Sh.oP]
      by_cases c':(b.drop p.from_.toNat).take v.length = v
      · rw [decide_eq_true c']
        exact .inl ⟨hst.2 ⟨b,e1,c,c'⟩,rfl⟩
      · rw [decide_eq_false c']
        refine .inr ⟨fun h=>?_,rfl⟩
        obtain ⟨b',k1,k2,k3⟩:=hst.1 (h)
        cases e1.symm.trans k1
        exact c' k3
    · rw [decide_eq_true (by omega)]
      refine .inr ⟨fun h=>?_,rfl⟩
      obtain ⟨b',k1,k2,k3⟩:=hst.1 (h)
      cases e1.symm.trans k1
      exact c k2) (by simp [Sh.jI])
  rw [e]
  rcases c with ⟨rfl,c3⟩ | ⟨rfl,c3⟩
  case inr=>exact iC fun k=>c3 fun i hi h=>k.pieces _ (List.getElem_mem h)
  exact yZ ⟨nY.1 c1,nY.1 c2,nY.1 c3⟩
end Go.Sp
end
section
namespace Go.Sp
open Go Go.Fw Go.Fx Go.Proofs
theorem kH {σ γ X S:Type} {body:σ → Option (σ ⊕ γ)} (l:List X) (f:S → X → S) (st:S → Int → σ) (g:S → γ) (I:S → Prop) (s0:S) (h0:I s0) (hn:l.length ≤ 4611686018427387904)
    (h:∀ (i:Nat) (hi:i < l.length) s,I s → body (st s (i:Int)) = some (.inl (st (f s l[i]) (IntKind.i64.wrap ((i:Int) + 1)))) ∧ I (f s l[i])) (h':∀ s,I s → body (st s (l.length:Int)) = some (.inr (g s))):Fx.loop body (st s0 0) = some (g (l.foldl f s0)) ∧ I (l.foldl f s0):=by
  obtain ⟨o,e,rfl,hI⟩:=cK (body:=body) l.length (fun i s=>st s (i:Int)) (fun i s=>s = (l.take i).foldl f s0 ∧ I s) (fun o=>o = g (l.foldl f s0) ∧ I (l.foldl f s0)) (fun i s hi hs=>.inl ⟨f s l[i],by
      rw [(h i hi s hs.2).1,next64 hi hn],by
      refine ⟨?_,(h i hi s hs.2).2⟩
      rw [List.take_add_one,List.getElem?_eq_getElem hi,List.foldl_append,← hs.1]; rfl⟩) (fun s hs=>⟨_,h' s hs.2,by
      rw [List.take_length] at hs; rw [← hs.1]; exact ⟨rfl,hs.2⟩⟩) l.length 0 s0 (by omega) ⟨by simp,h0⟩
  exact ⟨e,hI⟩
def setV {X Y:Type} {n:Nat} (key:Y → Nat) (val:Y → X) (v:Vec X n) (T:List Y):Vec X n:=T.foldl (fun v t=>v.set (key t) (val t)) v
def putM (x:QState) (m:QMark):List (List UInt8):=putAll (fun p=>p.new) (mem x) m.pieces
def putS (x:QState) (m:QMark) (sent:List Int) (a s:Int) (d:Bool):QState :=
  ⟨setV (fun t:LTurn=>t.reg.toNat) (fun t=>t.new) x.regs m.regs,setV (fun t:LCell=>t.slot.toNat) (fun t=>t.new) x.stack m.slots,pk (putM x m) 0,(putM x m).tail,sent,a,s,d⟩
theorem sI {l:List UInt8} (h:l.length ≤ 1099511627776):Sh.fE l = some l:=by
  unfold Sh.fE; rw [cZ (by simp; omega) (by simp; omega)]; rfl
theorem wG {l:List Int} (h:l.length ≤ 1099511627776):Sh.eS l = some l:=by
  unfold Sh.eS; rw [cZ (by simp; omega) (by simp; omega)]; rfl
theorem aF5 {l:List (List UInt8)} (h:l.length ≤ 1099511627776):Sh.eM l = some l:=by
  unfold Sh.eM; rw [cZ (by simp; omega) (by simp; omega)]; rfl
theorem aE8 {x:QState} (h:SmallS x):Sh.pF x = some x:=by
  have h1:=h.tables
  obtain ⟨g,hg,e⟩:=cK (body:=fun (v:Nat × Int)=>match v with | (n544,v547)=>Sh.jR x.tables n544 v547) x.tables.length (fun i (a:Unit)=>(i,(i:Int))) (fun i a=>True) (fun g=>g = .inl x.tables.length)
    (fun i a hi _=>.inl ⟨(),by
      simp only [Sh.jR,cC,hi,decide_true,cond_true,bN hi,Option.bind_some,Int.toNat_natCast,Nat.le_refl,Fx.must,sI (h.each _ (List.getElem_mem hi)),next64 hi (by omega)],trivial⟩)
    (fun a _=>⟨Sum.inl x.tables.length,by simp [Sh.jR],rfl⟩) x.tables.length 0 () (by omega) trivial
  subst e
  unfold Sh.pF
  rw [sI h.ctx,Option.bind_some,aF5 h.tables,Option.bind_some]
  refine cD hg ?_
  simp only [Fx.fin,Sh.oW,wG h.sent,Option.bind_some,Nat.le_refl,decide_true,Fx.must,cond_true]
theorem aGz {x:QState} (h:SmallS x):Sh.qM x = some x:=by
  have h1:=h.tables
  have h2:=h.ctx
  have h3:=h.sent
  obtain ⟨g,hg,e⟩:=cK (body:=fun (v:QState × Int)=>match v with | (v502,v511)=>Sh.lA x v502 v511) x.tables.length (fun i T=>(⟨x.regs,x.stack,x.ctx,T,x.sent,x.at_,x.steps,x.done⟩,(i:Int))) (fun i T=>T = x.tables.take i) (fun g=>g = .inl x)
    (fun i T hi hT=>.inl ⟨T ++ [x.tables[i]],by
      have hl:T.length ≤ i:=by rw [hT]; simp; omega
      have hb:=h.each _ (List.getElem_mem hi)
      have e1:Fx.app 1 [] x.tables[i] = some x.tables[i]:=sI hb
      have e2:Fx.app 24 T [x.tables[i]] = some (T ++ [x.tables[i]]):=cZ (by simp; omega) (by simp; omega)
      simp only [Sh.lA,cC,hi,decide_true,cond_true,bN hi,Option.bind_some,e1,e2,next64 hi (by omega)],by
      rw [hT,List.take_add_one,List.getElem?_eq_getElem hi]; rfl⟩)
    (fun T hT=>⟨Sum.inl x,by rw [List.take_length] at hT; subst hT; simp [Sh.lA],rfl⟩) x.tables.length 0 [] (by omega) rfl
  subst e
  have e1:Fx.app 1 [] x.ctx = some x.ctx:=sI h.ctx
  have e3:Fx.app 8 [] x.sent = some x.sent:=wG h.sent
  unfold Sh.qM
  rw [e1,Option.bind_some]
  refine cD hg ?_
  simp only [Fx.fin,Sh.pN,e3,Option.bind_some]
section
variable {M:List (List UInt8)} {p:QPiece}
theorem aD3 (hr:RoomP M p):kp p < M.length:=by
  obtain ⟨b,h1,_⟩:=hr; exact (List.getElem?_eq_some_iff.1 h1).1
theorem uD (hr:RoomP M p):fp p + wd p ≤ (pk M (kp p)).length:=by
  obtain ⟨b,h1,h2⟩:=hr; rw [vM h1]; exact h2
theorem aI4 {γ:Type} (hp:PieceP p) (hr:RoomP M p):(bif decide (p.table < 0) then some (Sum.inl (0,true)) else bif decide (p.table < ((List.tail M).length:Int)) then (Fx.get (List.tail M) p.table).bind fun _=>some (Sum.inl (p.table.toNat + 1,true)) else Fx.must false none:Option ((Nat × Bool) ⊕ γ)) = some (Sum.inl (kp p,true)):=by
  have h1:=hp.lo
  have h2:=aD3 hr
  by_cases c:p.table < 0
  · have e:kp p = 0:=by simp only [kp]; omega
    rw [decide_eq_true c,e]; rfl
  · have e:kp p = p.table.toNat + 1:=by simp only [kp]; omega
    have ht:p.table.toNat < M.tail.length:=by simp only [List.length_tail]; omega
    have:Fx.get M.tail p.table = some M.tail[p.table.toNat]:=by unfold Fx.get; rw [if_pos (by omega)]; exact List.getElem?_eq_getElem ht
    rw [decide_eq_false c,decide_eq_true (by omega),this,e]; rfl
theorem aJi (hp:PieceP p) (hr:RoomP M p):∃ y,Fx.slc (pk M (kp p)) p.from_ ((pk M (kp p)).length:Int) = some y:=by
  have h1:=hp.from0
  have h2:=uD hr
  have h3:fp p = p.from_.toNat:=rfl
  unfold Fx.slc
  rw [if_pos (by omega)]
  exact ⟨_,rfl⟩
theorem aIy {v:List UInt8} (hp:PieceP p) (hr:RoomP M p) (hv:v.length = wd p):Fx.cpa (pk M (kp p)) p.from_ v = some (put (pk M (kp p)) (fp p) v):=by
  have h1:=hp.from0
  have h2:=uD hr
  have h3:fp p = p.from_.toNat:=rfl
  unfold Fx.cpa
  rw [if_pos (by omega)]
end
theorem aEs {b v:List UInt8} {f i:Nat} (h:f + v.length ≤ b.length) (hi:i < v.length):(put b f (v.take i)).set (f + i) v[i] = put b f (v.take (i + 1)):=by
  apply List.ext_getElem?
  intro j
  rw [List.getElem?_set,aAo (by simp; omega),aAo (by simp; omega),wT (by simp; omega)]
  simp only [List.length_take]
  by_cases c:f + i = j
  · subst c
    rw [if_pos rfl,if_pos (by omega),if_pos (by omega),show f + i - f = i by omega,List.getElem?_take,if_pos (by omega),List.getElem?_eq_getElem hi]
  · rw [if_neg c]
    by_cases c2:f ≤ j ∧ j < f + i
    · rw [if_pos (by omega),if_pos (by omega),List.getElem?_take,List.getElem?_take,if_pos (by omega),if_pos (by omega)]
    · rw [if_neg (by omega),if_neg (by omega)]
theorem aEr (b:List UInt8) (f:Nat):put b f [] = b:=by simp [put]
def to (m:QMark) (o:Bool):QMark:=bif o then turn m else m
section
variable {x:QState} {m:QMark} (hx:SmallS x) (hm:SmallM m) (hp:PlnM m) (hr:∀ p ∈ m.pieces,RoomP (mem x) p)
include hx hm hp hr
theorem zG:Sh.nI x m = some (putS x m x.sent m.next x.steps x.done):=by
  obtain ⟨h1,h2,h3,h4⟩:=hm
  unfold Sh.nI
  rw [aE8 hx,Option.bind_some]
  have e1:=(kH (body:=fun (v:Vec LVal 11 × List Int × Int)=>match v with | (v923,v924,v927)=>Sh.jO m v923 v924 v927) m.regs (fun v (t:LTurn)=>v.set t.reg.toNat t.new) (fun v i=>(v,x.sent,i)) (fun v=>Sum.inl (v,x.sent)) (fun _=>True) x.regs trivial (by omega)
    (fun i hi v _=>⟨by
      obtain ⟨r1,r2,_⟩:=hp.reg _ (List.getElem_mem hi)
      obtain ⟨y,e,_⟩:=kE v r1 (by omega)
      simp only [Sh.jO,cC,hi,decide_true,cond_true,bN hi,Option.bind_some,e],trivial⟩) (fun v _=>by simp [Sh.jO])).1
  refine cD e1 ?_
  simp only [Fx.fin,Sh.oU]
  have e2:=(kH (body:=fun (v:Vec LSlot 32 × List Int × Int)=>match v with | (v1047,v1048,v1051)=>Sh.jP m v1047 v1048 v1051) m.slots (fun v (t:LCell)=>v.set t.slot.toNat t.new) (fun v i=>(v,x.sent,i)) (fun v=>Sum.inl (v,x.sent)) (fun _=>True) x.stack trivial (by omega)
    (fun i hi v _=>⟨by
      obtain ⟨r1,r2,_⟩:=hp.slot _ (List.getElem_mem hi)
      obtain ⟨y,e,_⟩:=kE v r1 (by omega)
      simp only [Sh.jP,cC,hi,decide_true,cond_true,bN hi,Option.bind_some,e],trivial⟩) (fun v _=>by simp [Sh.jP])).1
  refine cD e2 ?_
  simp only [Fx.fin,Sh.oV]
  have e3:=(kH (body:=fun (v:List (List UInt8) × Int)=>match v with | (l1511,v1513)=>Sh.jQ m l1511 v1513) m.pieces (putP (fun p=>p.new)) (fun M i=>(M,i)) (fun M=>Sum.inl M) (fun M=>M.map List.length = (mem x).map List.length) (mem x) rfl (by omega)
    (fun i hi M hM=>by
      have hq:=hp.piece _ (List.getElem_mem hi)
      have hro:RoomP M m.pieces[i]:=(hr _ (List.getElem_mem hi)).shape hM.symm
      refine ⟨?_,(nP hro hq.eq).trans hM⟩
      obtain ⟨y,ey⟩:=aJi hq hro
      simp only [Sh.jQ,cC,hi,decide_true,cond_true,bN hi,Option.bind_some]
      refine cD (aI4 hq hro) ?_
      simp only [Fx.fin,Sh.oT,ey,aIy hq hro hq.eq,Option.bind_some]
      rfl) (fun M _=>by simp [Sh.jQ])).1
  refine cD e3 ?_
  rfl
theorem aHo (o:Bool):Sh.rK x m o = some (putS x (to m o) x.sent x.at_ x.steps x.done):=by
  obtain ⟨h1,h2,h3,h4⟩:=hm
  unfold Sh.rK
  rw [aGz hx,Option.bind_some]
  have e1:=(kH (body:=fun (v:Vec LVal 11 × List Int × Int)=>match v with | (v3492,v3493,v3496)=>Sh.mZ m o v3492 v3493 v3496) m.regs (fun v (t:LTurn)=>v.set t.reg.toNat (bif o then t.old else t.new)) (fun v i=>(v,x.sent,i)) (fun v=>Sum.inl (v,x.sent)) (fun _=>True) x.regs trivial (by omega)
    (fun i hi v _=>⟨by
      obtain ⟨r1,r2,_⟩:=hp.reg _ (List.getElem_mem hi)
      obtain ⟨y,e,_⟩:=kE v r1 (by omega)
      simp only [Sh.mZ,cC,hi,decide_true,cond_true,bN hi,Option.bind_some,e,vR m],trivial⟩) (fun v _=>by simp [Sh.mZ])).1
  refine cD e1 ?_
  simp only [Fx.fin,Sh.rS]
  have e2:=(kH (body:=fun (v:Vec LSlot 32 × List Int × Int)=>match v with | (v3652,v3653,v3656)=>Sh.nA m o v3652 v3653 v3656) m.slots (fun v (t:LCell)=>v.set t.slot.toNat (bif o then t.old else t.new)) (fun v i=>(v,x.sent,i)) (fun v=>Sum.inl (v,x.sent)) (fun _=>True) x.stack trivial (by omega)
    (fun i hi v _=>⟨by
      obtain ⟨r1,r2,_⟩:=hp.slot _ (List.getElem_mem hi)
      obtain ⟨y,e,_⟩:=kE v r1 (by omega)
      simp only [Sh.nA,cC,hi,decide_true,cond_true,bN hi,Option.bind_some,e,uK m],trivial⟩) (fun v _=>by simp [Sh.nA])).1
  refine cD e2 ?_
  simp only [Fx.fin,Sh.rT]
  have e3:=(kH (body:=fun (v:List (List UInt8) × Int)=>match v with | (l6312,v6314)=>Sh.nB m o l6312 v6314) m.pieces (putP (fun p=>bif o then p.old else p.new)) (fun M i=>(M,i)) (fun M=>Sum.inl M) (fun M=>M.map List.length = (mem x).map List.length) (mem x) rfl (by omega)
    (fun i hi M hM=>by
      have hq:=hp.piece _ (List.getElem_mem hi)
      have hro:RoomP M m.pieces[i]:=(hr _ (List.getElem_mem hi)).shape hM.symm
      have hvl:(bif o then (m.pieces[i]).old else (m.pieces[i]).new).length = wd m.pieces[i]:=by cases o <;> simp [hq.eq]
      refine ⟨?_,(nP hro hvl).trans hM⟩
      simp only [Sh.nB,cC,hi,decide_true,cond_true,bN hi,Option.bind_some,uJ m]
      have hg:=bN hi
      have hlt:=aD3 hro
      have hrl:=uD hro
      have q1:=hq.lo; have q2:=hq.from0; have q3:=hq.top
      unfold putP
      generalize hp0:m.pieces[i] = p at *
      generalize hv0:(bif o then p.old else p.new) = v at *
      have ek:(bif decide (0 ≤ p.table) then (Fx.get (List.tail M) p.table).bind fun x6582=>some (Sum.inl (p.table.toNat + 1)) else some (Sum.inl 0):Option (Nat ⊕ (List (List UInt8) ⊕ ((List (List UInt8) × Int) ⊕ (List (List UInt8) ⊕ QState))))) = some (Sum.inl (kp p)):=by
        by_cases c:0 ≤ p.table
        · have e:kp p = p.table.toNat + 1:=by simp only [kp]; omega
          have ht:p.table.toNat < M.tail.length:=by simp only [List.length_tail]; omega
          have:Fx.get M.tail p.table = some M.tail[p.table.toNat]:=by unfold Fx.get; rw [if_pos (by omega)]; exact List.getElem?_eq_getElem ht
          rw [decide_eq_true c,this,e]; rfl
        · have e:kp p = 0:=by simp only [kp]; omega
          rw [decide_eq_false c,e]; rfl
      have hf:((fp p:Nat):Int) = p.from_:=by simp only [fp]; omega
      obtain ⟨g,hl,e⟩:=cK (body:=fun (s:List (List UInt8) × Int)=>match s with | (l6622,v6624)=>Sh.nC m (i:Int) v (kp p) l6622 v6624) v.length (fun j L=>(L,(j:Int))) (fun j L=>L = M.set (kp p) (put (pk M (kp p)) (fp p) (v.take j))) (fun g=>g = .inl (M.set (kp p) (put (pk M (kp p)) (fp p) v)))
        (fun j L hj hL=>.inl ⟨M.set (kp p) (put (pk M (kp p)) (fp p) (v.take (j + 1))),by
          have e1:pk L (kp p) = put (pk M (kp p)) (fp p) (v.take j):=by rw [hL]; exact vM (by rw [List.getElem?_set,if_pos rfl,if_pos hlt])
          have e2:IntKind.i64.wrap (p.from_ + (j:Int)) = ((fp p + j:Nat):Int):=by rw [w64 (by omega)]; omega
          have e3:fp p + j < (put (pk M (kp p)) (fp p) (v.take j)).length:=by rw [wT (by simp; omega)]; omega
          have e4:(Fx.get (pk L (kp p)) (IntKind.i64.wrap (p.from_ + (j:Int)))) = some ((put (pk M (kp p)) (fp p) (v.take j))[fp p + j]):=by rw [e1,e2]; exact bN e3
          have e5:L.set (kp p) ((pk L (kp p)).set (IntKind.i64.wrap (p.from_ + (j:Int))).toNat v[j]) = M.set (kp p) (put (pk M (kp p)) (fp p) (v.take (j + 1))):=by
            rw [e1,e2,Int.toNat_natCast,aEs (b:=pk M (kp p)) (f:=fp p) (by omega) hj,hL,List.set_set]
          simp only [Sh.nC,cC,hj,decide_true,cond_true,hg,Option.bind_some,bN hj,e4,e5,next64 hj (by omega)],rfl⟩)
        (fun L hL=>⟨.inl L,by simp [Sh.nC],by rw [hL,List.take_length]⟩) v.length 0 M (by omega) (by
          rw [List.take_zero,aEr]
          apply List.ext_getElem?
          intro j
          rw [List.getElem?_set]
          split
          · rename_i c; subst c; rw [List.getElem?_eq_getElem hlt,vM (List.getElem?_eq_getElem hlt)]
          · rfl)
      subst e
      refine cD (t:=(some v).bind fun y6541=>_) (o:=Sum.inl (M.set (kp p) (put (pk M (kp p)) (fp p) v))) ?_ ?_
      · refine cD ek ?_
        simp only [Fx.fin,Sh.rW]
        exact hl
      · simp only [Fx.fin,Sh.rV,hv0]) (fun M _=>by simp [Sh.nB])).1
  refine cD e3 ?_
  cases o
  · rfl
  · simp only [Fx.fin,Sh.rU,putS,putM,to,cond_true,turn,setV,putAll,List.foldl_map]
    rfl
end
end Go.Sp
end
section
namespace Go.Sp
open Go Go.Fw Go.Fx Go.Proofs
def noState:QState:=⟨⟨List.replicate 11 LVal.zero,rfl⟩,⟨List.replicate 32 LSlot.zero,rfl⟩,[],[],[],0,0,false⟩
structure CanA (x:QState) (m:QMark):Prop where
  done:x.done = false
  at_:x.at_ = m.at_
  steps:x.steps ≠ 4294967296
  st:Stand x m
structure CanU (x:QState) (m:QMark):Prop where
  done:x.done = m.done
  at_:x.at_ = m.next
  steps:x.steps ≠ 0
  st:Stand x (turn m)
  len:m.sent.length ≤ x.sent.length
  sent:x.sent.drop (x.sent.length - m.sent.length) = m.sent
def applied (x:QState) (m:QMark):QState:=putS x m (x.sent ++ m.sent) m.next (x.steps + 1) m.done
def undone (x:QState) (m:QMark):QState:=putS x (turn m) (x.sent.take (x.sent.length - m.sent.length)) m.at_ (x.steps - 1) false
structure Answers (o:Option (QState × Int)) (x:QState) (m:QMark) (C:Prop) (y:QState):Prop where
  arg:¬ PlainS x → o = some (noState,1)
  mark:PlainS x → ¬ PlnM m → o = some (noState,230)
  from_:PlainS x → PlnM m → ¬ C → o = some (noState,231)
  ok:PlainS x → PlnM m → C → o = some (y,0)
theorem aBs {x:QState} {m:QMark} (hm:SmallM m):(¬ PlainS x → Sh.kT x m = some 1) ∧ (PlainS x → ¬ PlnM m → Sh.kT x m = some 230) ∧ (PlainS x → PlnM m → Sh.kT x m = some 0):=by
  unfold Sh.kT
  refine ⟨fun h=>?_,fun h k=>?_,fun h k=>?_⟩
  · rw [(hY x).false h]; rfl
  · rw [(hY x).true h,Option.bind_some,(nT hm).false k]; rfl
  · rw [(hY x).true h,Option.bind_some,(nT hm).true k]; rfl
theorem Stand.room {x:QState} {m:QMark} (h:Stand x m):∀ p ∈ m.pieces,RoomP (mem x) p:=fun p hp=>(h.pieces p hp).room rfl
theorem aCy {x:QState} {m:QMark} (hp:PlnM m) (h:Stand x (turn m)):∀ p ∈ m.pieces,RoomP (mem x) p:=fun p hq=>by
  have:=h.pieces (turnP p) (List.mem_map_of_mem hq)
  obtain ⟨b,h1,h2,h3⟩:=this
  have e:=(hp.piece p hq).eq
  refine ⟨b,h1,?_⟩
  simp only [turnP,fp] at h2 ⊢
  omega
section
variable {x:QState} {m:QMark} (hx:SmallS x) (hm:SmallM m)
include hx hm
theorem xE:Answers (Sh.eD x m) x m (CanA x m) (applied x m):=by
  obtain ⟨r1,r2,r3⟩:=aBs (x:=x) hm
  have hs:=hx.sent
  have hms:=hm.2.2.2
  refine ⟨fun h=>?_,fun h k=>?_,fun h k c=>?_,fun h k c=>?_⟩
  · unfold Sh.eD; rw [r1 h]; rfl
  · unfold Sh.eD; rw [r2 h k]; rfl
  · unfold Sh.eD
    rw [r3 h k]
    simp only [Option.bind_some,decide_true,Bool.not_true,cond_false]
    cases c1:x.done
    case true=>rfl
    simp only [cond_false]
    by_cases c2:x.steps = 4294967296
    · rw [decide_eq_true c2]; rfl
    rw [decide_eq_false c2]
    have c3:¬ (Stand x m ∧ x.at_ = m.at_):=fun e=>c ⟨c1,e.2,c2,e.1⟩
    rw [(xG hm k).false c3]; rfl
  · unfold Sh.eD
    rw [r3 h k]
    simp only [Option.bind_some,decide_true,Bool.not_true,cond_false]
    rw [c.done,decide_eq_false c.steps,(xG hm k).true ⟨c.st,c.at_⟩]
    simp only [cond_false,Option.bind_some,Bool.not_true,bB,Sh.pU,zG hx hm k c.st.room]
    have ha:Fx.app 8 x.sent m.sent = some (x.sent ++ m.sent):=cZ (by omega) (by omega)
    have hw:IntKind.i64.wrap (x.steps + 1) = x.steps + 1:=w64 (by have:=h.2.1; omega)
    simp only [putS,ha,Option.bind_some,hw]
    rfl
theorem aBj (hb:∀ p ∈ m.pieces,p.old.length ≤ 1099511627776):Answers (Sh.hA x m) x m (CanA x m) (applied x m):=by
  have hs:=hx.sent
  have hms:=hm.2.2.2
  have ep:=pS hm.1 hm.2.1 hm.2.2.1 hb
  refine ⟨fun h=>?_,fun h k=>?_,fun h k c=>?_,fun h k c=>?_⟩
  · unfold Sh.hA; rw [(fA x).false h]; rfl
  · unfold Sh.hA; rw [(fA x).true h,Option.bind_some,ep,(nT hm).false k]; rfl
  · unfold Sh.hA
    rw [(fA x).true h,Option.bind_some,ep,(nT hm).true k]
    simp only [Option.bind_some,Bool.not_true,cond_false]
    cases c1:x.done
    case true=>rfl
    simp only [cond_false]
    by_cases c0:x.at_ = m.at_
    case neg=>rw [decide_eq_false c0]; rfl
    rw [decide_eq_true c0]
    simp only [Bool.not_true,cond_false]
    by_cases c2:x.steps = 4294967296
    · rw [decide_eq_true c2]; rfl
    rw [decide_eq_false c2]
    have c3:¬ Stand x (side m true):=fun e=>c ⟨c1,c0,c2,e⟩
    rw [(nQ true hm k).false c3]; rfl
  · unfold Sh.hA
    rw [(fA x).true h,Option.bind_some,ep,(nT hm).true k]
    simp only [Option.bind_some,Bool.not_true,cond_false]
    have e4:Stand x (side m true):=c.st
    rw [c.done,decide_eq_true c.at_,decide_eq_false c.steps,(nQ true hm k).true e4]
    simp only [cond_false,Option.bind_some,Bool.not_true,bB,Sh.pI,aHo hx hm k c.st.room]
    have ha:Fx.app 8 x.sent m.sent = some (x.sent ++ m.sent):=cZ (by omega) (by omega)
    have hw:IntKind.i64.wrap (x.steps + 1) = x.steps + 1:=w64 (by have:=h.2.1; omega)
    simp only [putS,ha,Option.bind_some,hw]
    rfl
theorem aE3:IntKind.i64.wrap ((x.sent.length:Int) - (m.sent.length:Int)) = (x.sent.length:Int) - (m.sent.length:Int):=by
  have hs:=hx.sent
  have hms:=hm.2.2.2
  exact w64 (by omega)
theorem aFf {γ:Type} (hl:m.sent.length ≤ x.sent.length):∃ t:Bool,(t = true ↔ x.sent.drop (x.sent.length - m.sent.length) = m.sent) ∧ (Fx.slc x.sent ((x.sent.length:Int) - (m.sent.length:Int)) (x.sent.length:Int)) = some (x.sent.drop (x.sent.length - m.sent.length)) ∧
    (bif !decide (((x.sent.drop (x.sent.length - m.sent.length)).length:Int) = (m.sent.length:Int)) then some (Sum.inl false) else Fx.seq (Fx.loop (fun v3032=>Sh.kF m (x.sent.drop (x.sent.length - m.sent.length)) v3032) 0) fun _=>Sh.rB) = some (Sum.inl t):=by
  have hs:=hx.sent
  have hms:=hm.2.2.2
  have hd:(x.sent.drop (x.sent.length - m.sent.length)).length = m.sent.length:=by simp; omega
  refine ⟨decide (x.sent.drop (x.sent.length - m.sent.length) = m.sent),decide_eq_true_iff,?_,?_⟩
  · unfold Fx.slc
    rw [if_pos (by omega),show ((x.sent.length:Int) - (m.sent.length:Int)).toNat = x.sent.length - m.sent.length by omega,Int.toNat_natCast,List.take_of_length_le (by rw [hd]; omega)]
  · generalize x.sent.drop (x.sent.length - m.sent.length) = d at *
    rw [decide_eq_true (by omega)]
    simp only [Bool.not_true,cond_false]
    obtain ⟨g,e,c⟩:=scan (body:=fun v3032=>Sh.kF m d v3032) (ok:=Sum.inl ()) (bad:=Sum.inr (Sum.inl false)) d.length (fun i=>∀ (h:i < d.length) (k:i < m.sent.length),d[i] = m.sent[i]) (by omega) (fun i hi=>by
      have hj:i < m.sent.length:=by omega
      simp only [Sh.kF,cC,hi,decide_true,cond_true,bN hi,bN hj,Option.bind_some]
      by_cases c:d[i] = m.sent[i]
      · exact .inl ⟨fun _ _=>c,by rw [decide_eq_true c]; rfl⟩
      · exact .inr ⟨fun h=>c (h trivial hj),by rw [decide_eq_false c]; rfl⟩) (by simp [Sh.kF])
    rw [e]
    rcases c with ⟨rfl,c⟩ | ⟨rfl,c⟩
    · have:d = m.sent:=by
        apply List.ext_getElem hd
        intro i h1 h2
        exact c i h1 h1 h2
      rw [decide_eq_true this]; rfl
    · have:¬ d = m.sent:=fun e=>c fun i hi h k=>by subst e; rfl
      rw [decide_eq_false this]; rfl
theorem aA2:Answers (Sh.eN x m) x m (CanU x m) (undone x m):=by
  obtain ⟨r1,r2,r3⟩:=aBs (x:=x) hm
  have hs:=hx.sent
  have hms:=hm.2.2.2
  have hw:=aE3 hx hm
  refine ⟨fun h=>?_,fun h k=>?_,fun h k c=>?_,fun h k c=>?_⟩
  · unfold Sh.eN; rw [r1 h]; rfl
  · unfold Sh.eN; rw [r2 h k]; rfl
  · unfold Sh.eN
    rw [r3 h k]
    simp only [Option.bind_some,decide_true,Bool.not_true,cond_false,uP hm,hw]
    by_cases c1:x.done = m.done
    case neg=>rw [decide_eq_false c1]; rfl
    rw [decide_eq_true c1]
    simp only [Bool.not_true,cond_false]
    by_cases c2:x.steps = 0
    · rw [decide_eq_true c2]; rfl
    rw [decide_eq_false c2]
    simp only [cond_false]
    by_cases c3:m.sent.length ≤ x.sent.length
    case neg=>rw [decide_eq_true (by omega)]; rfl
    rw [decide_eq_false (by omega)]
    simp only [cond_false]
    obtain ⟨t,ht,e1,e2⟩:=aFf (γ:=Unit) hx hm c3
    rw [e1]
    simp only [Option.bind_some]
    rw [e2]
    simp only [bB,Sh.nW]
    cases t
    case false=>rfl
    simp only [Bool.not_true,cond_false]
    have c5:¬ (Stand x (turn m) ∧ x.at_ = (turn m).at_):=fun e=>c ⟨c1,e.2,c2,e.1,c3,ht.1 rfl⟩
    rw [(xG hm.turn k.turn).false c5]; rfl
  · unfold Sh.eN
    rw [r3 h k]
    simp only [Option.bind_some,decide_true,Bool.not_true,cond_false,uP hm,hw]
    rw [decide_eq_true c.done,decide_eq_false c.steps,decide_eq_false (by have:=c.len; omega)]
    simp only [Bool.not_true,cond_false]
    obtain ⟨t,ht,e1,e2⟩:=aFf (γ:=Unit) hx hm c.len
    rw [e1]
    simp only [Option.bind_some]
    rw [e2,ht.2 c.sent]
    simp only [bB,Sh.nW,Bool.not_true,cond_false]
    have c5:Stand x (turn m) ∧ x.at_ = (turn m).at_:=⟨c.st,c.at_⟩
    rw [(xG hm.turn k.turn).true c5]
    simp only [Option.bind_some,Bool.not_true,bB,Sh.rA,cond_false,uP hm,zG hx hm.turn k.turn c.st.room,hw]
    have hl:=c.len
    have hsl:Fx.slc x.sent 0 ((x.sent.length:Int) - (m.sent.length:Int)) = some (x.sent.take (x.sent.length - m.sent.length)):=by
      unfold Fx.slc
      rw [if_pos (by omega),show ((x.sent.length:Int) - (m.sent.length:Int)).toNat = x.sent.length - m.sent.length by omega]
      simp
    have hw2:IntKind.i64.wrap (x.steps - 1) = x.steps - 1:=w64 (by have:=h.2.1; omega)
    simp only [putS,hsl,Option.bind_some,hw2,wG (l:=x.sent.take (x.sent.length - m.sent.length)) (by simp; omega)]
    rfl
theorem aEy (hb:∀ p ∈ m.pieces,p.old.length ≤ 1099511627776):Answers (Sh.iN x m) x m (CanU x m) (undone x m):=by
  have hs:=hx.sent
  have hms:=hm.2.2.2
  have hw:=aE3 hx hm
  have ep:=pS hm.1 hm.2.1 hm.2.2.1 hb
  have key:PlnM m → m.sent.length ≤ x.sent.length → ∃ t:Bool,(t = true ↔ x.sent.drop (x.sent.length - m.sent.length) = m.sent) ∧ (bif decide ((m.sent.length:Int) = 1) then (Fx.get x.sent ((x.sent.length:Int) - (m.sent.length:Int))).bind fun x216=>(Fx.get m.sent 0).bind fun x217=>some (Sum.inl (!decide (x216 = x217))) else some (Sum.inl false):Option (Bool ⊕ (QState × Int))) = some (Sum.inl (!t)):=by
    intro k hl
    have h1:=k.sent
    by_cases c:m.sent.length = 1
    · obtain ⟨s,hs'⟩:=List.length_eq_one_iff.1 c
      rw [decide_eq_true (by omega)]
      have hi:x.sent.length - 1 < x.sent.length:=by omega
      have e1:Fx.get x.sent ((x.sent.length:Int) - (m.sent.length:Int)) = some x.sent[x.sent.length - 1]:=by
        rw [show (x.sent.length:Int) - (m.sent.length:Int) = ((x.sent.length - 1:Nat):Int) by omega]; exact bN hi
      have e2:Fx.get m.sent 0 = some s:=by rw [hs']; rfl
      have e3:x.sent.drop (x.sent.length - m.sent.length) = [x.sent[x.sent.length - 1]]:=by
        rw [c,List.drop_eq_getElem_cons hi,List.drop_of_length_le (by omega)]
      refine ⟨decide (x.sent[x.sent.length - 1] = s),?_,?_⟩
      · rw [decide_eq_true_iff,e3,hs']; simp
      · rw [e1,e2]; rfl
    · have h0:m.sent = []:=List.eq_nil_of_length_eq_zero (by omega)
      refine ⟨true,?_,?_⟩
      · rw [h0]; simp
      · rw [decide_eq_false (by omega)]; rfl
  refine ⟨fun h=>?_,fun h k=>?_,fun h k c=>?_,fun h k c=>?_⟩
  · unfold Sh.iN; rw [(fA x).false h]; rfl
  · unfold Sh.iN; rw [(fA x).true h,Option.bind_some,ep,(nT hm).false k]; rfl
  · unfold Sh.iN
    rw [(fA x).true h,Option.bind_some,ep,(nT hm).true k]
    simp only [Option.bind_some,Bool.not_true,cond_false,hw]
    by_cases c0:x.at_ = m.next
    case neg=>rw [decide_eq_false c0]; rfl
    rw [decide_eq_true c0]
    simp only [Bool.not_true,cond_false]
    by_cases c1:x.done = m.done
    case neg=>rw [decide_eq_false c1]; rfl
    rw [decide_eq_true c1]
    simp only [Bool.not_true,cond_false]
    by_cases c2:x.steps = 0
    · rw [decide_eq_true c2]; rfl
    rw [decide_eq_false c2]
    simp only [cond_false]
    by_cases c4:Stand x (side m false)
    case neg=>rw [(nQ false hm k).false c4]; rfl
    rw [(nQ false hm k).true c4]
    simp only [Option.bind_some,Bool.not_true,cond_false]
    by_cases c3:m.sent.length ≤ x.sent.length
    case neg=>rw [decide_eq_true (by omega)]; rfl
    rw [decide_eq_false (by omega)]
    simp only [cond_false]
    obtain ⟨t,ht,e⟩:=key k c3
    rw [e]
    cases t
    case true=>exact (c ⟨c1,c0,c2,c4,c3,ht.1 rfl⟩).elim
    rfl
  · unfold Sh.iN
    rw [(fA x).true h,Option.bind_some,ep,(nT hm).true k]
    simp only [Option.bind_some,Bool.not_true,cond_false,hw]
    have c4:Stand x (side m false):=c.st
    rw [decide_eq_true c.at_,decide_eq_true c.done,decide_eq_false c.steps,(nQ false hm k).true c4,decide_eq_false (by have:=c.len; omega)]
    simp only [Option.bind_some,Bool.not_true,cond_false]
    obtain ⟨t,ht,e⟩:=key k c.len
    rw [e,ht.2 c.sent]
    simp only [Bool.not_true,bB,Sh.qS,cond_false,aHo hx hm k (aCy k c.st),hw]
    have hl:=c.len
    have hsl:Fx.slc x.sent 0 ((x.sent.length:Int) - (m.sent.length:Int)) = some (x.sent.take (x.sent.length - m.sent.length)):=by
      unfold Fx.slc
      rw [if_pos (by omega),show ((x.sent.length:Int) - (m.sent.length:Int)).toNat = x.sent.length - m.sent.length by omega]
      simp
    have hw2:IntKind.i64.wrap (x.steps - 1) = x.steps - 1:=w64 (by have:=h.2.1; omega)
    simp only [putS,hsl,Option.bind_some,hw2]
    rfl
end
theorem Answers.same {o o':Option (QState × Int)} {x:QState} {m:QMark} {C:Prop} {y:QState} (h:Answers o x m C y) (h':Answers o' x m C y):o = o' ∧ ((∃ e,o = some (noState,e) ∧ e ≠ 0) ∨ (o = some (y,0) ∧ PlainS x ∧ PlnM m ∧ C)):=by
  by_cases c1:PlainS x
  case neg=>rw [h.arg c1,h'.arg c1]; exact ⟨rfl,.inl ⟨1,rfl,by decide⟩⟩
  by_cases c2:PlnM m
  case neg=>rw [h.mark c1 c2,h'.mark c1 c2]; exact ⟨rfl,.inl ⟨230,rfl,by decide⟩⟩
  by_cases c3:C
  case neg=>rw [h.from_ c1 c2 c3,h'.from_ c1 c2 c3]; exact ⟨rfl,.inl ⟨231,rfl,by decide⟩⟩
  rw [h.ok c1 c2 c3,h'.ok c1 c2 c3]
  exact ⟨rfl,.inr ⟨rfl,c1,c2,c3⟩⟩
end Go.Sp
end
section
namespace Go.Sp
open Go Go.Fw Go.Fx Go.Proofs
theorem aGr (x:QState):0 < (mem x).length:=by simp [mem]
theorem aGv {M:List (List UInt8)} (h:0 < M.length):pk M 0 :: M.tail = M:=by
  cases M with
  | nil=>simp at h
  | cons a M=>rfl
section
variable {x:QState} {m:QMark} (hp:PlnM m)
include hp
theorem qF:∀ p ∈ m.pieces,p.new.length = wd p:=fun p h=>(hp.piece p h).eq
theorem oK (hr:∀ p ∈ m.pieces,RoomP (mem x) p):(putM x m).map List.length = (mem x).map List.length:=mO hr (qF hp)
theorem yS (hr:∀ p ∈ m.pieces,RoomP (mem x) p):0 < (putM x m).length:=by
  have:=congrArg List.length (oK hp hr)
  simp only [List.length_map] at this
  rw [this]; exact aGr x
theorem oD (hr:∀ p ∈ m.pieces,RoomP (mem x) p) (l:List Int) (a s:Int) (d:Bool):mem (putS x m l a s d) = putM x m:=aGv (yS hp hr)
theorem tV (hr:∀ p ∈ m.pieces,RoomP (mem x) p) (l:List Int) (a s:Int) (d:Bool):(putS x m l a s d).ctx.length = x.ctx.length ∧ (putS x m l a s d).tables.map List.length = x.tables.map List.length:=by
  have h:=oK hp hr
  rw [← oD hp hr l a s d] at h
  simp only [mem,List.map_cons,List.cons.injEq] at h
  exact h
theorem lV (hr:∀ p ∈ m.pieces,RoomP (mem x) p) (l:List Int) (a s:Int) (d:Bool) (h:SmallS x) (hl:l.length ≤ 1099511627776):SmallS (putS x m l a s d):=by
  obtain ⟨e1,e2⟩:=tV hp hr l a s d
  have e3:(putS x m l a s d).tables.length = x.tables.length:=by simpa using congrArg List.length e2
  refine ⟨by rw [e1]; exact h.ctx,by rw [e3]; exact h.tables,fun t ht=>?_,hl⟩
  have:t.length ∈ (putS x m l a s d).tables.map List.length:=List.mem_map_of_mem ht
  rw [e2] at this
  obtain ⟨u,hu,e⟩:=List.mem_map.1 this
  rw [← e]; exact h.each u hu
end
end Go.Sp
end
