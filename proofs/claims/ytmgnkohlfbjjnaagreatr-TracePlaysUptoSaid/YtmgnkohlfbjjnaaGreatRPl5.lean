/- Ground for this claim: The call of TracePlays returns true. Condition: the arguments are of bulk at most 1048576. -/
import Derived.Laws.MakeOwn
import Derived.RangeFuncRecord
import Derived.Test.YtmgnkohlfbjjnaaGreatRPl4
set_option linter.unusedVariables false
set_option linter.unusedSimpArgs false
section
namespace Go.Fx
open Go Go.Fw
def mk {X:Type} (bytes:Nat) (z:X) (n:Int):Option (List X):=if 0 ≤ n ∧ (bytes:Int) * n ≤ 281474976710656 ∧ n ≤ 4611686018427387904 then some (List.replicate n.toNat z) else none
end Go.Fx
end
section
namespace Go.Fx
open Go Go.Fw Go.Proofs
section
variable {X:Type}
noncomputable def rm (l:List X) (i j:Int) (sp:List X):Option (List X):=open Classical in if i = 0 ∧ 0 ≤ j ∧ l = l.take j.toNat ++ sp ∧ sp.length = 2 then some (l.take j.toNat) else none
theorem xW {l y sp:List X} {i j:Int} (h:rm l i j sp = some y):i = 0 ∧ j = (y.length:Int) ∧ l = y ++ sp ∧ sp.length = 2:=by
  unfold rm at h
  split at h
  · rename_i k
    obtain ⟨k1,k2,k3,k4⟩:=k
    cases h
    have hl:=congrArg List.length k3
    simp at hl
    exact ⟨k1,by simp; omega,k3,k4⟩
  · cases h
theorem uU {y sp:List X} (h:sp.length = 2):rm (y ++ sp) 0 (y.length:Int) sp = some y:=by
  unfold rm
  rw [if_pos ⟨rfl,by omega,by simp,h⟩]; simp
theorem lP {l y sp:List X} {i j:Int} (h:rm l i j sp = some y):Fx.slc l i j = some y:=by
  obtain ⟨rfl,rfl,rfl,h2⟩:=xW h
  unfold Fx.slc
  rw [if_pos (by simp; omega)]; simp
end
section
variable {X:Type} [Enc X]
def stretch (s:SV):SV:=⟨s.a,s.len + 2,s.cap⟩
structure RmOf (w:World) (s:SV) (l sp:List X):Prop where
  full:SliceOf 0 w (stretch s) (l ++ sp)
  two:sp.length = 2
theorem RmOf.sl {w:World} {s:SV} {l sp:List X} (h:RmOf w s l sp):SliceOf 0 w s l:=by
  obtain ⟨h,h2⟩:=h
  have h1:=h.len
  have h3:=h.room
  have h4:=h.cells
  simp only [stretch,List.length_append] at h1 h3 h4
  refine ⟨by omega,by omega,?_⟩
  obtain ⟨sa,sl,sc⟩:=s
  cases sa with
  | none=>have:=congrArg List.length h4.1; simp at this; omega
  | some ad =>
    obtain ⟨k1,k2,k3⟩:=h4
    refine ⟨.inr (k1.resolve_left fun k=>by rw [List.append_eq_nil_iff] at k; rw [k.2] at h2; cases h2),k2,fun j v hj=>k3 j v ?_⟩
    rw [eI,List.getElem?_append_left (List.getElem?_eq_some_iff.1 hj).1]
    exact hj
def LRm (L:World → Prop) (s:SV) (l sp:List X):Prop:=∀ w,L w → RmOf w s l sp
theorem LRm.mono {L L':World → Prop} {s:SV} {l sp:List X} (h:LRm L s l sp) (k:∀ w,L' w → L w):LRm L' s l sp:=fun w hM=>h w (k w hM)
theorem LRm.toIn {L:World → Prop} {s:SV} {l sp:List X} (h:LRm L s l sp):LIn L s l:=fun w hM=>(h w hM).sl
theorem LRm.full {L:World → Prop} {s:SV} {l sp:List X} (h:LRm L s l sp):LIn L (stretch s) (l ++ sp):=fun w hM=>(h w hM).full
theorem yV {s:SV} {n sz:Nat} (h:s.len = n + 2):stretch (s.cut 0 n sz) = s:=by
  obtain ⟨sa,sl,sc⟩:=s
  simp only at h
  subst h
  simp only [SV.cut,stretch,Nat.sub_zero,Nat.zero_mul]
  congr 1
  split
  · rfl
  · cases sa <;> simp [Addr.add]
theorem lO {s:SV} {e:Nat} {l y sp:List X} {i j:Int} {sz:Nat} (h:rm l i j sp = some y) (hsz:Enc.sz X = sz):LRm (rowL 0 s e l).holds' (s.cut i.toNat j.toNat sz) y sp:=by
  obtain ⟨rfl,rfl,rfl,h2⟩:=xW h
  intro w hw
  have hs:SliceOf 0 w s (y ++ sp):=dL hw
  have hl:=hs.len
  simp only [List.length_append] at hl
  refine ⟨?_,h2⟩
  rw [Int.toNat_zero,Int.toNat_natCast,yV (by omega)]
  exact hs
theorem aCl {Y:Type} {s:SV} {e:Nat} {hs hsp:List X} {xn l spl y sp:List Y} {i j:Int} {sz:Nat} (hl:hs.length = l.length) (ha:xn = l ++ spl) (h2:spl.length = 2) (h3:hsp.length = 2) (h:rm xn i j sp = some y) (hsz:Enc.sz X = sz) :
    y = l ∧ Fx.slc (hs ++ hsp) i j = some hs ∧ LRm (rowL 0 s e (hs ++ hsp)).holds' (s.cut i.toNat j.toNat sz) hs hsp:=by
  obtain ⟨rfl,rfl,h5,h6⟩:=xW h
  rw [ha] at h5
  have hy:y = l:=by
    have:=congrArg List.length h5
    simp at this
    exact (List.append_inj h5 (by omega)).1.symm
  subst hy
  have hr:rm (hs ++ hsp) 0 (y.length:Int) hsp = some hs:=by rw [← hl]; exact uU h3
  exact ⟨rfl,lP hr,lO hr hsz⟩
end
def spU8:List UInt8:=[161,162]
def spInt:List Int:=[-7,-8]
def spTurn:List LTurn:=[⟨-7,LVal.zero,LVal.zero⟩,⟨-8,LVal.zero,LVal.zero⟩]
def spCell:List LCell:=[⟨-7,LSlot.zero,LSlot.zero⟩,⟨-8,LSlot.zero,LSlot.zero⟩]
def spPiece:List QPiece:=[⟨0,-7,[],[]⟩,⟨0,-8,[],[]⟩]
def hspPiece:List RPiece:=[⟨0,-7,SV.nil,SV.nil⟩,⟨0,-8,SV.nil,SV.nil⟩]
def spMark:List QMark:=[⟨-7,0,false,[],[],[],[]⟩,⟨-8,0,false,[],[],[],[]⟩]
def hspMark:List RMark:=[⟨-7,0,false,SV.nil,SV.nil,SV.nil,SV.nil⟩,⟨-8,0,false,SV.nil,SV.nil,SV.nil,SV.nil⟩]
def BytesRm (L:World → Prop) (s:SV) (l:List UInt8):Prop:=LRm L s l spU8
theorem BytesRm.mono {L L':World → Prop} {s:SV} {l:List UInt8} (h:BytesRm L s l) (k:∀ w,L' w → L w):BytesRm L' s l:=LRm.mono h k
theorem BytesRm.toIn {L:World → Prop} {s:SV} {l:List UInt8} (h:BytesRm L s l):LIn L s l:=LRm.toIn h
def QPieceRm (L:World → Prop) (x:RPiece) (p:QPiece):Prop:=∃ (s_old:SV) (s_new:SV),x = (RPiece.mk p.table p.from_ s_old s_new) ∧ LRm L s_old p.old spU8 ∧ LRm L s_new p.new spU8
theorem QPieceRm.mono {L L':World → Prop} {x:RPiece} {p:QPiece} (h:QPieceRm L x p) (k:∀ w,L' w → L w):QPieceRm L' x p:=by
  obtain ⟨s_old,s_new,e,h0,h1⟩:=h
  exact ⟨s_old,s_new,e,h0.mono k,h1.mono k⟩
theorem QPieceRm.toIn {L:World → Prop} {x:RPiece} {p:QPiece} (h:QPieceRm L x p):QPieceIn L x p:=by
  obtain ⟨s_old,s_new,e,h0,h1⟩:=h
  exact ⟨s_old,s_new,e,h0.toIn,h1.toIn⟩
def QMarkRm (L:World → Prop) (x:RMark) (p:QMark):Prop:=∃ (s_regs:SV) (s_slots:SV) (s_pieces:SV) (h_pieces:List RPiece) (s_sent:SV),x = (RMark.mk p.at_ p.next p.done s_regs s_slots s_pieces s_sent) ∧ LRm L s_regs p.regs spTurn ∧ LRm L s_slots p.slots spCell ∧ LRm L s_pieces h_pieces hspPiece ∧ Each (QPieceRm L) h_pieces p.pieces ∧ LRm L s_sent p.sent spInt
theorem QMarkRm.mono {L L':World → Prop} {x:RMark} {p:QMark} (h:QMarkRm L x p) (k:∀ w,L' w → L w):QMarkRm L' x p:=by
  obtain ⟨s_regs,s_slots,s_pieces,h_pieces,s_sent,e,h0,h1,h2,h3,h4⟩:=h
  exact ⟨s_regs,s_slots,s_pieces,h_pieces,s_sent,e,h0.mono k,h1.mono k,h2.mono k,h3.mono fun _ _ q=>q.mono k,h4.mono k⟩
theorem QMarkRm.toIn {L:World → Prop} {x:RMark} {p:QMark} (h:QMarkRm L x p):QMarkIn L x p:=by
  obtain ⟨s_regs,s_slots,s_pieces,h_pieces,s_sent,e,h0,h1,h2,h3,h4⟩:=h
  exact ⟨s_regs,s_slots,s_pieces,h_pieces,s_sent,e,h0.toIn,h1.toIn,h2.toIn,h3.mono fun _ _ q=>q.toIn,h4.toIn⟩
theorem mT {L:World → Prop} {hs:List RPiece} {l:List QPiece} (h:Each (QPieceRm L) hs l):Each (QPieceIn L) (hs ++ hspPiece) (l ++ spPiece) :=
  (h.mono fun _ _ q=>q.toIn).append ((Each.nil.snoc (R:=QPieceIn L) (x:=RPiece.mk 0 (-7) SV.nil SV.nil) (y:=QPiece.mk 0 (-7) [] []) ⟨SV.nil,SV.nil,rfl,LIn.nil,LIn.nil⟩).snoc (x:=RPiece.mk 0 (-8) SV.nil SV.nil) (y:=QPiece.mk 0 (-8) [] []) ⟨SV.nil,SV.nil,rfl,LIn.nil,LIn.nil⟩)
theorem oL {L:World → Prop} {hs:List RMark} {l:List QMark} (h:Each (QMarkRm L) hs l):Each (QMarkIn L) (hs ++ hspMark) (l ++ spMark) :=
  (h.mono fun _ _ q=>q.toIn).append ((Each.nil.snoc (R:=QMarkIn L) (x:=RMark.mk (-7) 0 false SV.nil SV.nil SV.nil SV.nil) (y:=QMark.mk (-7) 0 false [] [] [] []) ⟨SV.nil,SV.nil,SV.nil,[],SV.nil,rfl,LIn.nil,LIn.nil,LIn.nil,Each.nil,LIn.nil⟩).snoc (x:=RMark.mk (-8) 0 false SV.nil SV.nil SV.nil SV.nil) (y:=QMark.mk (-8) 0 false [] [] [] []) ⟨SV.nil,SV.nil,SV.nil,[],SV.nil,rfl,LIn.nil,LIn.nil,LIn.nil,Each.nil,LIn.nil⟩)
section
variable {P:Program} {n:Nat} {F:List (Nat × Value)} {a:Act} {dd:List Deferred} {w:World} {o:Oper}
theorem oT {X:Type} [Enc X] {t e:TypeId} {x y:Operand} {s:SV} {l sp:List X} {w1:World} {ti:TypeInfo} {k:IntKind} {z:Int} (hs:RmOf w1 s l sp) (ht:P.underlying t = some (.slice e)) (hi:P.info? e = some ti) (hF:Fr n F a dd) (ho:o.op = .slice t x none (some y) none)
    (hx:ev F x = some s.v) (hy:ev F y = some (.int k z)) (hz:decide (z = (l.length:Int) + 2) = true):(execOp a.eval o).run P w = .ok (.value (stretch s).v) w:=by
  have hz:=of_decide_eq_true hz
  have h1:=hs.sl.len
  have h2:=hs.full.room
  obtain ⟨sa,sl,sc⟩:=s
  simp only [stretch] at h1 h2
  subst hz
  have h3:((l.length:Int) + 2) = ((sl + 2:Nat):Int):=by omega
  rw [h3] at hy
  have eb:∀ (v:Value) (k:IntKind) (q c:Nat) (bc:BoundsCode),v = .int k (q:Nat) → q ≤ c → (Instr.sliceBound v c bc).run P w = .ok q w:=by
    intro v k q c bc hv hq
    subst hv
    have hq':(0:Int) ≤ (q:Int) ∧ (q:Int) ≤ (c:Int):=by omega
    simp only [Instr.sliceBound,asIntOf,Sem.run_bind,Sem.run_pure,Result.andThen_ok,if_pos hq',Int.toNat_natCast]
  have e2:(Instr.sliceBounds true sl sc none (some (a.eval y)) none).run P w = .ok (0,sl + 2,sc) w:=by
    simp only [Instr.sliceBounds,hF.eval hy,eb _ k (sl + 2) sc _ rfl h2,Sem.run_bind,Sem.run_pure,Result.andThen_ok]
  have e3:(Instr.sliceAt t (.slice sa sl sc) none (some (a.eval y)) none).run P w = .ok (SV.v ⟨sa,sl + 2,sc⟩) w:=by
    have hc:¬ sc = 0:=by omega
    simp [Instr.sliceAt,Instr.slice,run_underlying ht,e2,sizeOf,typeInfo,hi,SV.v,hc]
    cases sa <;> simp [hc,Addr.add]
  simp only [execOp,ho,hF.eval hx,SV.v,Option.map_none,Option.map_some,Sem.run_bind,Result.andThen_ok,Sem.run_pure,stretch] at e3 ⊢
  simp only [e3,Result.andThen_ok]
end
end Go.Fx
end
section
namespace Go.Fx
open Go Go.Fw
def ApartR (r s:Res):Prop:=∀ k,r.fp k → ¬ s.fp k
theorem ApartR.symm {r s:Res} (h:ApartR r s):ApartR s r:=fun k h1 h2=>h k h2 h1
theorem iU {w:World} {L:List Res}:MemL w L ↔ (∀ r ∈ L,r.holds w) ∧ L.Pairwise ApartR:=by
  constructor
  · intro h
    refine ⟨fun r hr=>?_,?_⟩
    · obtain ⟨i,hi⟩:=List.mem_iff_getElem?.1 hr; exact h.hold i r hi
    · rw [List.pairwise_iff_getElem]
      intro i j hi hj hij
      exact h.apart i j _ _ (List.getElem?_eq_getElem hi) (List.getElem?_eq_getElem hj) (by omega)
  · rintro ⟨h1,h2⟩
    rw [List.pairwise_iff_getElem] at h2
    refine ⟨fun i r hi=>h1 r (List.mem_of_getElem? hi),fun i j r s hi hj hij=>?_⟩
    obtain ⟨a,rfl⟩:=List.getElem?_eq_some_iff.1 hi
    obtain ⟨b,rfl⟩:=List.getElem?_eq_some_iff.1 hj
    rcases Nat.lt_or_gt_of_ne hij with h | h
    · exact h2 i j a b h
    · exact ApartR.symm (h2 j i b a h)
theorem permM {w:World} {L L':List Res} (h:MemL w L) (p:L.Perm L'):MemL w L':=by
  rw [iU] at h ⊢
  exact ⟨fun r hr=>h.1 r (p.mem_iff.2 hr),(p.pairwise_iff ApartR.symm).1 h.2⟩
abbrev manyR (p:Prop) (A:List Res):Res:=.gen (fun k=>∃ r ∈ A,r.fp k) (fun w=>p ∧ MemL w A)
section
variable {w w':World} {A L:List Res} {p:Prop}
theorem movedM (h:MemL w A) (hio:Io w w') (hs:w.heap.size ≤ w'.heap.size) (hk:∀ k,(∃ r ∈ A,r.fp k) → w'.heap[k]? = w.heap[k]?):MemL w' A :=
  ⟨fun i r hi=>Res.keep (h.hold i r hi) hio hs fun k hf=>hk k ⟨r,List.mem_of_getElem? hi,hf⟩,h.apart⟩
theorem uA (hp:p) (h:MemL w A):(manyR p A).holds w:=by
  rw [iU] at h
  exact ⟨fun k ⟨r,hr,hf⟩=>Res.fp_lt (h.1 r hr) hf,fun w' a b c=>⟨hp,movedM (iU.2 h) a b c⟩⟩
theorem lA (h:(manyR p A).holds w):p ∧ MemL w A:=h.2 w (Io.refl w) (Nat.le_refl _) fun _ _=>rfl
theorem packM (hp:p) (h:MemL w (A ++ L)):MemL w (manyR p A :: L):=by
  rw [iU,List.pairwise_append] at h
  obtain ⟨h1,h2,h3,h4⟩:=h
  rw [iU,List.pairwise_cons]
  refine ⟨fun r hr=>?_,fun s hs k ⟨r,hr,hf⟩ hf'=>h4 r hr s hs k hf hf',h3⟩
  rcases List.mem_cons.1 hr with rfl | hr
  · exact uA hp (iU.2 ⟨fun r hr=>h1 r (List.mem_append_left _ hr),h2⟩)
  · exact h1 r (List.mem_append_right _ hr)
theorem unpackM (h:MemL w (manyR p A :: L)):p ∧ MemL w (A ++ L):=by
  obtain ⟨hp,hA⟩:=lA (h.hold 0 _ rfl)
  rw [iU] at h hA
  rw [List.pairwise_cons] at h
  rw [iU,List.pairwise_append]
  refine ⟨hp,fun r hr=>?_,hA.2,h.2.2,fun r hr s hs k hf hf'=>h.2.1 s hs k ⟨r,hr,hf⟩ hf'⟩
  rcases List.mem_append.1 hr with hr | hr
  · exact hA.1 r hr
  · exact h.1 r (List.mem_cons_of_mem _ hr)
end
def rowsR (hs:List SV) (ls:List (List UInt8)):List Res:=List.zipWith (fun h l=>rowL 0 h 5 l) hs ls
def packR (hs:List SV) (ls:List (List UInt8)):Res:=manyR (hs.length = ls.length) (rowsR hs ls)
def pk (ls:List (List UInt8)) (k:Nat):List UInt8:=ls.getD k []
section
variable {w w':World} {L:List Res} {hs:List SV} {ls m:List (List UInt8)} {h s:SV} {l:List UInt8}
theorem zO (q:(packR hs ls).holds' w):hs.length = ls.length:=(lA q).1
theorem zY {k:Nat} (h1:hs[k]? = some h) (h2:ls[k]? = some l):(rowsR hs ls)[k]? = some (rowL 0 h 5 l):=by
  unfold rowsR; rw [List.getElem?_zipWith,h1,h2]
theorem qO {k:Nat} (q:(packR hs ls).holds' w) (hk:hs[k]? = some h):ls[k]? = some (pk ls k) ∧ Own 0 w 5 h (pk ls k):=by
  have hl:=zO q
  have:k < ls.length:=by rw [← hl]; exact (List.getElem?_eq_some_iff.1 hk).1
  have e:ls[k]? = some (pk ls k):=by simp [pk,this]
  exact ⟨e,(lA q).2.hold k _ (zY hk e)⟩
theorem xO {k:Nat} (q:(packR hs ls).holds' w) (hk:hs[k]? = some h):SliceOf 0 w h (pk ls k):=Own.slice (qO q hk).2
theorem mA (e:hs.length = ls.length):Each (LIn (X:=UInt8) (packR hs ls).holds') hs ls:=by
  refine ⟨e,fun i x y hx hy w q=>?_⟩
  have:=xO q hx
  rwa [show pk ls i = y by simp [pk,hy]] at this
theorem uH (h:MemL w L):MemL w (packR [] [] :: L):=packM (A:=rowsR [] []) rfl h
theorem rJ (q:MemL w (packR hs ls :: rowL 0 h 5 l :: L)) (e:m = ls ++ [l]):MemL w (packR (hs ++ [h]) m :: L):=by
  subst e
  obtain ⟨h1,h2⟩:=unpackM q
  refine packM (by simp [h1]) ?_
  have e:rowsR (hs ++ [h]) (ls ++ [l]) = rowsR hs ls ++ [rowL 0 h 5 l]:=by unfold rowsR; rw [List.zipWith_append h1]; rfl
  rw [e]; simpa using h2
theorem wE (q:MemL w (packR hs ls :: rowL 0 h 5 l :: L)):MemL w (packR (h :: hs) (l :: ls) :: L):=by
  obtain ⟨h1,h2⟩:=unpackM q
  refine packM (by simp [h1]) ?_
  exact permM h2 List.perm_middle
theorem uI (q:MemL w (packR (h :: hs) ls :: L)):MemL w (rowL 0 h 5 (pk ls 0) :: packR hs ls.tail :: L) ∧ hs.length = ls.tail.length:=by
  obtain ⟨h1,h2⟩:=unpackM q
  cases ls with
  | nil=>simp at h1
  | cons l ls =>
    have e:hs.length = ls.length:=by simpa using h1
    refine ⟨?_,e⟩
    have h3:MemL w (rowL 0 h 5 l :: (rowsR hs ls ++ L)):=h2
    have h4:MemL w (rowsR hs ls ++ (rowL 0 h 5 l :: L)):=permM h3 List.perm_middle.symm
    exact permM (packM e h4) (List.Perm.swap _ _ _)
theorem zP {k:Nat} {l':List UInt8} (q:(packR hs ls).holds' w) (hk:hs[k]? = some h) (hU:Upd (rowL 0 h 5 (pk ls k)) (rowL 0 h 5 l') w w'):Upd (packR hs ls) (packR hs (ls.set k l')) w w':=by
  obtain ⟨e,ho⟩:=qO q hk
  have hr:=zY hk e
  have hin:rowL 0 h 5 (pk ls k) ∈ rowsR hs ls:=List.mem_of_getElem? hr
  have hlt:k < ls.length:=(List.getElem?_eq_some_iff.1 e).1
  have es:rowsR hs (ls.set k l') = (rowsR hs ls).set k (rowL 0 h 5 l'):=by
    unfold rowsR
    apply List.ext_getElem?
    intro j
    rw [List.getElem?_zipWith,List.getElem?_set,List.getElem?_set,List.getElem?_zipWith]
    by_cases hj:k = j
    · subst hj
      rw [if_pos rfl,if_pos rfl,if_pos hlt,if_pos (by rw [List.length_zipWith]; have:=(List.getElem?_eq_some_iff.1 hk).1; omega),hk]
    · rw [if_neg hj,if_neg hj]
  obtain ⟨h1,h2⟩:=lA q
  refine ⟨hU.io,hU.size,fun j hj hf=>hU.block j hj fun hf'=>hf ⟨_,hin,hf'⟩,?_,?_⟩
  · refine uA (by rw [List.length_set]; exact h1) ?_
    rw [es]
    exact h2.chg hU hr
  · rintro j ⟨r,hr',hf⟩
    rw [es] at hr'
    rcases List.mem_or_eq_of_mem_set hr' with hr' | rfl
    · exact .inl ⟨r,hr',hf⟩
    · rcases hU.fp j hf with h | h
      · exact .inl ⟨_,hin,h⟩
      · exact .inr h
theorem aAi {A B:Type} {h:A} {hs:List A} {ls:List B} (e:(h :: hs).length = ls.length):hs.length = ls.tail.length:=by
  rw [List.length_tail,← e]; rfl
theorem aCn {A B:Type} {hs:List A} {ls:List B} {k:Nat} {x:B} (e:hs.length = ls.length):hs.length = (ls.set k x).length:=by rw [List.length_set]; exact e
theorem wF {i:Int} {x:List UInt8} (hl:(h :: hs).length = ls.length) (hx:Fx.get ls.tail i = some x):(0 ≤ i ∧ i < (hs.length:Int)) ∧ ∃ y,hs[i.toNat]? = some y ∧ (h :: hs)[i.toNat + 1]? = some y:=by
  obtain ⟨h0,h1⟩:=aM hx
  have h2:=(List.getElem?_eq_some_iff.1 h1).1
  have e:hs.length = ls.tail.length:=aAi hl
  have h3:i.toNat < hs.length:=by omega
  exact ⟨by omega,hs[i.toNat],List.getElem?_eq_getElem h3,by simp [h3]⟩
def MixP (B:World → Prop) (n:Nat) (hs:List SV) (ls:List (List UInt8)):Prop:=hs.length = ls.length ∧ ∀ i x y,n ≤ i → hs[i]? = some x → ls[i]? = some y → LIn B x y
theorem aI7 {B:World → Prop} (q:Each (LIn (X:=UInt8) B) hs ls):MixP B 0 hs ls:=⟨q.len,fun i x y _ hx hy=>q.at_ i x y hx hy⟩
theorem zH {B:World → Prop} {n:Nat} {i:Int} {x:List UInt8} (q:MixP B n hs ls) (hx:Fx.get ls i = some x):(0 ≤ i ∧ i < (hs.length:Int)) ∧ ∃ y,hs[i.toNat]? = some y ∧ (n ≤ i.toNat → LIn B y x):=by
  obtain ⟨h0,h1⟩:=aM hx
  have h2:=(List.getElem?_eq_some_iff.1 h1).1
  have h3:i.toNat < hs.length:=by rw [q.1]; exact h2
  exact ⟨by omega,hs[i.toNat],List.getElem?_eq_getElem h3,fun hn=>q.2 _ _ _ hn (List.getElem?_eq_getElem h3) h1⟩
theorem aDm {B:World → Prop} {n:Nat} {i:Int} {x:List UInt8} (q:MixP B n hs ls) (hx:Fx.get ls i = some x) (hi:i.toNat = n):MixP B (n + 1) (hs.set i.toNat h) ls :=
  ⟨by rw [List.length_set]; exact q.1,fun j a b hj ha hb=>by
    rw [List.getElem?_set] at ha
    rw [if_neg (by omega)] at ha
    exact q.2 j a b (by omega) ha hb⟩
theorem aFh {B:World → Prop} {n:Nat} {i:Int} {x:List UInt8} (q:MixP B n hs ls) (hx:Fx.get ls i = some x) (hi:i.toNat = n) (hM:MemL w (packR (hs.take n) (ls.take n) :: rowL 0 h 5 x :: L)) :
    MemL w (packR ((hs.set i.toNat h).take (n + 1)) (ls.take (n + 1)) :: L):=by
  subst hi
  obtain ⟨h0,h1⟩:=aM hx
  have h2:=(List.getElem?_eq_some_iff.1 h1).1
  have h3:i.toNat < hs.length:=by rw [q.1]; exact h2
  have e1:(hs.set i.toNat h).take (i.toNat + 1) = hs.take i.toNat ++ [h]:=by
    rw [List.take_add_one]
    rw [List.getElem?_set,if_pos rfl,if_pos h3]
    congr 1
    rw [List.take_set_of_le (Nat.le_refl _)]
  rw [e1]
  refine rJ hM ?_
  rw [List.take_add_one,h1]; rfl
theorem aFg {B:World → Prop} {n:Nat} (q:MixP B n hs ls) (hn:ls.length ≤ n) (hM:MemL w (packR (hs.take n) (ls.take n) :: L)):MemL w (packR hs ls :: L):=by
  rwa [List.take_of_length_le (by rw [q.1]; exact hn),List.take_of_length_le hn] at hM
end
def cpa {X:Type} (l:List X) (i:Int) (m:List X):Option (List X):=if 0 ≤ i ∧ i.toNat + m.length ≤ l.length then some (put l i.toNat m) else none
theorem aEg {X:Type} {l m r:List X} {i:Int} (h:cpa l i m = some r):(0 ≤ i ∧ i.toNat + m.length ≤ l.length) ∧ r = put l i.toNat m:=by
  unfold cpa at h
  split at h
  · cases h; exact ⟨by assumption,rfl⟩
  · cases h
section
variable {P:Program} {n:Nat} {F:List (Nat × Value)} {a:Act} {dd:List Deferred} {w:World} {o:Oper} {J:Value → World → Prop}
theorem aIm {t dT lo' k:Nat} {s sx:SV} {hs:List SV} {ls:List (List UInt8)} {xs r:List UInt8} {i j:Int} {sz:Nat} {ti:TypeInfo} {x y:Operand} (hr:Fx.cpa (pk ls k) i xs = some r) (hj:j = ((pk ls k).length:Int)) (ht:P.underlying dT = some (.slice 5)) (hi:P.info? 5 = some ti) (hs1:ti.size = 1) (hsz:sz = 1)
    (hF:Fr n F a dd) (ho:o.op = .call { callee:=.builtin .copy,args:=#[x,y],argTypes:=#[dT,t] }) (hx:ev F x = some (s.cut i.toNat j.toNat sz).v) (hy:ev F y = some sx.v)
    (q:(packR hs ls).holds' w) (hk:hs[k]? = some s) (hsx:SliceOf lo' w sx xs)
    (next:∀ w',Upd (packR hs ls) (packR hs (ls.set k r)) w w' → J (.int .i64 (xs.length:Nat)) w'):Yd P o a.eval w J:=by
  obtain ⟨h1,rfl⟩:=aEg hr
  subst hj hsz
  exact wT (ty:=0) (i:=i.toNat) (l:=pk ls k) ht hi hs1 rfl hF ho hx hy (qO q hk).2 hsx h1.2 fun w' hU=>next w' (zP q hk hU)
theorem aGo {t k off:Nat} {i:Int} {x y:Operand} {s:SV} {hs:List SV} {ls:List (List UInt8)} {p u:UInt8} (hsz:∀ w,(sizeOf t).run P w = .ok 1 w) (q:(packR hs ls).holds' w) (hk:hs[k]? = some s) (hp:(pk ls k)[i.toNat]? = some p) (hF:Fr n F a dd) (ho:o.op = .store t x y)
    (hx:ev F x = some (.pointer (some ⟨s.blk,off,none⟩))) (hoff:off = s.off + (i.toNat * 1 + 0)) (hy:ev F y = some (.int .u8 (u.toNat:Int)))
    (next:∀ w',Upd (packR hs ls) (packR hs (ls.set k ((pk ls k).set i.toNat u))) w w' → J undef w'):Yd P o a.eval w J :=
  eN (X:=UInt8) (d:=0) (q:=u) hsz (qO q hk).2 hp hF ho hx hoff hy rfl (by decide) rfl fun w' hU=>next w' (zP q hk hU)
end
end Go.Fx
end
section
namespace Go.Fx
open Go Go.Fw Go.Proofs
def Soft (f:Nat → Prop) (w:World):Prop:=∀ k,f k → ∃ cs T,w.heap[k]? = some (.cells cs T (0,0))
structure SRes where
  f:Nat → Prop
  Q:World → Prop
def SRes.r (x:SRes):Res:=.gen x.f (fun w=>x.Q w ∧ Soft x.f w)
class SoftR (r:Res):Prop where
  soft:∀ w,r.holds w → Soft r.fp w
instance {lo e sz n:Nat} {v:Value} {xs:List Value}:SoftR (.row lo v e sz n xs) where
  soft:=fun w h k hk=>by
    rcases h.2 with ⟨h1,h2⟩ | ⟨g,cap,cur,h1,h3,h4,h5⟩
    · rw [h1] at hk; simp [Res.fp,Value.ownBlock] at hk
    · rw [h1] at hk
      simp only [Res.fp,Value.ownBlock,Option.some.injEq] at hk
      subst hk
      exact ⟨cur,e,h4⟩
instance {b T:Nat} {cs:Array Value}:SoftR (.obj b (.cells cs T (0,0))) where
  soft:=fun w h k hk=>by
    simp only [Res.fp] at hk
    subst hk
    exact ⟨cs,T,h⟩
theorem SRes.now {x:SRes} {w:World} (h:x.r.holds w):x.Q w ∧ Soft x.f w:=h.2 w (Io.refl w) (Nat.le_refl _) fun _ _=>rfl
instance (x:SRes):SoftR x.r where
  soft:=fun w h=>(SRes.now h).2
instance {hs:List SV} {ls:List (List UInt8)}:SoftR (packR hs ls) where
  soft:=fun w h k hk=>by
    obtain ⟨r,hr,hf⟩:=hk
    have hM:=(iU.1 (lA h).2).1 r hr
    obtain ⟨i,hi⟩:=List.mem_iff_getElem?.1 hr
    unfold rowsR at hi
    rw [List.getElem?_zipWith] at hi
    split at hi
    · cases hi
      exact SoftR.soft (r:=Res.row _ _ _ _ _ _) w hM k hf
    · cases hi
section
variable {w:World} {L:List Res}
theorem joinS {r s:Res} [SoftR r] [SoftR s] (h:MemL w (r :: s :: L)):∃ q:SRes,(∀ w,q.r.holds' w → r.holds' w) ∧ (∀ w,q.r.holds' w → s.holds' w) ∧ MemL w (q.r :: L) :=
  ⟨⟨fun k=>r.fp k ∨ s.fp k,fun w=>r.holds' w ∧ s.holds' w⟩,fun w h=>(SRes.now h).1.1,fun w h=>(SRes.now h).1.2,
    h.both.weak fun w hq=>⟨hq,fun k hk=>hk.elim (SoftR.soft w hq.1 k) (SoftR.soft w hq.2 k)⟩⟩
theorem voidS (h:MemL w L):∃ q:SRes,MemL w (q.r :: L) :=
  ⟨⟨fun _=>False,fun _=>True⟩,h.void (Q:=fun w=>True ∧ Soft (fun _=>False) w) fun w=>⟨trivial,fun _ hk=>hk.elim⟩⟩
theorem oneS {r:Res} [SoftR r] (h:MemL w (r :: L)):∃ q:SRes,(∀ w,q.r.holds' w → r.holds' w) ∧ MemL w (q.r :: L) :=
  ⟨⟨r.fp,r.holds'⟩,fun w h=>(SRes.now h).1,h.freeze.weak fun w hq=>⟨hq,SoftR.soft w hq⟩⟩
end
def Like (u v:Value):Prop:=u = v ∨ (∃ i j,u = .int .i64 i ∧ v = .int .i64 j) ∨ ∃ a b:UInt8,u = .int .u8 (a.toNat:Int) ∧ v = .int .u8 (b.toNat:Int)
theorem Like.refl (u:Value):Like u u:=.inl rfl
theorem Like.trans {u v x:Value} (h:Like u v) (k:Like v x):Like u x:=by
  rcases h with rfl | ⟨i,j,rfl,rfl⟩ | ⟨a,b,rfl,rfl⟩
  · exact k
  · rcases k with rfl | ⟨i',j',_,rfl⟩ | ⟨a,b,h,_⟩
    · exact .inr (.inl ⟨_,_,rfl,rfl⟩)
    · exact .inr (.inl ⟨_,_,rfl,rfl⟩)
    · cases h
  · rcases k with rfl | ⟨i',j',h,_⟩ | ⟨a',b',_,rfl⟩
    · exact .inr (.inr ⟨_,_,rfl,rfl⟩)
    · cases h
    · exact .inr (.inr ⟨_,_,rfl,rfl⟩)
theorem Like.i64 {i:Int} {u:Value} (h:Like (.int .i64 i) u):∃ j,u = .int .i64 j:=by
  rcases h with rfl | ⟨_,j,_,rfl⟩ | ⟨a,b,h,_⟩
  · exact ⟨_,rfl⟩
  · exact ⟨_,rfl⟩
  · cases h
theorem Like.u8 {a:UInt8} {u:Value} (h:Like (.int .u8 (a.toNat:Int)) u):∃ b:UInt8,u = .int .u8 (b.toNat:Int):=by
  rcases h with rfl | ⟨_,j,h,_⟩ | ⟨_,b,_,rfl⟩
  · exact ⟨_,rfl⟩
  · cases h
  · exact ⟨_,rfl⟩
theorem Like.slice {a:Option Addr} {n c:Nat} {u:Value} (h:Like (.slice a n c) u):u = .slice a n c:=by
  rcases h with rfl | ⟨_,j,h,_⟩ | ⟨_,b,h,_⟩
  · rfl
  · cases h
  · cases h
theorem Like.bool {b:Bool} {u:Value} (h:Like (.bool b) u):u = .bool b:=by
  rcases h with rfl | ⟨_,j,h,_⟩ | ⟨_,b,h,_⟩
  · rfl
  · cases h
  · cases h
theorem Like.ints (i j:Int):Like (.int .i64 i) (.int .i64 j):=.inr (.inl ⟨_,_,rfl,rfl⟩)
theorem Like.bytes (a b:UInt8):Like (.int .u8 (a.toNat:Int)) (.int .u8 (b.toNat:Int)):=.inr (.inr ⟨_,_,rfl,rfl⟩)
def spR (x:SRes) (w0:World):Res:=.gen x.f fun w=>∀ k,x.f k → ∃ cs cs' T,w0.heap[k]? = some (.cells cs T (0,0)) ∧ w.heap[k]? = some (.cells cs' T (0,0)) ∧ cs'.size = cs.size ∧ ∀ (i:Nat) u,cs[i]? = some u → ∃ v,cs'[i]? = some v ∧ Like u v
section
variable {x:SRes} {w0 w:World} {L:List Res}
theorem aF9 (h:MemL w (x.r :: L)):MemL w (spR x w :: L):=by
  have h0:=h.hold 0 _ rfl
  have hs:=(SRes.now h0).2
  refine h.upd 0 rfl (Io.refl w) (Nat.le_refl _) (fun _ _ _=>rfl) (r':=spR x w) ⟨h0.1,fun w' _ _ hk k hf=>?_⟩ fun k hk=>.inl hk
  obtain ⟨cs,T,e⟩:=hs k hf
  exact ⟨cs,cs,T,e,(hk k hf).trans e,rfl,fun i u hu=>⟨u,hu,.refl u⟩⟩
theorem aBt (h:(spR x w0).holds w):∀ k,x.f k → ∃ cs cs' T,w0.heap[k]? = some (.cells cs T (0,0)) ∧ w.heap[k]? = some (.cells cs' T (0,0)) ∧ cs'.size = cs.size ∧ ∀ (i:Nat) u,cs[i]? = some u → ∃ v,cs'[i]? = some v ∧ Like u v :=
  h.2 w (Io.refl w) (Nat.le_refl _) fun _ _=>rfl
theorem aIv {b o:Nat} {v:Value} (hc:∀ w,x.r.holds' w → w.cell? ⟨b,o,none⟩ = some v) (h0:x.r.holds' w0):x.f b:=by
  apply Classical.byContradiction
  intro hn
  have hb:b < w0.heap.size:=by
    have:=hc w0 h0
    apply Classical.byContradiction
    intro hge
    rw [World.cell?,Array.getElem?_eq_none (by show w0.heap.size ≤ b; omega)] at this
    cases this
  have hk:x.r.holds' { w0 with heap:=w0.heap.set b (.cells #[] 0 (0,0)) hb }:=by
    refine Res.keep h0 ⟨rfl,rfl,rfl⟩ (by simp) fun k hf=>?_
    have:b ≠ k:=fun e=>hn (by rw [e]; exact hf)
    simp [Array.getElem?_set,this]
  have:=hc _ hk
  simp [World.cell?] at this
theorem jC {b o:Nat} {v:Value} (hc:∀ w,x.r.holds' w → w.cell? ⟨b,o,none⟩ = some v) (h0:x.r.holds' w0) (hw:(spR x w0).holds w):∃ u,w.cell? ⟨b,o,none⟩ = some u ∧ Like v u:=by
  obtain ⟨cs,cs',T,e0,e,hsz,hl⟩:=aBt hw b (aIv hc h0)
  have h1:=hc w0 h0
  rw [World.cell?] at h1 ⊢
  simp only [e0] at h1
  simp only [e]
  exact hl o v h1
end
section
variable {P:Program} {n:Nat} {F:List (Nat × Value)} {a:Act} {dd:List Deferred} {w w0:World} {o:Oper} {J:Value → World → Prop} {L:List Res} {s:SRes}
theorem iP {t:TypeId} {x y:Operand} {b off:Nat} {u v:Value} {i:Nat} (hs:∀ w,(sizeOf t).run P w = .ok 1 w) (hM:MemL w L) (hi:L[i]? = some (spR s w0)) (hc:∀ w,s.r.holds' w → w.cell? ⟨b,off,none⟩ = some u) (h0:s.r.holds' w0) (hl:Like u v)
    (hF:Fr n F a dd) (ho:o.op = .store t x y) (hx:ev F x = some (.pointer (some ⟨b,off,none⟩))) (hy:ev F y = some v) (h1:v.oneCell' = true) (next:∀ w',MemL w' L → J undef w'):Yd P o a.eval w J:=by
  have hf:=aIv hc h0
  have hold:=hM.hold i _ hi
  obtain ⟨cs,cs',T,e0,e,hsz,hlk⟩:=aBt hold b hf
  have hu:=hc w0 h0
  rw [World.cell?] at hu
  simp only [e0] at hu
  have hlt:off < cs'.toList.length:=by
    have:=(Array.getElem?_eq_some_iff.1 hu).1
    simp only [Array.length_toList]; omega
  refine bI (cs:=cs'.toList) (T:=T) hs (by simpa using e) hF ho hx hy h1 hlt rfl fun w' hU=>next w' ?_
  have hnew:w'.heap[b]? = some (.cells ((cs'.toList.set off v).toArray) T (0,0)):=hU.holds
  have hoth:∀ k,k < w.heap.size → k ≠ b → w'.heap[k]? = w.heap[k]?:=fun k hk hne=>hU.block k hk hne
  have:=hM.upd i hi hU.io hU.size (r':=spR s w0) (fun k hk hnf=>hoth k hk fun e=>hnf (by rw [e]; exact hf)) ?_ fun k hk=>.inl hk
  · have e:L.set i (spR s w0) = L:=by
      apply List.ext_getElem?
      intro j
      rw [List.getElem?_set]
      split
      · rename_i h; subst h; rw [if_pos (List.getElem?_eq_some_iff.1 hi).1,hi]
      · rfl
    rwa [e] at this
  · refine ⟨fun k hk=>Nat.lt_of_lt_of_le (hold.1 k hk) hU.size,fun w2 _ _ hk k hkf=>?_⟩
    obtain ⟨c,c',T',g0,g,gs,gl⟩:=aBt hold k hkf
    by_cases hkb:k = b
    · subst hkb
      cases e0.symm.trans g0
      cases e.symm.trans g
      refine ⟨cs,_,T,e0,(hk k hkf).trans hnew,by simp [hsz],fun j z hz=>?_⟩
      obtain ⟨q,hq,hlq⟩:=hlk j z hz
      by_cases hj:off = j
      · subst hj
        refine ⟨v,?_,?_⟩
        · simp only [List.getElem?_toArray,List.getElem?_set,if_pos hlt]
          simp
        · cases hu.symm.trans hz; exact hl
      · refine ⟨q,?_,hlq⟩
        simp only [List.getElem?_toArray,List.getElem?_set,if_neg hj]
        simpa using hq
    · exact ⟨c,c',T',g0,(hk k hkf).trans ((hoth k (hold.1 k hkf) hkb).trans g),gs,gl⟩
end
section
variable {x:SRes} {w0 w:World}
theorem nB {b o n c:Nat} {a:Option Addr} (hc:∀ w,x.r.holds' w → w.cell? ⟨b,o,none⟩ = some (.slice a n c)) (h0:x.r.holds' w0) (hw:(spR x w0).holds w):w.cell? ⟨b,o,none⟩ = some (.slice a n c):=by
  obtain ⟨u,hu,hl⟩:=jC hc h0 hw
  rw [hu,hl.slice]
theorem aH7 {b off:Nat} {y:RMark} (hc:∀ w,x.r.holds' w → Cells w b off (RMark.enc y)) (h0:x.r.holds' w0) (hw:(spR x w0).holds w):∃ a n:Int,Cells w b off (RMark.enc (RMark.mk a n y.done y.regs y.slots y.pieces y.sent)):=by
  have g:∀ (j:Nat) (v:Value),(RMark.enc y)[j]? = some v → ∃ u,w.cell? ⟨b,off + j,none⟩ = some u ∧ Like v u:=fun j v hv=>jC (fun w h=>hc w h j v hv) h0 hw
  obtain ⟨u0,h0',l0⟩:=g 0 _ rfl
  obtain ⟨u1,h1,l1⟩:=g 1 _ rfl
  obtain ⟨u2,h2,l2⟩:=g 2 _ rfl
  obtain ⟨u3,h3,l3⟩:=g 3 _ rfl
  obtain ⟨u4,h4,l4⟩:=g 4 _ rfl
  obtain ⟨u5,h5,l5⟩:=g 5 _ rfl
  obtain ⟨u6,h6,l6⟩:=g 6 _ rfl
  obtain ⟨a,rfl⟩:=l0.i64
  obtain ⟨n,rfl⟩:=l1.i64
  obtain rfl:=l2.bool
  obtain rfl:=l3.slice
  obtain rfl:=l4.slice
  obtain rfl:=l5.slice
  obtain rfl:=l6.slice
  refine ⟨a,n,fun j v hv=>?_⟩
  match j,hv with
  | 0,hv=>cases hv; exact h0'
  | 1,hv=>cases hv; exact h1
  | 2,hv=>cases hv; exact h2
  | 3,hv=>cases hv; exact h3
  | 4,hv=>cases hv; exact h4
  | 5,hv=>cases hv; exact h5
  | 6,hv=>cases hv; exact h6
  | j + 7,hv=>simp [RMark.enc] at hv
end
end Go.Fx
end
noncomputable section
namespace Go.Proofs
open Go Go.Fw Go.Fx
set_option maxRecDepth 10000
def Sh.pP (x0:List UInt8):Option (List UInt8) :=
 ((Sh.bA x0).bind fun y16=>((Fx.app 1 y16 [161,162]).bind fun x20=>((Fx.rm x20 0 (x0.length:Int) spU8).bind fun x21=>(some x21))))
def Sh.hA (x0:QMark) (c0:QMark) (c2:Int):Option (((QMark × Int) ⊕ (QMark ⊕ QMark))) :=
 (bif (decide (c2 < (x0.pieces.length:Int))) then ((Fx.get x0.pieces c2).bind fun c1=>((Sh.pP c1.old).bind fun c4=>((Sh.pP c1.new).bind fun c5=>((Fx.app 64 c0.pieces [(QPiece.mk c1.table c1.from_ c4 c5)]).bind fun c3=>(some (Sum.inl ((QMark.mk c0.at_ c0.next c0.done c0.regs c0.slots c3 c0.sent),(IntKind.i64.wrap (c2 + 1))))))))) else (some (Sum.inr (Sum.inl c0))))
def Sh.qF (x0:QMark) (c0:QMark):Option QMark :=
 ((Fx.app 64 c0.pieces [(QPiece.mk 0 (-7) [] []),(QPiece.mk 0 (-8) [] [])]).bind fun c1=>((Fx.rm c1 0 (x0.pieces.length:Int) spPiece).bind fun c2=>(some (QMark.mk c0.at_ c0.next c0.done c0.regs c0.slots c2 c0.sent))))
def Sh.qE (x0:QMark) (c0:QMark):Option QMark :=
 (Fx.seq (Fx.loop (fun (c2,c3)=>Sh.hA x0 c2 c3) ((QMark.mk c0.at_ c0.next c0.done c0.regs c0.slots [] c0.sent),0)) fun c1=>Sh.qF x0 c1)
def Sh.qD (x0:QMark) (c0:QMark):Option QMark :=
 (Fx.seq ((Sh.fK x0.sent).bind fun c3=>((Fx.app 8 c3 [(-7),(-8)]).bind fun c1=>((Fx.rm c1 0 (x0.sent.length:Int) spInt).bind fun c2=>(some (Sum.inl (QMark.mk c0.at_ c0.next c0.done c0.regs c0.slots c0.pieces c2)))))) fun c4=>Sh.qE x0 c4)
def Sh.qC (x0:QMark) (c0:QMark):Option QMark :=
 (Fx.seq ((Fx.app 104 [] x0.slots).bind fun c2=>((Fx.app 104 c2 [(LCell.mk (-7) LSlot.zero LSlot.zero),(LCell.mk (-8) LSlot.zero LSlot.zero)]).bind fun c3=>((Fx.rm c3 0 (x0.slots.length:Int) spCell).bind fun c4=>(some (Sum.inl (QMark.mk c0.at_ c0.next c0.done c0.regs c4 c0.pieces c0.sent)))))) fun c1=>Sh.qD x0 c1)
def Sh.oN (x0:QMark):Option QMark :=
 (Fx.seq ((Fx.app 72 [] x0.regs).bind fun c1=>((Fx.app 72 c1 [(LTurn.mk (-7) LVal.zero LVal.zero),(LTurn.mk (-8) LVal.zero LVal.zero)]).bind fun c2=>((Fx.rm c2 0 (x0.regs.length:Int) spTurn).bind fun c3=>(some (Sum.inl (QMark.mk x0.at_ x0.next x0.done c3 x0.slots x0.pieces x0.sent)))))) fun c0=>Sh.qC x0 c0)
def Sh.mK (x0:QRecord) (c0:QInput) (c1:Int):Option (((QInput × Int) ⊕ (QInput ⊕ QRecord))) :=
 (bif (decide (c1 < (x0.in_.tables.length:Int))) then ((Fx.get x0.in_.tables c1).bind fun c2=>((Sh.pP c2).bind fun c4=>((Fx.app 24 c0.tables [c4]).bind fun c3=>(some (Sum.inl ((QInput.mk c0.ctx c3),(IntKind.i64.wrap (c1 + 1)))))))) else (some (Sum.inr (Sum.inl c0))))
def Sh.mL (x0:QRecord) (c0:QRecord) (c1:Int):Option (((QRecord × Int) ⊕ (QRecord ⊕ QRecord))) :=
 (bif (decide (c1 < (x0.marks.length:Int))) then ((Fx.get x0.marks c1).bind fun c2=>((Sh.oN c2).bind fun c4=>((Fx.app 120 c0.marks [c4]).bind fun c3=>(some (Sum.inl ((QRecord.mk c0.in_ c3 c0.end_),(IntKind.i64.wrap (c1 + 1)))))))) else (some (Sum.inr (Sum.inl c0))))
def Sh.vG (x0:QRecord) (c0:QRecord):Option QRecord :=
 ((Fx.app 120 c0.marks [(QMark.mk (-7) 0 false [] [] [] []),(QMark.mk (-8) 0 false [] [] [] [])]).bind fun c1=>((Fx.rm c1 0 (x0.marks.length:Int) spMark).bind fun c2=>(some (QRecord.mk c0.in_ c2 c0.end_))))
def Sh.vF (x0:QRecord) (c0:QInput):Option QRecord :=
 (Fx.seq (Fx.loop (fun (c2,c3)=>Sh.mL x0 c2 c3) ((QRecord.mk c0 [] x0.end_),0)) fun c1=>Sh.vG x0 c1)
def Sh.tZ (x0:QRecord):Option QRecord :=
 ((Sh.pP x0.in_.ctx).bind fun c3=>(Fx.seq (Fx.loop (fun (c1,c2)=>Sh.mK x0 c1 c2) ((QInput.mk c3 []),0)) fun c0=>Sh.vF x0 c0))
def Sh.vK (v21:Bool):Option Bool :=
 (some v21)
def Sh.sK (x0:List UInt8):Option Bool :=
 (Fx.must (decide ((IntKind.i64.wrap ((x0.length:Int) + 2)) = (x0.length:Int) + 2)) (Fx.seq ((Fx.get (x0 ++ spU8) (x0.length:Int)).bind fun x22=>(bif (decide ((x22.toNat:Int) = 161)) then ((Fx.get (x0 ++ spU8) (IntKind.i64.wrap ((x0.length:Int) + 1))).bind fun x24=>(some (Sum.inl (decide ((x24.toNat:Int) = 162))))) else (some (Sum.inl false)))) fun v21=>Sh.vK v21))
def Sh.qB (c0:Int) (c1:Bool):Option ((Int ⊕ (Unit ⊕ Bool))) :=
 (bif c1 then (some (Sum.inr (Sum.inr false))) else (some (Sum.inl (IntKind.i64.wrap (c0 + 1)))))
def Sh.nM (x0:QMark) (c0:Int):Option ((Int ⊕ (Unit ⊕ Bool))) :=
 (bif (decide (c0 < (x0.pieces.length:Int))) then (Fx.seq ((Fx.get x0.pieces c0).bind fun c2=>((Sh.sK c2.old).bind fun c4=>(bif (!c4) then (some (Sum.inl true)) else ((Fx.get x0.pieces c0).bind fun c3=>((Sh.sK c3.new).bind fun c5=>(some (Sum.inl (!c5)))))))) fun c1=>Sh.qB c0 c1) else (some (Sum.inr (Sum.inl ()))))
def Sh.tY:Option Bool :=
 (some true)
def Sh.nL (x0:QMark) (c0:Bool):Option Bool :=
 (bif c0 then (some false) else (Fx.seq (Fx.loop (fun c1=>Sh.nM x0 c1) 0) fun _=>Sh.tY))
def Sh.nK (x0:QMark) (c0:Bool):Option Bool :=
 (bif c0 then (some false) else (Fx.seq ((Fx.get (x0.sent ++ spInt) (x0.sent.length:Int)).bind fun c2=>(bif (!decide (c2 = (-7))) then (some (Sum.inl true)) else ((Fx.get (x0.sent ++ spInt) (IntKind.i64.wrap ((x0.sent.length:Int) + 1))).bind fun c3=>(bif (!decide (c3 = (-8))) then (some (Sum.inl true)) else ((Fx.get (x0.pieces ++ spPiece) (x0.pieces.length:Int)).bind fun c4=>(bif (!decide (c4.from_ = (-7))) then (some (Sum.inl true)) else ((Fx.get (x0.pieces ++ spPiece) (IntKind.i64.wrap ((x0.pieces.length:Int) + 1))).bind fun c5=>(some (Sum.inl (!decide (c5.from_ = (-8)))))))))))) fun c1=>Sh.nL x0 c1))
def Sh.oM (x0:QMark) (x1:QMark):Option Bool :=
 (Fx.must (decide ((IntKind.i64.wrap ((x0.regs.length:Int) + 2)) = (x0.regs.length:Int) + 2)) (Fx.must (decide ((IntKind.i64.wrap ((x0.slots.length:Int) + 2)) = (x0.slots.length:Int) + 2)) (Fx.must (decide ((IntKind.i64.wrap ((x0.sent.length:Int) + 2)) = (x0.sent.length:Int) + 2)) (Fx.must (decide ((IntKind.i64.wrap ((x0.pieces.length:Int) + 2)) = (x0.pieces.length:Int) + 2)) (Fx.seq ((Sh.cK x0 x1).bind fun c5=>(bif (!c5) then (some (Sum.inl true)) else ((Fx.get (x0.regs ++ spTurn) (x0.regs.length:Int)).bind fun c1=>(bif (!decide (c1.reg = (-7))) then (some (Sum.inl true)) else ((Fx.get (x0.regs ++ spTurn) (IntKind.i64.wrap ((x0.regs.length:Int) + 1))).bind fun c2=>(bif (!decide (c2.reg = (-8))) then (some (Sum.inl true)) else ((Fx.get (x0.slots ++ spCell) (x0.slots.length:Int)).bind fun c3=>(bif (!decide (c3.slot = (-7))) then (some (Sum.inl true)) else ((Fx.get (x0.slots ++ spCell) (IntKind.i64.wrap ((x0.slots.length:Int) + 1))).bind fun c4=>(some (Sum.inl (!decide (c4.slot = (-8)))))))))))))) fun c0=>Sh.nK x0 c0)))))
def Sh.tB (x0:QRecord) (c0:Int):Option ((Int ⊕ (Unit ⊕ Bool))) :=
 (bif (decide (c0 < (x0.in_.tables.length:Int))) then ((Fx.get x0.in_.tables c0).bind fun c1=>((Sh.sK c1).bind fun c2=>(bif (!c2) then (some (Sum.inr (Sum.inr false))) else (some (Sum.inl (IntKind.i64.wrap (c0 + 1))))))) else (some (Sum.inr (Sum.inl ()))))
def Sh.tC (x0:QRecord) (x1:QRecord) (c0:Int):Option ((Int ⊕ (Unit ⊕ Bool))) :=
 (bif (decide (c0 < (x0.marks.length:Int))) then ((Fx.get x0.marks c0).bind fun c1=>((Fx.get x1.marks c0).bind fun c2=>((Sh.oM c1 c2).bind fun c3=>(bif (!c3) then (some (Sum.inr (Sum.inr false))) else (some (Sum.inl (IntKind.i64.wrap (c0 + 1)))))))) else (some (Sum.inr (Sum.inl ()))))
def Sh.vJ:Option Bool :=
 (some true)
def Sh.tA (x0:QRecord) (x1:QRecord):Option Bool :=
 (Fx.seq (Fx.loop (fun c0=>Sh.tC x0 x1 c0) 0) fun _=>Sh.vJ)
def Sh.sZ (x0:QRecord) (x1:QRecord) (c0:Bool):Option Bool :=
 (bif c0 then (some false) else (Fx.seq (Fx.loop (fun c1=>Sh.tB x0 c1) 0) fun _=>Sh.tA x0 x1))
def Sh.tX (x0:QRecord) (x1:QRecord):Option Bool :=
 (Fx.must (decide ((IntKind.i64.wrap ((x0.marks.length:Int) + 2)) = (x0.marks.length:Int) + 2)) (Fx.seq ((Sh.bO x0 x1).bind fun c3=>(bif (!c3) then (some (Sum.inl true)) else ((Fx.get (x0.marks ++ spMark) (x0.marks.length:Int)).bind fun c1=>(bif (!decide (c1.at_ = (-7))) then (some (Sum.inl true)) else ((Fx.get (x0.marks ++ spMark) (IntKind.i64.wrap ((x0.marks.length:Int) + 1))).bind fun c2=>(bif (!decide (c2.at_ = (-8))) then (some (Sum.inl true)) else ((Sh.sK x0.in_.ctx).bind fun c4=>(some (Sum.inl (!c4)))))))))) fun c0=>Sh.sZ x0 x1 c0))
end Go.Proofs
end
noncomputable section
namespace Go.Proofs
open Go Go.Fw Go.Fx
set_option maxRecDepth 10000
def Sh.kZ (x0:QRecord) (c0:Int):Option ((Int ⊕ (Unit ⊕ Unit))) :=
 (bif (decide (c0 < (x0.in_.ctx.length:Int))) then ((Fx.get x0.in_.ctx c0).bind fun c1=>((Fx.get x0.in_.ctx c0).bind fun c2=>(some (Sum.inl (IntKind.i64.wrap (c0 + 1)))))) else (some (Sum.inr (Sum.inl ()))))
def Sh.lB (x0:QRecord) (c1:Int) (c0:Int):Option ((Int ⊕ (Unit ⊕ (Int ⊕ (Unit ⊕ Unit))))) :=
 ((Fx.get x0.in_.tables c1).bind fun c2=>(bif (decide (c0 < (c2.length:Int))) then ((Fx.get x0.in_.tables c1).bind fun c3=>((Fx.get x0.in_.tables c1).bind fun c4=>((Fx.get c4 c0).bind fun c5=>((Fx.get c3 c0).bind fun c6=>(some (Sum.inl (IntKind.i64.wrap (c0 + 1)))))))) else (some (Sum.inr (Sum.inl ())))))
def Sh.tU (c0:Int):Option ((Int ⊕ (Unit ⊕ Unit))) :=
 (some (Sum.inl (IntKind.i64.wrap (c0 + 1))))
def Sh.lA (x0:QRecord) (c0:Int):Option ((Int ⊕ (Unit ⊕ Unit))) :=
 (bif (decide (c0 < (x0.in_.tables.length:Int))) then (Fx.seq (Fx.loop (fun c1=>Sh.lB x0 c0 c1) 0) fun _=>Sh.tU c0) else (some (Sum.inr (Sum.inl ()))))
def Sh.iX (c1:QMark) (c0:Int):Option ((Int ⊕ (Unit ⊕ (Unit ⊕ (Int ⊕ Unit))))) :=
 (bif (decide (c0 < (c1.regs.length:Int))) then ((Fx.get c1.regs c0).bind fun c2=>((Fx.get c1.regs c0).bind fun c3=>(some (Sum.inl (IntKind.i64.wrap (c0 + 1)))))) else (some (Sum.inr (Sum.inl ()))))
def Sh.iY (c1:QMark) (c0:Int):Option ((Int ⊕ (Unit ⊕ (Unit ⊕ (Int ⊕ Unit))))) :=
 (bif (decide (c0 < (c1.slots.length:Int))) then ((Fx.get c1.slots c0).bind fun c2=>((Fx.get c2.new.bytes.l 3).bind fun c4=>((Fx.get c1.slots c0).bind fun c3=>((Fx.get c3.new.bytes.l 3).bind fun c5=>(some (Sum.inl (IntKind.i64.wrap (c0 + 1)))))))) else (some (Sum.inr (Sum.inl ()))))
def Sh.jA (c2:QMark) (c1:Int) (c0:Int):Option ((Int ⊕ (Unit ⊕ (Unit ⊕ (Int ⊕ (Unit ⊕ (Unit ⊕ (Int ⊕ Unit)))))))) :=
 ((Fx.get c2.pieces c1).bind fun c3=>(bif (decide (c0 < (c3.new.length:Int))) then ((Fx.get c2.pieces c1).bind fun c4=>((Fx.get c2.pieces c1).bind fun c5=>((Fx.get c5.new c0).bind fun c6=>((Fx.get c4.new c0).bind fun c7=>(some (Sum.inl (IntKind.i64.wrap (c0 + 1)))))))) else (some (Sum.inr (Sum.inl ())))))
def Sh.jB (c2:QMark) (c1:Int) (c0:Int):Option ((Int ⊕ (Unit ⊕ (Int ⊕ (Unit ⊕ (Unit ⊕ (Int ⊕ Unit))))))) :=
 ((Fx.get c2.pieces c1).bind fun c3=>(bif (decide (c0 < (c3.old.length:Int))) then ((Fx.get c2.pieces c1).bind fun c4=>((Fx.get c2.pieces c1).bind fun c5=>((Fx.get c5.old c0).bind fun c6=>((Fx.get c4.old c0).bind fun c7=>(some (Sum.inl (IntKind.i64.wrap (c0 + 1)))))))) else (some (Sum.inr (Sum.inl ())))))
def Sh.sO (c2:QMark) (c0:Int):Option ((Unit ⊕ (Int ⊕ (Unit ⊕ (Unit ⊕ (Int ⊕ Unit)))))) :=
 (Fx.loop (fun c1=>Sh.jB c2 c0 c1) 0)
def Sh.sN (c0:Int):Option ((Int ⊕ (Unit ⊕ (Unit ⊕ (Int ⊕ Unit))))) :=
 (some (Sum.inl (IntKind.i64.wrap (c0 + 1))))
def Sh.iZ (c1:QMark) (c0:Int):Option ((Int ⊕ (Unit ⊕ (Unit ⊕ (Int ⊕ Unit))))) :=
 (bif (decide (c0 < (c1.pieces.length:Int))) then (Fx.seq (Fx.seq (Fx.loop (fun c2=>Sh.jA c1 c0 c2) 0) fun _=>Sh.sO c1 c0) fun _=>Sh.sN c0) else (some (Sum.inr (Sum.inl ()))))
def Sh.jC (c1:QMark) (c0:Int):Option ((Int ⊕ (Unit ⊕ (Unit ⊕ (Int ⊕ Unit))))) :=
 (bif (decide (c0 < (c1.sent.length:Int))) then ((Fx.get c1.sent c0).bind fun c2=>((Fx.get c1.sent c0).bind fun c3=>(some (Sum.inl (IntKind.i64.wrap (c0 + 1)))))) else (some (Sum.inr (Sum.inl ()))))
def Sh.oW (x0:QRecord) (c0:Int):Option ((Unit ⊕ (Int ⊕ Unit))) :=
 ((Fx.get x0.marks c0).bind fun c1=>((Fx.get x0.marks c0).bind fun c2=>(some (Sum.inl ()))))
def Sh.sM (x0:QRecord) (c0:Int) (c2:QMark):Option ((Unit ⊕ (Int ⊕ Unit))) :=
 (Fx.seq (Fx.loop (fun c1=>Sh.jC c2 c1) 0) fun _=>Sh.oW x0 c0)
def Sh.sL (x0:QRecord) (c1:Int) (c0:QMark):Option ((Unit ⊕ (Int ⊕ Unit))) :=
 (Fx.seq (Fx.loop (fun c2=>Sh.iZ c0 c2) 0) fun _=>Sh.sM x0 c1 c0)
def Sh.tW (x0:QRecord) (c1:Int) (c0:QMark):Option ((Unit ⊕ (Int ⊕ Unit))) :=
 (Fx.seq (Fx.loop (fun c2=>Sh.iY c0 c2) 0) fun _=>Sh.sL x0 c1 c0)
def Sh.tV (c0:Int):Option ((Int ⊕ Unit)) :=
 (some (Sum.inl (IntKind.i64.wrap (c0 + 1))))
def Sh.lC (x0:QRecord) (c0:Int):Option ((Int ⊕ Unit)) :=
 (bif (decide (c0 < (x0.marks.length:Int))) then (Fx.seq ((Fx.get x0.marks c0).bind fun c1=>(Fx.seq (Fx.loop (fun c2=>Sh.iX c1 c2) 0) fun _=>Sh.tW x0 c0 c1)) fun _=>Sh.tV c0) else (some (Sum.inr ())))
def Sh.tT (x0:QRecord):Option Unit :=
 (Fx.loop (fun c0=>Sh.lC x0 c0) 0)
def Sh.tS (x0:QRecord):Option Unit :=
 (Fx.seq (Fx.loop (fun c0=>Sh.lA x0 c0) 0) fun _=>Sh.tT x0)
def Sh.kU (x0:QRecord):Option Unit :=
 (Fx.seq (Fx.loop (fun c0=>Sh.kZ x0 c0) 0) fun _=>Sh.tS x0)
end Go.Proofs
end
noncomputable section
namespace Go.Proofs
open Go Go.Fw Go.Fx
set_option maxRecDepth 10000
def Sh.jT (c2:List (List UInt8)) (c1:Nat) (c0:Int):Option (((Nat × Int) ⊕ (Nat ⊕ QState))) :=
 (bif (decide (c0 < (c2.length:Int))) then ((Fx.get c2 c0).bind fun c3=>(Fx.must (decide (c1 ≤ (c0:Int).toNat)) ((Sh.eB c3).bind fun c5=>((Fx.get c2 c0).bind fun c4=>(Fx.must (decide (c1 ≤ (c0:Int).toNat)) (Fx.must (decide ((c0:Int).toNat = c1)) (Fx.must (decide (c5 = c4)) (some (Sum.inl ((c1 + 1),(IntKind.i64.wrap (c0 + 1)))))))))))) else (some (Sum.inr (Sum.inl c1))))
def Sh.pI (x0:QState) (c2:List UInt8) (c0:List (List UInt8)) (c1:Nat):Option QState :=
 ((Sh.eA x0.sent).bind fun c3=>(Fx.must (decide (c0.length ≤ c1)) (some (QState.mk x0.regs x0.stack c2 c0 c3 x0.at_ x0.steps x0.done))))
def Sh.hS (x0:QState):Option QState :=
 ((Sh.eB x0.ctx).bind fun c4=>((Sh.eS x0.tables).bind fun c0=>(Fx.seq (Fx.loop (fun (c2,c3)=>Sh.jT c0 c2 c3) (0,0)) fun c1=>Sh.pI x0 c4 c0 c1)))
def Sh.lD (x0:QState) (c0:QState) (c1:Int):Option (((QState × Int) ⊕ (QState ⊕ QState))) :=
 (bif (decide (c1 < (x0.tables.length:Int))) then ((Fx.get x0.tables c1).bind fun c2=>((Fx.app 1 [] c2).bind fun c3=>((Fx.app 24 c0.tables [c3]).bind fun c4=>(some (Sum.inl ((QState.mk c0.regs c0.stack c0.ctx c4 c0.sent c0.at_ c0.steps c0.done),(IntKind.i64.wrap (c1 + 1)))))))) else (some (Sum.inr (Sum.inl c0))))
def Sh.pZ (x0:QState) (c0:QState):Option QState :=
 ((Fx.app 8 [] x0.sent).bind fun c1=>(some (QState.mk c0.regs c0.stack c0.ctx c0.tables c1 c0.at_ c0.steps c0.done)))
def Sh.mQ (x0:QState):Option QState :=
 ((Fx.app 1 [] x0.ctx).bind fun c3=>(Fx.seq (Fx.loop (fun (c1,c2)=>Sh.lD x0 c1 c2) ((QState.mk x0.regs x0.stack c3 [] x0.sent x0.at_ x0.steps x0.done),0)) fun c0=>Sh.pZ x0 c0))
def Sh.uM (x0:LTurn) (x1:Bool):Option LVal :=
 (bif x1 then (some x0.old) else (some x0.new))
def Sh.sW (x0:LCell) (x1:Bool):Option LSlot :=
 (bif x1 then (some x0.old) else (some x0.new))
def Sh.rC (x0:QPiece) (x1:Bool):Option (List UInt8) :=
 (bif x1 then (some x0.old) else (some x0.new))
def Sh.jQ (x1:QMark) (c0:Vec LVal 11) (c3:List Int) (c1:Int):Option (((Vec LVal 11 × List Int × Int) ⊕ ((Vec LVal 11 × List Int) ⊕ QState))) :=
 (bif (decide (c1 < (x1.regs.length:Int))) then ((Fx.get x1.regs c1).bind fun c2=>((Fx.get c0.l c2.reg).bind fun c4=>(some (Sum.inl ((c0.set (c2.reg:Int).toNat c2.new),c3,(IntKind.i64.wrap (c1 + 1))))))) else (some (Sum.inr (Sum.inl (c0,c3)))))
def Sh.jR (x1:QMark) (c0:Vec LSlot 32) (c3:List Int) (c1:Int):Option (((Vec LSlot 32 × List Int × Int) ⊕ ((Vec LSlot 32 × List Int) ⊕ QState))) :=
 (bif (decide (c1 < (x1.slots.length:Int))) then ((Fx.get x1.slots c1).bind fun c2=>((Fx.get c0.l c2.slot).bind fun c4=>(some (Sum.inl ((c0.set (c2.slot:Int).toNat c2.new),c3,(IntKind.i64.wrap (c1 + 1))))))) else (some (Sum.inr (Sum.inl (c0,c3)))))
def Sh.pF (c1:List (List UInt8)) (c3:Int) (c2:QPiece) (c0:Nat) (c5:Bool):Option (((List (List UInt8) × Int) ⊕ (List (List UInt8) ⊕ QState))) :=
 ((Fx.slc (Fx.pk c1 c0) c2.from_ ((Fx.pk c1 c0).length:Int)).bind fun c6=>((Fx.cpa (Fx.pk c1 c0) c2.from_ c2.new).bind fun c4=>(some (Sum.inl ((c1.set c0 c4),(IntKind.i64.wrap (c3 + 1)))))))
def Sh.jS (x1:QMark) (c1:List (List UInt8)) (c2:Int):Option (((List (List UInt8) × Int) ⊕ (List (List UInt8) ⊕ QState))) :=
 (bif (decide (c2 < (x1.pieces.length:Int))) then ((Fx.get x1.pieces c2).bind fun c0=>(Fx.seq (bif (decide (c0.table < 0)) then (some (Sum.inl (0,true))) else (bif (decide (c0.table < ((List.tail c1).length:Int))) then ((Fx.get (List.tail c1) c0.table).bind fun c5=>(some (Sum.inl (((c0.table:Int).toNat + 1),true)))) else Fx.must false none)) fun (c3,c4)=>Sh.pF c1 c2 c0 c3 c4)) else (some (Sum.inr (Sum.inl c1))))
def Sh.tG (x1:QMark) (c1:QState) (c4:Vec LVal 11) (c2:Vec LSlot 32) (c3:List Int) (c0:List (List UInt8)):Option QState :=
 (some (QState.mk c4 c2 (Fx.pk c0 0) (List.tail c0) c3 x1.next c1.steps c1.done))
def Sh.pH (x1:QMark) (c0:QState) (c6:Vec LVal 11) (c3:Vec LSlot 32) (c4:List Int):Option QState :=
 (Fx.seq (Fx.loop (fun (c2,c5)=>Sh.jS x1 c2 c5) ((c0.ctx :: c0.tables),0)) fun c1=>Sh.tG x1 c0 c6 c3 c4 c1)
def Sh.pG (x1:QMark) (c0:QState) (c6:Vec LVal 11) (c7:List Int):Option QState :=
 (Fx.seq (Fx.loop (fun (c3,c4,c5)=>Sh.jR x1 c3 c4 c5) (c0.stack,c7,0)) fun (c1,c2)=>Sh.pH x1 c0 c6 c1 c2)
def Sh.nN (x0:QState) (x1:QMark):Option QState :=
 ((Sh.hS x0).bind fun c0=>(Fx.seq (Fx.loop (fun (c3,c4,c5)=>Sh.jQ x1 c3 c4 c5) (c0.regs,c0.sent,0)) fun (c1,c2)=>Sh.pG x1 c0 c1 c2))
def Sh.nE (x1:QMark) (x2:Bool) (c1:Vec LVal 11) (c2:List Int) (c0:Int):Option (((Vec LVal 11 × List Int × Int) ⊕ ((Vec LVal 11 × List Int) ⊕ QState))) :=
 (bif (decide (c0 < (x1.regs.length:Int))) then ((Fx.get x1.regs c0).bind fun c3=>((Fx.get x1.regs c0).bind fun c4=>((Sh.uM c4 x2).bind fun c5=>((Fx.get c1.l c3.reg).bind fun c6=>(some (Sum.inl ((c1.set (c3.reg:Int).toNat c5),c2,(IntKind.i64.wrap (c0 + 1))))))))) else (some (Sum.inr (Sum.inl (c1,c2)))))
def Sh.nF (x1:QMark) (x2:Bool) (c1:Vec LSlot 32) (c2:List Int) (c0:Int):Option (((Vec LSlot 32 × List Int × Int) ⊕ ((Vec LSlot 32 × List Int) ⊕ QState))) :=
 (bif (decide (c0 < (x1.slots.length:Int))) then ((Fx.get x1.slots c0).bind fun c3=>((Fx.get x1.slots c0).bind fun c4=>((Sh.sW c4 x2).bind fun c5=>((Fx.get c1.l c3.slot).bind fun c6=>(some (Sum.inl ((c1.set (c3.slot:Int).toNat c5),c2,(IntKind.i64.wrap (c0 + 1))))))))) else (some (Sum.inr (Sum.inl (c1,c2)))))
def Sh.nH (x1:QMark) (c5:Int) (c4:List UInt8) (c2:Nat) (c1:List (List UInt8)) (c0:Int):Option (((List (List UInt8) × Int) ⊕ (List (List UInt8) ⊕ ((List (List UInt8) × Int) ⊕ (List (List UInt8) ⊕ QState))))) :=
 (bif (decide (c0 < (c4.length:Int))) then ((Fx.get x1.pieces c5).bind fun c3=>((Fx.get c4 c0).bind fun c6=>((Fx.get (Fx.pk c1 c2) (IntKind.i64.wrap (c3.from_ + c0))).bind fun c7=>(some (Sum.inl ((c1.set c2 ((Fx.pk c1 c2).set ((IntKind.i64.wrap (c3.from_ + c0)):Int).toNat c6)),(IntKind.i64.wrap (c0 + 1)))))))) else (some (Sum.inr (Sum.inl c1))))
def Sh.sV (x1:QMark) (c1:List (List UInt8)) (c3:Int) (c5:List UInt8) (c0:Nat):Option ((List (List UInt8) ⊕ ((List (List UInt8) × Int) ⊕ (List (List UInt8) ⊕ QState)))) :=
 (Fx.loop (fun (c2,c4)=>Sh.nH x1 c3 c5 c0 c2 c4) (c1,0))
def Sh.sU (c1:Int) (c0:List (List UInt8)):Option (((List (List UInt8) × Int) ⊕ (List (List UInt8) ⊕ QState))) :=
 (some (Sum.inl (c0,(IntKind.i64.wrap (c1 + 1)))))
def Sh.nG (x1:QMark) (x2:Bool) (c1:List (List UInt8)) (c0:Int):Option (((List (List UInt8) × Int) ⊕ (List (List UInt8) ⊕ QState))) :=
 (bif (decide (c0 < (x1.pieces.length:Int))) then (Fx.seq ((Fx.get x1.pieces c0).bind fun c5=>((Sh.rC c5 x2).bind fun c7=>(Fx.seq ((Fx.get x1.pieces c0).bind fun c6=>(bif (decide (0 ≤ c6.table)) then ((Fx.get x1.pieces c0).bind fun c2=>((Fx.get (List.tail c1) c2.table).bind fun c8=>(some (Sum.inl ((c2.table:Int).toNat + 1))))) else (some (Sum.inl 0)))) fun c3=>Sh.sV x1 c1 c0 c7 c3))) fun c4=>Sh.sU c0 c4) else (some (Sum.inr (Sum.inl c1))))
def Sh.sT (c0:QState) (c2:Vec LVal 11) (c3:Vec LSlot 32) (c4:List Int) (c1:List (List UInt8)):Option QState :=
 (some (QState.mk c2 c3 (Fx.pk c1 0) (List.tail c1) c4 c0.at_ c0.steps c0.done))
def Sh.sS (x1:QMark) (x2:Bool) (c0:QState) (c3:Vec LVal 11) (c4:Vec LSlot 32) (c5:List Int):Option QState :=
 (Fx.seq (Fx.loop (fun (c2,c6)=>Sh.nG x1 x2 c2 c6) ((c0.ctx :: c0.tables),0)) fun c1=>Sh.sT c0 c3 c4 c5 c1)
def Sh.sR (x1:QMark) (x2:Bool) (c0:QState) (c1:Vec LVal 11) (c2:List Int):Option QState :=
 (Fx.seq (Fx.loop (fun (c5,c6,c7)=>Sh.nF x1 x2 c5 c6 c7) (c0.stack,c2,0)) fun (c3,c4)=>Sh.sS x1 x2 c0 c1 c3 c4)
def Sh.sJ (x0:QState) (x1:QMark) (x2:Bool):Option QState :=
 ((Sh.mQ x0).bind fun c0=>(Fx.seq (Fx.loop (fun (c3,c4,c5)=>Sh.nE x1 x2 c3 c4 c5) (c0.regs,c0.sent,0)) fun (c1,c2)=>Sh.sR x1 x2 c0 c1 c2))
end Go.Proofs
end
section
namespace Go.Fx
open Go Go.Fw Go.Proofs
def LastP (sep:Bool) (L:World → Prop) (hs:List RPiece) (l:List QPiece) (so sn:SV) (lo ln:List UInt8):Prop :=
  (sep = false ∧ Each (QPieceIn L) hs l) ∨ (sep = true ∧ ∃ hs0 l0 t f,hs = hs0 ++ [⟨t,f,so,sn⟩] ∧ l = l0 ++ [⟨t,f,lo,ln⟩] ∧ Each (QPieceIn L) hs0 l0)
section
variable {sep:Bool} {L L':World → Prop} {hs:List RPiece} {l:List QPiece} {so sn:SV} {lo ln:List UInt8}
theorem LastP.none (h:Each (QPieceIn L) hs l):LastP false L hs l so sn lo ln:=.inl ⟨rfl,h⟩
theorem LastP.mono (h:LastP sep L hs l so sn lo ln) (k:∀ w,L' w → L w):LastP sep L' hs l so sn lo ln:=by
  rcases h with ⟨h1,h2⟩ | ⟨h1,hs0,l0,t,f,h2,h3,h4⟩
  · exact .inl ⟨h1,h2.mono fun _ _ q=>q.mono k⟩
  · exact .inr ⟨h1,hs0,l0,t,f,h2,h3,h4.mono fun _ _ q=>q.mono k⟩
theorem LastP.each (h:LastP sep L hs l so sn lo ln) (k:∀ w,L' w → L w) (ho:∀ w,L' w → SliceOf 0 w so lo) (hn:∀ w,L' w → SliceOf 0 w sn ln):Each (QPieceIn L') hs l:=by
  rcases h with ⟨h1,h2⟩ | ⟨h1,hs0,l0,t,f,rfl,rfl,h4⟩
  · exact h2.mono fun _ _ q=>q.mono k
  · exact (h4.mono fun _ _ q=>q.mono k).snoc ⟨so,sn,rfl,ho,hn⟩
theorem LastP.len (h:LastP sep L hs l so sn lo ln):hs.length = l.length:=by
  rcases h with ⟨h1,h2⟩ | ⟨h1,hs0,l0,t,f,rfl,rfl,h4⟩
  · exact h2.len
  · simp [h4.len]
theorem LastP.getr {i:Int} {p:QPiece} (h:LastP sep L hs l so sn lo ln) (hp:Fx.get l i = some p):∃ y,hs[i.toNat]? = some y:=by
  obtain ⟨_,hp⟩:=aM hp
  have:=(List.getElem?_eq_some_iff.1 hp).1
  exact ⟨_,List.getElem?_eq_getElem (by rw [h.len]; exact this)⟩
end
end Go.Fx
end
noncomputable section
namespace Go.Proofs
open Go Go.Fw Go.Fx
set_option maxRecDepth 10000
def Sh.kW (x0:QState) (x1:QMark):Option Int :=
 ((Sh.gR x0).bind fun y38=>(bif (!y38) then (some 1) else ((Sh.cI x1).bind fun y41=>(bif (!y41) then (some 230) else (some 0)))))
def Sh.qG (x0:QState) (x1:QMark) (c1:Bool):Option ((QState × Int)) :=
 (bif c1 then (some ((QState.mk (⟨List.replicate 11 LVal.zero,rfl⟩ : Vec LVal 11) (⟨List.replicate 32 LSlot.zero,rfl⟩ : Vec LSlot 32) [] [] [] 0 0 false),231)) else ((Sh.nN x0 x1).bind fun c0=>((Fx.app 8 c0.sent x1.sent).bind fun c2=>(some ((QState.mk c0.regs c0.stack c0.ctx c0.tables c2 c0.at_ (IntKind.i64.wrap (c0.steps + 1)) x1.done),0)))))
def Sh.cO (x0:QState) (x1:QMark):Option ((QState × Int)) :=
 ((Sh.kW x0 x1).bind fun y89=>(bif (!decide (y89 = 0)) then (some ((QState.mk (⟨List.replicate 11 LVal.zero,rfl⟩ : Vec LVal 11) (⟨List.replicate 32 LSlot.zero,rfl⟩ : Vec LSlot 32) [] [] [] 0 0 false),y89)) else (Fx.seq (bif x0.done then (some (Sum.inl true)) else (bif (decide (x0.steps = 4294967296)) then (some (Sum.inl true)) else ((Sh.qK x0 x1).bind fun c1=>(some (Sum.inl (!c1)))))) fun c0=>Sh.qG x0 x1 c0)))
def Sh.jI (x0:QState) (x1:QMark) (x2:Bool) (c0:Int):Option ((Int ⊕ (Unit ⊕ Bool))) :=
 (bif (decide (c0 < (x1.regs.length:Int))) then ((Fx.get x1.regs c0).bind fun c1=>((Fx.get x0.regs.l c1.reg).bind fun c2=>((Fx.get x1.regs c0).bind fun c3=>((Sh.uM c3 x2).bind fun c4=>(bif (!(decide (c2 = c4))) then (some (Sum.inr (Sum.inr false))) else (some (Sum.inl (IntKind.i64.wrap (c0 + 1))))))))) else (some (Sum.inr (Sum.inl ()))))
def Sh.jJ (x0:QState) (x1:QMark) (x2:Bool) (c0:Int):Option ((Int ⊕ (Unit ⊕ Bool))) :=
 (bif (decide (c0 < (x1.slots.length:Int))) then ((Fx.get x1.slots c0).bind fun c1=>((Fx.get x0.stack.l c1.slot).bind fun c2=>((Fx.get x1.slots c0).bind fun c3=>((Sh.sW c3 x2).bind fun c4=>(bif (!(decide (c2 = c4))) then (some (Sum.inr (Sum.inr false))) else (some (Sum.inl (IntKind.i64.wrap (c0 + 1))))))))) else (some (Sum.inr (Sum.inl ()))))
def Sh.oX (c0:Bool):Option ((Bool ⊕ (Int ⊕ (Unit ⊕ Bool)))) :=
 (some (Sum.inl (!c0)))
def Sh.pB (c0:Int) (c1:Bool):Option ((Int ⊕ (Unit ⊕ Bool))) :=
 (bif c1 then (some (Sum.inr (Sum.inr false))) else (some (Sum.inl (IntKind.i64.wrap (c0 + 1)))))
def Sh.pA (x1:QMark) (c2:Int) (c1:List UInt8) (c3:List UInt8):Option ((Int ⊕ (Unit ⊕ Bool))) :=
 ((Fx.get x1.pieces c2).bind fun c0=>(Fx.seq (bif (decide ((c3.length:Int) < (IntKind.i64.wrap (c0.from_ + (c1.length:Int))))) then (some (Sum.inl true)) else ((Fx.slc c3 c0.from_ (IntKind.i64.wrap (c0.from_ + (c1.length:Int)))).bind fun c6=>(Fx.seq (some (Sum.inl (decide (c6 = c1)))) fun c5=>Sh.oX c5))) fun c4=>Sh.pB c2 c4))
def Sh.jK (x0:QState) (x1:QMark) (x2:Bool) (c0:Int):Option ((Int ⊕ (Unit ⊕ Bool))) :=
 (bif (decide (c0 < (x1.pieces.length:Int))) then ((Fx.get x1.pieces c0).bind fun c2=>((Sh.rC c2 x2).bind fun c7=>((Fx.get x1.pieces c0).bind fun c3=>(bif (decide ((x0.tables.length:Int) ≤ c3.table)) then (some (Sum.inr (Sum.inr false))) else (Fx.seq ((Fx.get x1.pieces c0).bind fun c4=>(bif (decide (0 ≤ c4.table)) then ((Fx.get x1.pieces c0).bind fun c5=>((Fx.get x0.tables c5.table).bind fun c6=>(some (Sum.inl c6)))) else (some (Sum.inl x0.ctx)))) fun c1=>Sh.pA x1 c0 c7 c1))))) else (some (Sum.inr (Sum.inl ()))))
def Sh.sX:Option Bool :=
 (some true)
def Sh.oZ (x0:QState) (x1:QMark) (x2:Bool):Option Bool :=
 (Fx.seq (Fx.loop (fun c0=>Sh.jK x0 x1 x2 c0) 0) fun _=>Sh.sX)
def Sh.oY (x0:QState) (x1:QMark) (x2:Bool):Option Bool :=
 (Fx.seq (Fx.loop (fun c0=>Sh.jJ x0 x1 x2 c0) 0) fun _=>Sh.oZ x0 x1 x2)
def Sh.lI (x0:QState) (x1:QMark) (x2:Bool):Option Bool :=
 (Fx.seq (Fx.loop (fun c0=>Sh.jI x0 x1 x2 c0) 0) fun _=>Sh.oY x0 x1 x2)
def Sh.pT (x0:QState) (x1:QMark) (c1:Bool):Option ((QState × Int)) :=
 (bif c1 then (some ((QState.mk (⟨List.replicate 11 LVal.zero,rfl⟩ : Vec LVal 11) (⟨List.replicate 32 LSlot.zero,rfl⟩ : Vec LSlot 32) [] [] [] 0 0 false),231)) else ((Sh.sJ x0 x1 false).bind fun c0=>((Fx.app 8 c0.sent x1.sent).bind fun c2=>(some ((QState.mk c0.regs c0.stack c0.ctx c0.tables c2 x1.next (IntKind.i64.wrap (x0.steps + 1)) x1.done),0)))))
def Sh.eC (x0:QState) (x1:QMark):Option ((QState × Int)) :=
 ((Sh.fG x0).bind fun c1=>(bif (!c1) then (some ((QState.mk (⟨List.replicate 11 LVal.zero,rfl⟩ : Vec LVal 11) (⟨List.replicate 32 LSlot.zero,rfl⟩ : Vec LSlot 32) [] [] [] 0 0 false),1)) else ((Sh.iR x1).bind fun c2=>(bif (!c2) then (some ((QState.mk (⟨List.replicate 11 LVal.zero,rfl⟩ : Vec LVal 11) (⟨List.replicate 32 LSlot.zero,rfl⟩ : Vec LSlot 32) [] [] [] 0 0 false),230)) else (Fx.seq (bif x0.done then (some (Sum.inl true)) else (bif (!decide (x0.at_ = x1.at_)) then (some (Sum.inl true)) else (bif (decide (x0.steps = 4294967296)) then (some (Sum.inl true)) else ((Sh.lI x0 x1 true).bind fun c3=>(some (Sum.inl (!c3))))))) fun c0=>Sh.pT x0 x1 c0)))))
end Go.Proofs
end
section
namespace Go.Fx
open Go Go.Fw
structure RecN where
  l:Nat
  d:Nat
  fn:Nat
  ts:Array Value
  ps:Array Tmp
  ag:Code
  bd:Code
def RecN.o (rc:RecN) (st:LoopState) (pd:Option Code):Obj:=.loop { state:=st,pending:=pd,fn:=rc.fn,tmps:=rc.ts,params:=rc.ps,assign:=rc.ag,body:=rc.bd,defers:=rc.d }
abbrev recR (rc:RecN) (st:LoopState) (pd:Option Code):Res:=.obj rc.l (rc.o st pd)
abbrev dfO:Obj:=.deferred (some [])
abbrev mark (d:Nat):Deferred:={ target:=.collected d,args:=#[] }
structure FrT (n:Nat) (F:List (Nat × Value)) (ts:Array Value):Prop where
  size:ts.size = n
  get:∀ i v,Go.Fw.look F i = some v → ts[i]? = some v
theorem Fr.toT {n:Nat} {F:List (Nat × Value)} {a:Act} {dd:List Deferred} (h:Fr n F a dd):FrT n F a.tmps:=⟨h.size,h.get⟩
theorem FrT.fr {n:Nat} {F:List (Nat × Value)} {ts:Array Value} (h:FrT n F ts) (dd:List Deferred):Fr n F { tmps:=ts,defers:=dd } dd:=⟨rfl,h.size,h.get⟩
theorem FrT.put {n d:Nat} {F:List (Nat × Value)} {ts:Array Value} {v:Value} (h:FrT n F ts) (hd:Nat.blt d n = true):FrT n ((d,v) :: F) (ts.setIfInBounds d v):=by
  have:=Fr.put (h.fr []) (v:=v) hd
  exact ⟨this.size,this.get⟩
theorem jO {w:World} {b:Nat} {o o':Obj} (hb:w.heap[b]? = some o):Upd (.obj b o) (.obj b o') w (w.putObj b o'):=by
  have hlt:b < w.heap.size:=(Array.getElem?_eq_some_iff.1 hb).1
  refine ⟨⟨rfl,rfl,rfl⟩,by simp [World.putObj],fun k _ hf=>?_,?_,fun _ hk=>.inl hk⟩
  · exact World.putObj_heap_other (fun e=>hf e)
  · exact World.putObj_heap_same hlt
section
variable {P:Program} {n:Nat} {F:List (Nat × Value)} {a:Act} {dd:List Deferred} {w:World} {L:List Res} {Q:Exit → Act → World → Prop}
def RangeEnd (P:Program) (n:Nat) (F:List (Nat × Value)) (dd:List Deferred) (rc:RecN) (Q:Exit → Act → World → Prop) (w:World):Prop :=
  ∀ a,Fr n F a (mark rc.d :: dd) → ∃ jump w',(Instr.endLoop rc.l).run P w = .ok jump w' ∧ (match jump with
    | none=>Q .normal a w'
    | some c=>Wp none P c Q a w')
variable {rc:RecN}
theorem xU {st:LoopState} {pd:Option Code} (hst:st ≠ .busy) (hM:MemL w (recR rc st pd :: L)):∃ w',(Instr.endLoop rc.l).run P w = .ok pd w' ∧ MemL w' L:=by
  have ho:w.heap[rc.l]? = some (rc.o st pd):=hM.hold 0 _ rfl
  exact ⟨_,run_endLoop (P:=P) ho hst,(hM.chg (jO (o':=rc.o .exhausted pd) ho) (i:=0) rfl).tail⟩
theorem aBj (hM:MemL w (recR rc .ready none :: L)) (next:∀ a w',Fr n F a (mark rc.d :: dd) → MemL w' L → Q .normal a w'):RangeEnd P n F dd rc Q w:=by
  intro a hF
  obtain ⟨w',h1,h2⟩:=xU (P:=P) (by intro h; cases h) hM
  exact ⟨none,w',h1,next a _ hF h2⟩
theorem aDv (hM:MemL w (recR rc .done (some .ret) :: L)) (next:∀ a w',Fr n F a (mark rc.d :: dd) → MemL w' L → Q .ret a w'):RangeEnd P n F dd rc Q w:=by
  intro a hF
  obtain ⟨w',h1,h2⟩:=xU (P:=P) (by intro h; cases h) hM
  exact ⟨some .ret,w',h1,c_ret (next a _ hF h2)⟩
theorem aG3 {g:Operand} {ps:Array Tmp} {ag bd:Code} {f:Nat} {fs cs:List Value} {R:RecN → Value → World → Prop} (hcf:∀ args w,(callFunc f args).run P w = .ok (.enter f args) w) (hF:Fr n F a dd) (hM:MemL w L) (hg:ev F g = some (.func (.func f) fs.toArray cs.toArray))
    (hcall:∀ (rc:RecN) w',rc.ps = ps → rc.ag = ag → rc.bd = bd → FrT n F rc.ts → MemL w' (recR rc .ready none :: .obj rc.d dfO :: L) → Calls P f (fs ++ .func (.yield rc.l) #[] #[] :: cs).toArray w' (Ret (R rc)))
    (hgo:∀ (rc:RecN) v w',R rc v w' → RangeEnd P n F dd rc Q w'):Wp none P (.rangeFunc g ps ag bd) Q a w:=by
  refine wpIn_rangeFunc fun fn _=>?_
  have hA1:MemL (w.alloc dfO) (.obj w.heap.size dfO :: L):=hM.plus (Added.alloc w dfO)
  have hs:(w.alloc dfO).heap.size = w.heap.size + 1:=by simp
  let rc:RecN:=⟨w.heap.size + 1,w.heap.size,fn,a.tmps,ps,ag,bd⟩
  have hA2:=hA1.plus (Added.alloc (w.alloc dfO) (rc.o .ready none))
  rw [hs] at hA2
  refine ⟨w.heap.size + 1,[mark w.heap.size],(w.alloc dfO).alloc (rc.o .ready none),{ target:=.fn (.func f) cs.toArray,args:=fs.toArray ++ #[.func (.yield (w.heap.size + 1)) #[] #[]] },(w.alloc dfO).alloc (rc.o .ready none),f,
    (fs ++ .func (.yield (w.heap.size + 1)) #[] #[] :: cs).toArray,(w.alloc dfO).alloc (rc.o .ready none),?_,?_,fun _ _=>trivial,?_,fun hx=>qM hx,?_⟩
  · rw [show (Wd none).round = none from rfl,run_enterLoop_outer fn a.tmps ps ag bd]
    rfl
  · have hev:a.eval g = .func (.func f) fs.toArray cs.toArray:=hF.eval hg
    simp only [resolve,hev,Deferred.ofValue,Sem.run_pure]
    simp [Act.eval]
  · simp only [invoke]
    simp [hcf]
  · refine pM.2 (Calls.mono (hcall rc _ rfl rfl rfl (Fr.toT hF) hA2) fun e w3 hr=>?_)
    cases e <;> simp only [Ret] at hr
    have hF':Fr n F { a with defers:=[mark w.heap.size] ++ a.defers } (mark rc.d :: dd):=⟨by simp [hF.defers,rc],hF.size,hF.get⟩
    obtain ⟨jump,w4,h1,h2⟩:=hgo _ _ _ hr _ hF'
    refine ⟨jump,w4,h1,?_⟩
    cases jump <;> exact h2
theorem yH {o:Oper} {f:Operand} {xs:List Operand} {vs:List Value} {tys:Array TypeId} {i:Nat} {pd:Option Code} {ts':Array Value} {ps:List Tmp} {ag bd:Code} {J:Value → World → Prop} (hF:Fr n F a dd) (ho:o.op = .call { callee:=.value f,args:=xs.toArray,argTypes:=tys }) (hf:ev F f = some (.func (.yield rc.l) #[] #[])) (hx:evs F xs = some vs)
    (hM:MemL w L) (hi:L[i]? = some (recR rc .ready pd)) (hps:rc.ps = ps.toArray) (hag:rc.ag = ag) (hbd:rc.bd = bd) (hl:vs.length = ps.length) (hts:(ps.zip vs).foldl (fun tm (p:Tmp × Value)=>tm.setIfInBounds p.1 p.2) rc.ts = ts')
    (h:Wp (some rc.l) P ag (Exit.then (fun a1 w1=>∃ w2,(Instr.beginRound rc.l).run P w1 = .ok () w2 ∧ Wp (some rc.l) P bd (roundPost P rc.l (Ret J)) a1 w2) (fun _ _ _=>False)) { tmps:=ts',defers:=[] } w):Yd P o a.eval w J:=by
  have hob:w.heap[rc.l]? = some (rc.o .ready pd):=hM.hold i _ hi
  have hy:=run_yield (P:=P) (args:=vs.toArray) hob (by simp [hl,hps])
  have hrd:RoundIn (Wd none) 0 P rc.l rc.fn ts' ag bd w (Ret J):=roundIn_of_wpIn (F:=Wd none) trivial h
  have e1:(ps.toArray.zip vs.toArray).foldl (fun (tmps:Array Value) (p:Tmp × Value)=>tmps.setIfInBounds p.1 p.2) rc.ts = ts':=by
    rw [← hts,List.zip_toArray,List.foldl_toArray]
  have hev:=hF.eval hf
  have hevs:=hF.evals hx
  unfold Yd
  have hrun:(execOp a.eval o).run P w = .ok (.round rc.l rc.fn ts' ag bd) w:=by
    simp only [execOp,ho,resolve,hev,Deferred.ofValue,Sem.run_bind,Sem.run_pure,Result.andThen_ok,invoke,List.map_toArray,hevs,Array.empty_append,Array.append_empty]
    rw [← e1,← hag,← hbd]
    simp only [hps] at hy
    exact hy
  rw [hrun]
  exact hrd
theorem uS {i:Nat} {pd:Option Code} {K:World → Prop} (hM:MemL w L) (hi:L[i]? = some (recR rc .ready pd))
    (next:∀ w',MemL w' (L.set i (recR rc .busy pd)) → K w'):∃ w2,(Instr.beginRound rc.l).run P w = .ok () w2 ∧ K w2 :=
  ⟨_,run_beginRound (P:=P) (hM.hold i _ hi) rfl,next _ (hM.chg (jO (hM.hold i _ hi)) hi)⟩
theorem wK {i:Nat} {pd:Option Code} {st:LoopState} {J:Value → World → Prop} (hM:MemL w L) (hi:L[i]? = some (recR rc st pd))
    (next:∀ w',MemL w' (L.set i (recR rc .ready none)) → J (.bool true) w'):roundPost P rc.l (Ret J) .normal a w :=
  ⟨_,_,run_endRound (P:=P) none (hM.hold i _ hi),next _ (hM.chg (jO (hM.hold i _ hi)) hi)⟩
theorem uT {i:Nat} {pd:Option Code} {st:LoopState} {J:Value → World → Prop} (hM:MemL w L) (hi:L[i]? = some (recR rc st pd))
    (next:∀ w',MemL w' (L.set i (recR rc .done (some .ret))) → J (.bool false) w'):roundPost P rc.l (Ret J) .ret a w :=
  ⟨_,_,run_endRound (P:=P) (some .ret) (hM.hold i _ hi),next _ (hM.chg (jO (hM.hold i _ hi)) hi)⟩
def Leave (P:Program) (fn:Func) (ts:Array Value) (R:Value → World → Prop) (w:World):Prop:=∃ v,(results fn ts).run P w = .ok v w ∧ R v w
theorem sI {fn:Func} {R:Value → World → Prop} {d:Nat} {ds:List Deferred} {ts:Array Value} {i:Nat} (hM:MemL w L) (hi:L[i]? = some (.obj d dfO)) (next:∀ w',MemL w' (L.set i (.obj d (.deferred none))) → LeavesInM (Wd none) 0 P fn ts (Ret R) ds .returning w'):LeavesInM (Wd none) 0 P fn ts (Ret R) (mark d :: ds) .returning w:=by
  refine ⟨fun h=>(by cases h),.inl ⟨d,_,rfl,run_takeDeferred (P:=P) (hM.hold i _ hi),?_⟩⟩
  exact next _ (hM.chg (jO (hM.hold i _ hi)) hi)
theorem tW {fn:Func} {R:Value → World → Prop} {ts:Array Value} (h:Leave P fn ts R w):LeavesInM (Wd none) 0 P fn ts (Ret R) [] .returning w:=h
theorem aB5 {fn:Func} {R:Value → World → Prop} {ds:List Deferred} (hF:Fr n F a ds) (h:LeavesInM (Wd none) 0 P fn a.tmps (Ret R) ds .returning w):bP P fn (Ret R) .ret a w:=by
  show LeavesInM (Wd none) 0 P fn a.tmps (Ret R) a.defers .returning w
  rw [hF.defers]; exact h
theorem aFc {fn:Func} {rs:List ResultVar} {vs:List Value} {v:Value} {R:Value → World → Prop} {ts:Array Value} (hr:fn.results = rs.toArray) (hv:resOf P w ts rs vs) (he:(if vs.length = 1 then vs.headD undef else .tuple vs.toArray) = v) (h:R v w):Leave P fn ts R w :=
  ⟨v,by rw [nX hr hv,he],h⟩
end
end Go.Fx
end
section
namespace Go.Fx
open Go Go.Fw Go.Proofs
structure MixQ (B R:World → Prop) (n:Nat) (h:Bool) (hs:List RPiece) (ls:List QPiece):Prop where
  len:hs.length = ls.length
  own:∀ i x y,i < n → hs[i]? = some x → ls[i]? = some y → QPieceIn R x y
  lent:∀ i x y,n ≤ i → (h = false ∨ i ≠ n) → hs[i]? = some x → ls[i]? = some y → QPieceIn B x y
  half:h = true → ∀ x y,hs[n]? = some x → ls[n]? = some y → x.table = y.table ∧ x.from_ = y.from_ ∧ LIn R x.old y.old ∧ LIn B x.new y.new
section
variable {B R R':World → Prop} {n:Nat} {hs:List RPiece} {ls:List QPiece} {i:Int} {x:QPiece} {y:RPiece} {s:SV}
theorem MixQ.of (q:Each (QPieceIn B) hs ls):MixQ B R 0 false hs ls:=⟨q.len,fun i x y h=>absurd h (Nat.not_lt_zero _),fun i x y _ _ hx hy=>q.at_ i x y hx hy,fun h=>by cases h⟩
theorem MixQ.getr {h:Bool} (q:MixQ B R n h hs ls) (hx:Fx.get ls i = some x):(0 ≤ i ∧ i < (hs.length:Int)) ∧ ∃ y,hs[i.toNat]? = some y ∧ (n ≤ i.toNat → h = false → QPieceIn B y x):=by
  obtain ⟨h0,h1⟩:=aM hx
  have h2:=(List.getElem?_eq_some_iff.1 h1).1
  have h3:i.toNat < hs.length:=by rw [q.len]; exact h2
  exact ⟨by omega,hs[i.toNat],List.getElem?_eq_getElem h3,fun hn hf=>q.lent _ _ _ hn (.inl hf) (List.getElem?_eq_getElem h3) h1⟩
theorem vB {X:Type} {l:List X} {k j:Nat} {a b:X} (h:(l.set k a)[j]? = some b):(k = j ∧ b = a) ∨ (k ≠ j ∧ l[j]? = some b):=by
  rw [List.getElem?_set] at h
  split at h
  · rename_i e
    split at h
    · exact .inl ⟨e,(Option.some.inj h).symm⟩
    · cases h
  · exact .inr ⟨by assumption,h⟩
theorem MixQ.old (q:MixQ B R n false hs ls) (hx:Fx.get ls i = some x) (hy:hs[i.toNat]? = some y) (hi:i.toNat = n) (k:∀ w,R' w → R w) (hs':∀ w,R' w → SliceOf 0 w s x.old):MixQ B R' n true (hs.set i.toNat { y with old:=s }) ls:=by
  obtain ⟨h0,h1⟩:=aM hx
  have hb:=q.lent _ _ _ (Nat.le_of_eq hi.symm) (.inl rfl) hy h1
  refine ⟨by rw [List.length_set]; exact q.len,fun j a b hj ha hb'=>?_,fun j a b hj hne ha hb'=>?_,fun _ a b ha hb'=>?_⟩
  · rcases vB ha with ⟨e,_⟩ | ⟨e,ha⟩
    · omega
    · exact (q.own j a b hj ha hb').mono k
  · rcases vB ha with ⟨e,_⟩ | ⟨e,ha⟩
    · rcases hne with hne | hne
      · cases hne
      · omega
    · exact q.lent j a b hj (.inl rfl) ha hb'
  · rcases vB ha with ⟨e,rfl⟩ | ⟨e,ha⟩
    · rw [← hi] at hb'
      cases h1.symm.trans hb'
      obtain ⟨so,sn,rfl,f0,f1⟩:=hb
      exact ⟨rfl,rfl,hs',f1⟩
    · exact absurd hi e
theorem MixQ.new (q:MixQ B R n true hs ls) (hx:Fx.get ls i = some x) (hy:hs[i.toNat]? = some y) (hi:i.toNat = n) (k:∀ w,R' w → R w) (hs':∀ w,R' w → SliceOf 0 w s x.new):MixQ B R' (n + 1) false (hs.set i.toNat { y with new:=s }) ls:=by
  obtain ⟨h0,h1⟩:=aM hx
  have hh:=q.half rfl y x (by rw [← hi]; exact hy) (by rw [← hi]; exact h1)
  refine ⟨by rw [List.length_set]; exact q.len,fun j a b hj ha hb'=>?_,fun j a b hj _ ha hb'=>?_,fun h=>by cases h⟩
  · rcases vB ha with ⟨e,rfl⟩ | ⟨e,ha⟩
    · rw [← e] at hb'
      cases h1.symm.trans hb'
      obtain ⟨g1,g2,g3,g4⟩:=hh
      obtain ⟨t,f,so,sn⟩:=y
      simp only at g1 g2 g3
      subst g1 g2
      exact ⟨so,s,rfl,LIn.mono g3 k,hs'⟩
    · exact (q.own j a b (by omega) ha hb').mono k
  · rcases vB ha with ⟨e,_⟩ | ⟨e,ha⟩
    · omega
    · exact q.lent j a b (by omega) (.inr (by omega)) ha hb'
theorem MixQ.done (q:MixQ B R n false hs ls) (hn:ls.length ≤ n):Each (QPieceIn R) hs ls :=
  ⟨q.len,fun i x y hx hy=>q.own i x y (by have:=(List.getElem?_eq_some_iff.1 hy).1; omega) hx hy⟩
end
end Go.Fx
end
noncomputable section
namespace Go.Proofs
open Go Go.Fw Go.Fx
set_option maxRecDepth 10000
def Sh.rD (x0:QInput):Option QState :=
 ((Fx.get (⟨List.replicate 11 LVal.zero,rfl⟩ : Vec LVal 11).l 1).bind fun x36=>((Fx.get ((⟨List.replicate 11 LVal.zero,rfl⟩ : Vec LVal 11).set (1:Int).toNat (LVal.mk 3 x36.table x36.row x36.x)).l 2).bind fun x38=>((Fx.get (((⟨List.replicate 11 LVal.zero,rfl⟩ : Vec LVal 11).set (1:Int).toNat (LVal.mk 3 x36.table x36.row x36.x)).set (2:Int).toNat (LVal.mk 1 0 0 (x0.ctx.length:Int))).l 10).bind fun x40=>((Sh.hS (QState.mk ((((⟨List.replicate 11 LVal.zero,rfl⟩ : Vec LVal 11).set (1:Int).toNat (LVal.mk 3 x36.table x36.row x36.x)).set (2:Int).toNat (LVal.mk 1 0 0 (x0.ctx.length:Int))).set (10:Int).toNat (LVal.mk 2 0 0 256)) (⟨List.replicate 32 LSlot.zero,rfl⟩ : Vec LSlot 32) x0.ctx x0.tables [] 0 0 false)).bind fun y43=>(some y43)))))
def Sh.rU (c0:QState) (c1:Int) (c2:Int):Option (((QState × Int × Int) ⊕ ((QState × Int) ⊕ (((QState × Int × Int × Int) ⊕ Int) ⊕ (QState × Int × Int))))) :=
 (some (Sum.inr (Sum.inr (Sum.inl (Sum.inl (c0,c1,0,c2))))))
def Sh.qI (c0:Int) (c1:Int) (c2:Int):Option (((QState × Int × Int) ⊕ ((QState × Int) ⊕ (((QState × Int × Int × Int) ⊕ Int) ⊕ (QState × Int × Int))))) :=
 (some (Sum.inr (Sum.inr (Sum.inl (Sum.inl ((QState.mk (⟨List.replicate 11 LVal.zero,rfl⟩ : Vec LVal 11) (⟨List.replicate 32 LSlot.zero,rfl⟩ : Vec LSlot 32) [] [] [] 0 0 false),c0,c1,c2))))))
def Sh.oH (c2:QState) (c3:Int) (c7:QMark) (c0:Int):Option (((QState × Int × Int) ⊕ ((QState × Int) ⊕ (((QState × Int × Int × Int) ⊕ Int) ⊕ (QState × Int × Int))))) :=
 ((Sh.cO c2 c7).bind fun c1=>(bif (!decide (c1.2 = 0)) then (Fx.seq (some (Sum.inl ((IntKind.i64.wrap ((IntKind.i64.wrap (c0 + 1)) - 1)),c1.2,(IntKind.i64.wrap (c0 + 1))))) (fun (c4,c5,c6)=>Sh.qI c4 c5 c6)) else (some (Sum.inl (c1.1,c0,(IntKind.i64.wrap (c3 + 1)))))))
def Sh.iL (x1:Int) (c3:QRecord) (c1:QState) (c0:Int) (c2:Int):Option (((QState × Int × Int) ⊕ ((QState × Int) ⊕ (((QState × Int × Int × Int) ⊕ Int) ⊕ (QState × Int × Int))))) :=
 (bif (decide (c2 < (c3.marks.length:Int))) then ((Fx.get c3.marks c2).bind fun c8=>(Fx.seq (bif (!decide (0 = 0)) then (some (Sum.inl (Sum.inl ((QState.mk (⟨List.replicate 11 LVal.zero,rfl⟩ : Vec LVal 11) (⟨List.replicate 32 LSlot.zero,rfl⟩ : Vec LSlot 32) [] [] [] 0 0 false),(IntKind.i64.wrap ((IntKind.i64.wrap (c0 + 1)) - 1)),(IntKind.i64.wrap (c0 + 1)))))) else (bif (decide ((IntKind.i64.wrap (c0 + 1)) = x1)) then (some (Sum.inl (Sum.inl (c1,0,(IntKind.i64.wrap (c0 + 1)))))) else (some (Sum.inl (Sum.inr (IntKind.i64.wrap (c0 + 1))))))) (Sum.elim (fun (c4,c5,c6)=>Sh.rU c4 c5 c6) (fun c7=>Sh.oH c1 c2 c8 c7)))) else (some (Sum.inr (Sum.inl (c1,c0)))))
def Sh.qJ (c0:QState) (c1:Int) (c2:Int):Option ((((QState × Int × Int × Int) ⊕ Int) ⊕ (QState × Int × Int))) :=
 (some (Sum.inl (Sum.inl (c0,c1,0,c2))))
def Sh.uA (c0:Int):Option ((((QState × Int × Int × Int) ⊕ Int) ⊕ (QState × Int × Int))) :=
 (some (Sum.inl (Sum.inr c0)))
def Sh.oI (x1:Int) (c1:QState) (c0:Int):Option ((((QState × Int × Int × Int) ⊕ Int) ⊕ (QState × Int × Int))) :=
 (Fx.seq (bif (!decide (0 = 0)) then (some (Sum.inl (Sum.inl ((QState.mk (⟨List.replicate 11 LVal.zero,rfl⟩ : Vec LVal 11) (⟨List.replicate 32 LSlot.zero,rfl⟩ : Vec LSlot 32) [] [] [] 0 0 false),(IntKind.i64.wrap ((IntKind.i64.wrap (c0 + 1)) - 1)),(IntKind.i64.wrap (c0 + 1)))))) else (bif (decide ((IntKind.i64.wrap (c0 + 1)) = x1)) then (some (Sum.inl (Sum.inl (c1,0,(IntKind.i64.wrap (c0 + 1)))))) else (some (Sum.inl (Sum.inr (IntKind.i64.wrap (c0 + 1))))))) (Sum.elim (fun (c2,c3,c4)=>Sh.qJ c2 c3 c4) (fun c5=>Sh.uA c5)))
def Sh.uB (c0:QState) (c1:Int) (c2:Int) (c3:Int):Option ((QState × Int × Int)) :=
 (some (c0,c1,c2))
def Sh.uC (c0:Int):Option ((QState × Int × Int)) :=
 (some ((QState.mk (⟨List.replicate 11 LVal.zero,rfl⟩ : Vec LVal 11) (⟨List.replicate 32 LSlot.zero,rfl⟩ : Vec LSlot 32) [] [] [] 0 0 false),0,1))
def Sh.rT (x1:Int) (c0:QRecord):Option ((QState × Int × Int)) :=
 (Fx.seq ((Sh.rD c0.in_).bind fun d1=>(Fx.seq (Fx.loop (fun (c8,c9,d0)=>Sh.iL x1 c0 c8 c9 d0) (d1,(-1),0)) fun (c6,c7)=>Sh.oI x1 c6 c7)) (Sum.elim (fun (c1,c2,c3,c4)=>Sh.uB c1 c2 c3 c4) (fun c5=>Sh.uC c5)))
def Sh.oB (x0:QRecord) (x1:Int):Option ((QState × Int × Int)) :=
 ((Sh.bG x1 0 (x0.marks.length:Int)).bind fun c1=>(bif (!c1) then (some ((QState.mk (⟨List.replicate 11 LVal.zero,rfl⟩ : Vec LVal 11) (⟨List.replicate 32 LSlot.zero,rfl⟩ : Vec LSlot 32) [] [] [] 0 0 false),0,1)) else ((Sh.gF x0.in_).bind fun c2=>(bif (!c2) then (some ((QState.mk (⟨List.replicate 11 LVal.zero,rfl⟩ : Vec LVal 11) (⟨List.replicate 32 LSlot.zero,rfl⟩ : Vec LSlot 32) [] [] [] 0 0 false),0,3)) else (Fx.seq (some (Sum.inl x0)) (fun c0=>Sh.rT x1 c0))))))
def Sh.mF (c2:List QPiece) (c1:Nat) (c0:Int):Option (((Nat × Int) ⊕ (Nat ⊕ QMark))) :=
 (bif (decide (c0 < (c2.length:Int))) then ((Fx.get c2 c0).bind fun c3=>(Fx.must (decide (c1 ≤ (c0:Int).toNat)) ((Sh.eB c3.old).bind fun c6=>((Sh.eB c3.new).bind fun c7=>((Fx.get c2 c0).bind fun c4=>(Fx.must (decide (c1 ≤ (c0:Int).toNat)) (Fx.must (decide ((c0:Int).toNat = c1)) (Fx.must (decide (c6 = c4.old)) ((Fx.get c2 c0).bind fun c5=>(Fx.must (decide ((c0:Int).toNat = c1)) (Fx.must (decide (c7 = c5.new)) (some (Sum.inl ((c1 + 1),(IntKind.i64.wrap (c0 + 1)))))))))))))))) else (some (Sum.inr (Sum.inl c1))))
def Sh.sB (x0:QMark) (c2:List LTurn) (c3:List LCell) (c4:List Int) (c0:List QPiece) (c1:Nat):Option QMark :=
 (Fx.must (decide (c0.length ≤ c1)) (some (QMark.mk x0.at_ x0.next x0.done c2 c3 c0 c4)))
def Sh.tH (x0:QMark):Option QMark :=
 ((Sh.cT x0.regs).bind fun c4=>((Sh.cS x0.slots).bind fun c5=>((Sh.eA x0.sent).bind fun c6=>((Sh.cG x0.pieces).bind fun c0=>(Fx.seq (Fx.loop (fun (c2,c3)=>Sh.mF c0 c2 c3) (0,0)) fun c1=>Sh.sB x0 c4 c5 c6 c0 c1)))))
def Sh.mB (c2:List QMark) (c0:QRecord) (c1:Int):Option (((QRecord × Int) ⊕ (QRecord ⊕ (QRecord × Int)))) :=
 (bif (decide (c1 < (c2.length:Int))) then ((Fx.get c2 c1).bind fun c3=>((Sh.tH c3).bind fun c5=>((Fx.app 120 c0.marks [c5]).bind fun c4=>(some (Sum.inl ((QRecord.mk c0.in_ c4 c0.end_),(IntKind.i64.wrap (c1 + 1)))))))) else (some (Sum.inr (Sum.inl c0))))
def Sh.uT (c0:QRecord):Option ((QRecord × Int)) :=
 (some (c0,0))
def Sh.rS (x0:QRecord) (x1:Int) (c1:Int):Option ((QRecord × Int)) :=
 ((Sh.hS (QState.mk (⟨List.replicate 11 LVal.zero,rfl⟩ : Vec LVal 11) (⟨List.replicate 32 LSlot.zero,rfl⟩ : Vec LSlot 32) x0.in_.ctx x0.in_.tables [] 0 0 false)).bind fun c0=>(Fx.seq ((Fx.slc x0.marks 0 x1).bind fun c5=>(Fx.loop (fun (c3,c4)=>Sh.mB c5 c3 c4) ((QRecord.mk (QInput.mk c0.ctx c0.tables) [] c1),0))) fun c2=>Sh.uT c2))
def Sh.qH (x0:QRecord) (x1:Int):Option ((QRecord × Int)) :=
 ((Sh.bG x1 0 (x0.marks.length:Int)).bind fun c1=>(bif (!c1) then (some ((QRecord.mk (QInput.mk [] []) [] 0),1)) else (Fx.seq (bif (decide (x1 < (x0.marks.length:Int))) then (some (Sum.inl 88)) else (some (Sum.inl x0.end_))) fun c0=>Sh.rS x0 x1 c0)))
def Sh.rB (x0:QInput):Option QState :=
 ((Fx.get (⟨List.replicate 11 LVal.zero,rfl⟩ : Vec LVal 11).l 1).bind fun x38=>((Fx.get ((⟨List.replicate 11 LVal.zero,rfl⟩ : Vec LVal 11).set (1:Int).toNat (LVal.mk 3 0 0 0)).l 2).bind fun x40=>((Fx.get (((⟨List.replicate 11 LVal.zero,rfl⟩ : Vec LVal 11).set (1:Int).toNat (LVal.mk 3 0 0 0)).set (2:Int).toNat (LVal.mk 1 0 0 (x0.ctx.length:Int))).l 10).bind fun x42=>((Sh.mQ (QState.mk ((((⟨List.replicate 11 LVal.zero,rfl⟩ : Vec LVal 11).set (1:Int).toNat (LVal.mk 3 0 0 0)).set (2:Int).toNat (LVal.mk 1 0 0 (x0.ctx.length:Int))).set (10:Int).toNat (LVal.mk 2 0 0 256)) (⟨List.replicate 32 LSlot.zero,rfl⟩ : Vec LSlot 32) x0.ctx x0.tables [] 0 0 false)).bind fun y45=>(some y45)))))
def Sh.oG (c0:Int) (c2:QState) (c1:Int):Option (((QState × Int) ⊕ (QState ⊕ (QState × Int × Int)))) :=
 (bif (!decide (c1 = 0)) then (some (Sum.inr (Sum.inr ((QState.mk (⟨List.replicate 11 LVal.zero,rfl⟩ : Vec LVal 11) (⟨List.replicate 32 LSlot.zero,rfl⟩ : Vec LSlot 32) [] [] [] 0 0 false),c0,c1)))) else (some (Sum.inl (c2,(IntKind.i64.wrap (c0 + 1))))))
def Sh.kC (x0:QRecord) (x1:Int) (c1:QState) (c0:Int):Option (((QState × Int) ⊕ (QState ⊕ (QState × Int × Int)))) :=
 (bif (decide (c0 < x1)) then (Fx.seq ((Fx.get x0.marks c0).bind fun c5=>((Sh.eC c1 c5).bind fun c2=>(some (Sum.inl (c2.1,c2.2))))) fun (c3,c4)=>Sh.oG c0 c3 c4) else (some (Sum.inr (Sum.inl c1))))
def Sh.rJ (c0:QState):Option ((QState × Int × Int)) :=
 (some (c0,0,0))
def Sh.oF (x0:QRecord) (x1:Int) (c0:Bool):Option ((QState × Int × Int)) :=
 (bif c0 then (some ((QState.mk (⟨List.replicate 11 LVal.zero,rfl⟩ : Vec LVal 11) (⟨List.replicate 32 LSlot.zero,rfl⟩ : Vec LSlot 32) [] [] [] 0 0 false),0,1)) else ((Sh.gQ x0.in_).bind fun c4=>(bif (!c4) then (some ((QState.mk (⟨List.replicate 11 LVal.zero,rfl⟩ : Vec LVal 11) (⟨List.replicate 32 LSlot.zero,rfl⟩ : Vec LSlot 32) [] [] [] 0 0 false),0,3)) else ((Sh.rB x0.in_).bind fun c5=>(Fx.seq (Fx.loop (fun (c2,c3)=>Sh.kC x0 x1 c2 c3) (c5,0)) fun c1=>Sh.rJ c1)))))
def Sh.nZ (x0:QRecord) (x1:Int):Option ((QState × Int × Int)) :=
 (Fx.seq (bif (decide (x1 < 0)) then (some (Sum.inl true)) else (some (Sum.inl (decide ((x0.marks.length:Int) < x1))))) fun c0=>Sh.oF x0 x1 c0)
def Sh.oE (v75:QRecord):Option ((QRecord × Int)) :=
 (some (v75,0))
def Sh.rI (x0:QRecord) (x1:Int) (v63:Bool):Option ((QRecord × Int)) :=
 (bif v63 then (some ((QRecord.mk (QInput.mk [] []) [] 0),1)) else ((Fx.slc x0.marks 0 x1).bind fun x69=>(Fx.seq (bif (decide (x1 < (x0.marks.length:Int))) then (some (Sum.inl (QRecord.mk x0.in_ x69 88))) else (some (Sum.inl (QRecord.mk x0.in_ x69 x0.end_)))) fun v75=>Sh.oE v75)))
def Sh.pW (x0:QRecord) (x1:Int):Option ((QRecord × Int)) :=
 (Fx.seq (bif (decide (x1 < 0)) then (some (Sum.inl true)) else (some (Sum.inl (decide ((x0.marks.length:Int) < x1))))) fun v63=>Sh.rI x0 x1 v63)
def Sh.lS (c0:Bool):Option Bool :=
 (some c0)
def Sh.lR (c2:QRecord) (c3:(QState × Int × Int)) (c4:(QRecord × Int)) (c5:(QState × Int × Int)) (c6:(QRecord × Int)) (c0:Bool):Option Bool :=
 (bif c0 then (some false) else ((Sh.kU c2).bind fun c9=>(Fx.seq ((Sh.bE c3.1 c5.1).bind fun c7=>(bif c7 then ((Sh.bO c4.1 c6.1).bind fun c8=>(some (Sum.inl c8))) else (some (Sum.inl false)))) fun c1=>Sh.lS c1)))
def Sh.nY (x0:QRecord) (x1:Int):Option Bool :=
 ((Sh.cN).bind fun c6=>(bif (!c6) then (some false) else ((Sh.tZ x0).bind fun c0=>((Sh.oB c0 x1).bind fun c1=>((Sh.qH c0 x1).bind fun c3=>((Sh.nZ x0 x1).bind fun c2=>((Sh.pW x0 x1).bind fun c4=>(Fx.seq (bif (!decide (c1.2.2 = c2.2.2)) then (some (Sum.inl true)) else (bif (!decide (c1.2.1 = c2.2.1)) then (some (Sum.inl true)) else (bif (!decide (c3.2 = c4.2)) then (some (Sum.inl true)) else ((Sh.bE c1.1 c2.1).bind fun c7=>(bif (!c7) then (some (Sum.inl true)) else ((Sh.bO c3.1 c4.1).bind fun c8=>(bif (!c8) then (some (Sum.inl true)) else ((Sh.tX c0 x0).bind fun c9=>(some (Sum.inl (!c9))))))))))) fun c5=>Sh.lR c0 c1 c3 c2 c4 c5))))))))
end Go.Proofs
end
section
namespace Go.Sp
open Go Go.Fw Go.Fx
theorem w64 {x:Int} (h : -9223372036854775808 ≤ x ∧ x ≤ 9223372036854775807):IntKind.i64.wrap x = x:=kT h
def lows:Nat → Int → List UInt8
  | 0,_=>[]
  | n + 1,x=>Fw.byteOf x :: lows n (x.fdiv 256)
theorem cD (n:Nat) (x:Int):(lows n x).length = n:=by
  induction n generalizing x with
  | zero=>rfl
  | succ n ih=>simp [lows,ih]
def num:List UInt8 → Nat
  | []=>0
  | b :: l=>b.toNat + 256 * num l
theorem aBb (l:List UInt8):num l < 256 ^ l.length:=by
  induction l with
  | nil=>simp [num]
  | cons b l ih =>
    simp only [num,List.length_cons,Nat.pow_succ]
    have:=b.toNat_lt
    omega
theorem aFi (l:List UInt8) (b:UInt8):num (l ++ [b]) = num l + 256 ^ l.length * b.toNat:=by
  induction l with
  | nil=>simp [num]
  | cons a l ih =>
    simp only [List.cons_append,num,ih,List.length_cons,Nat.pow_succ,Nat.mul_add]
    rw [Nat.mul_comm (256 ^ l.length) 256,Nat.mul_assoc]
    omega
theorem aCt (x:Int):∃ k:Int,IntKind.i64.wrap x = x + 18446744073709551616 * k:=by
  unfold IntKind.wrap
  simp only [IntKind.signed,IntKind.bits,Bool.true_and,decide_eq_true_eq]
  have h:=Int.emod_add_mul_ediv x (2 ^ 64)
  split
  · exact ⟨-(x / 2 ^ 64) - 1,by omega⟩
  · exact ⟨-(x / 2 ^ 64),by omega⟩
theorem uF (x:Int):BitVec.ofInt 64 (IntKind.i64.wrap x) = BitVec.ofInt 64 x:=by
  obtain ⟨k,hk⟩:=aCt x
  rw [hk]
  apply BitVec.eq_of_toInt_eq
  simp only [BitVec.toInt_ofInt]
  rw [show (18446744073709551616:Int) = ((2 ^ 64:Nat):Int) by rfl,Int.add_mul_bmod_self_left]
theorem aEb {N b m:Nat} (hN:N < 2 ^ m) (hb:2 ^ m * b + N < 2 ^ 64):bor .i64 (IntKind.i64.wrap (N:Nat)) (IntKind.i64.wrap ((2 ^ m * b:Nat):Int)) = IntKind.i64.wrap ((N + 2 ^ m * b:Nat):Int):=by
  have e0:∀ x y,bor .i64 x y = IntKind.i64.wrap ((BitVec.ofInt 64 x ||| BitVec.ofInt 64 y).toNat:Int):=fun _ _=>rfl
  rw [e0,uF,uF,BitVec.toNat_or,BitVec.ofInt_natCast,BitVec.ofInt_natCast,BitVec.toNat_ofNat,BitVec.toNat_ofNat,Nat.mod_eq_of_lt (by omega),Nat.mod_eq_of_lt (by omega),Nat.or_comm,
    ← Nat.two_pow_add_eq_or_of_lt hN,Nat.add_comm]
end Go.Sp
end
section
namespace Go.Sp
open Go Go.Fw Go.Fx Go.Proofs
structure Wf (b:List UInt8) (r:QReader):Prop where
  b_eq:r.b = b
  at0:0 ≤ r.at_
  at1:r.at_ ≤ b.length
  p0:0 ≤ r.place
  p1:r.place ≤ b.length
def Rd (b:List UInt8) (r r':QReader) (enc:List UInt8) (good:Prop):Prop :=
  Wf b r' ∧ (r'.e = 0 → r.e = 0 ∧ good ∧ b.drop r.at_.toNat = enc ++ b.drop r'.at_.toNat)
section
variable {b:List UInt8} {r r1 r2:QReader}
theorem Rd.trans {e1 e2:List UInt8} {g1 g2:Prop} (h:Rd b r r1 e1 g1) (k:Rd b r1 r2 e2 g2):Rd b r r2 (e1 ++ e2) (g1 ∧ g2) :=
  ⟨k.1,fun he=>by
    obtain ⟨h1,h2,h3⟩:=k.2 he
    obtain ⟨h4,h5,h6⟩:=h.2 h1
    exact ⟨h4,⟨h5,h2⟩,by rw [h6,h3,List.append_assoc]⟩⟩
theorem Rd.refl (h:Wf b r):Rd b r r [] True:=⟨h,fun he=>⟨he,trivial,rfl⟩⟩
theorem Rd.imp {e e':List UInt8} {g g':Prop} (h:Rd b r r1 e g) (k:g → e = e' ∧ g'):Rd b r r1 e' g' :=
  ⟨h.1,fun he=>by obtain ⟨h1,h2,h3⟩:=h.2 he; obtain ⟨h4,h5⟩:=k h2; subst h4; exact ⟨h1,h5,h3⟩⟩
theorem Rd.bad (h:Wf b r1) (he:r1.e ≠ 0) {e:List UInt8} {g:Prop}:Rd b r r1 e g:=⟨h,fun k=>absurd k he⟩
theorem sL (y:List UInt8 × QReader) (hl:y.1.length ≤ 8):∀ (m k:Nat),m + k = y.1.length →
    Fx.loop (fun (v:Int × Int)=>match v with | (v1,v2)=>Sh.eK y v1 v2) ((k:Int),IntKind.i64.wrap (num (y.1.take k):Nat)) = some (Sum.inl (y.2,IntKind.i64.wrap (num y.1:Nat))):=by
  intro m
  induction m with
  | zero =>
    intro k hk
    rw [Fx.loop_eq]
    have h:¬ ((k:Int) < (y.1.length:Int)):=by omega
    simp [Sh.eK,h,List.take_of_length_le (show y.1.length ≤ k by omega)]
  | succ m ih =>
    intro k hk
    rw [Fx.loop_eq]
    have h:((k:Int) < (y.1.length:Int)):=by omega
    have hkl:k < y.1.length:=by omega
    have e1:IntKind.i64.wrap (8 * (k:Int)) = 8 * (k:Int):=w64 (by omega)
    have e2:IntKind.i64.wrap ((k:Int) + 1) = ((k + 1:Nat):Int):=by rw [w64 (by omega)]; rfl
    have hg:Fx.get y.1 (k:Int) = some y.1[k]:=by simp [Fx.get,List.getElem?_eq_getElem hkl]
    have e3:(8 * (k:Int)).toNat = 8 * k:=by omega
    have e4:shl .i64 (y.1[k].toNat:Int) (8 * k) = IntKind.i64.wrap ((2 ^ (8 * k) * y.1[k].toNat:Nat):Int):=by
      unfold shl
      rw [Nat.min_eq_left (by simp [IntKind.bits]; omega),Int.mul_comm]
      congr 1
    have hN:=aBb (y.1.take k)
    rw [List.length_take,Nat.min_eq_left (by omega)] at hN
    have e256:(256:Nat) ^ k = 2 ^ (8 * k):=by rw [Nat.pow_mul]
    have hb:=y.1[k].toNat_lt
    have hb2:2 ^ (8 * k) * y.1[k].toNat + num (y.1.take k) < 2 ^ 64:=by
      have h1:2 ^ (8 * k) * y.1[k].toNat ≤ 2 ^ (8 * k) * 255:=Nat.mul_le_mul_left _ (by omega)
      have h2:2 ^ (8 * k) * 256 ≤ 2 ^ 64:=by
        rw [show (256:Nat) = 2 ^ 8 by rfl,← Nat.pow_add]; exact Nat.pow_le_pow_right (by decide) (by omega)
      rw [← e256] at h1 h2 ⊢
      omega
    have e5:num (y.1.take (k + 1)) = num (y.1.take k) + 2 ^ (8 * k) * y.1[k].toNat:=by
      rw [List.take_add_one,List.getElem?_eq_getElem hkl,Option.toList_some,aFi,List.length_take,Nat.min_eq_left (by omega),e256]
    have:=ih (k + 1) (by omega)
    simp only [Sh.eK,h,decide_true,cond_true,hg,Option.bind_some,e1,e2,Fx.must,show (0 ≤ 8 * (k:Int)) by omega,e3,e4,aEb (by rw [← e256]; exact hN) hb2]
    rw [← e5]
    exact this
end
end Go.Sp
end
section
namespace Go.Sp
open Go Go.Fw Go.Fx
section
variable {σ γ X:Type} {body:σ → Option (σ ⊕ γ)}
theorem eK {s s':σ} {o:Option γ} (h:body s = some (.inl s')) (k:loop body s' = o):loop body s = o:=by rw [loop_eq,h]; exact k
theorem dQ {s:σ} {g:γ} (h:body s = some (.inr g)):loop body s = some g:=by rw [loop_eq,h]
theorem cM {α:Type} (n:Nat) (st:Nat → α → σ) (I:Nat → α → Prop) (Q:γ → Prop)
    (h:∀ i a,i < n → I i a → (∃ a',body (st i a) = some (.inl (st (i + 1) a')) ∧ I (i + 1) a') ∨ ∃ g,body (st i a) = some (.inr g) ∧ Q g)
    (h':∀ a,I n a → ∃ g,body (st n a) = some (.inr g) ∧ Q g):∀ m i a,m + i = n → I i a → ∃ g,loop body (st i a) = some g ∧ Q g:=by
  intro m
  induction m with
  | zero =>
    intro i a e hI
    obtain rfl:i = n:=by omega
    obtain ⟨g,hg,hq⟩:=h' a hI
    exact ⟨g,dQ hg,hq⟩
  | succ m ih =>
    intro i a e hI
    rcases h i a (by omega) hI with ⟨a',hb,hI'⟩ | ⟨g,hg,hq⟩
    · obtain ⟨g,hg,hq⟩:=ih (i + 1) a' (by omega) hI'
      exact ⟨g,eK hb hg,hq⟩
    · exact ⟨g,dQ hg,hq⟩
end
theorem bB {τ γ:Type} {x:τ} {k:τ → Option γ}:Fx.seq (some (Sum.inl x)) k = k x:=rfl
theorem kJ {τ γ:Type} {x:γ} {k:τ → Option γ}:Fx.seq (some (Sum.inr x)) k = some x:=rfl
theorem cE {τ γ:Type} {t:Option (τ ⊕ γ)} {o:τ ⊕ γ} {k:τ → Option γ} {u:Option γ} (h:t = some o) (h':Fx.fin k o = u):Fx.seq t k = u:=by rw [h]; exact h'
theorem next64 {i n:Nat} (h:i < n) (hn:n ≤ 4611686018427387904):IntKind.i64.wrap ((i:Int) + 1) = ((i + 1:Nat):Int):=by rw [w64 (by omega)]; rfl
theorem bO {X:Type} {l:List X} {i:Nat} (h:i < l.length):Fx.get l (i:Int) = some l[i]:=by simp [Fx.get,List.getElem?_eq_getElem h]
theorem cG {i n:Nat}:decide ((i:Int) < (n:Int)) = decide (i < n):=by simp
theorem dB {X:Type} {bytes:Nat} {l m:List X} (h:(l.length + m.length) * bytes ≤ 140737488355328) (k:l.length + m.length ≤ 4611686018427387904):Fx.app bytes l m = some (l ++ m):=if_pos ⟨h,k⟩
end Go.Sp
end
section
namespace Go.Sp
open Go Go.Fw Go.Fx Go.Proofs
def encRest (v:LVal):List UInt8:=(if v.kind = 5 then [Fw.byteOf v.table,Fw.byteOf v.row] else []) ++ (if v.kind = 0 then [] else lows 8 v.x)
def encVal (v:LVal):List UInt8:=Fw.byteOf v.kind :: encRest v
section
variable {b:List UInt8} {r r1 r2:QReader}
theorem Rd.at_ {e:List UInt8} {g:Prop} (hw:Wf b r) (h:Rd b r r1 e g) (he:r1.e = 0):r1.at_ = r.at_ + e.length:=by
  have h1:=congrArg List.length (h.2 he).2.2
  simp only [List.length_append,List.length_drop] at h1
  have:=hw.at1; have:=h.1.at1; have:=hw.at0; have:=h.1.at0
  omega
def bit (m:Int) (i:Nat):Bool:=decide (band .i64 (shr .i64 m i) 1 = 1)
def encBytes (l:List UInt8) (m:Int):Nat → Nat → List UInt8
  | _,0=>[]
  | i,n + 1=>(if bit m i then [l.getD i 0] else []) ++ encBytes l m (i + 1) n
def encSlot (s:LSlot):List UInt8:=if s.ptr.kind = 0 then 0 :: Fw.byteOf s.mask :: encBytes s.bytes.l s.mask 0 8 else encVal s.ptr
end
end Go.Sp
end
section
namespace Go.Sp
open Go Go.Fw Go.Fx Go.Proofs
theorem dR (x lo hi:Int):Sh.bG x lo hi = some (decide (lo ≤ x ∧ x ≤ hi)):=by
  unfold Sh.bG
  by_cases h:lo ≤ x <;> simp [h,Fx.seq,Fx.fin,Sh.pM]
end Go.Sp
end
section
namespace Go.Sp
open Go Go.Fw Go.Fx Go.Proofs
def encTurn (t:LTurn):List UInt8:=[Fw.byteOf t.reg] ++ encVal t.old ++ encVal t.new
def encCell (t:LCell):List UInt8:=[Fw.byteOf t.slot] ++ encSlot t.old ++ encSlot t.new
def encPiece (p:QPiece):List UInt8:=[Fw.byteOf (IntKind.i64.wrap (p.table + 1))] ++ lows 2 p.from_ ++ lows 2 (p.old.length:Int) ++ p.old ++ p.new
def encMark (m:QMark):List UInt8:=lows 2 m.at_ ++ lows 2 m.next ++ [if m.done then 1 else 0] ++ [Fw.byteOf (m.regs.length:Int)] ++ m.regs.flatMap encTurn ++
  [Fw.byteOf (m.slots.length:Int)] ++ m.slots.flatMap encCell ++ lows 4 (m.pieces.length:Int) ++ m.pieces.flatMap encPiece ++ [Fw.byteOf (m.sent.length:Int)] ++ m.sent.flatMap (lows 8)
def encRow (t:List UInt8):List UInt8:=lows 2 (t.length:Int) ++ t
def encRecord (p:QRecord):List UInt8:=[84,82,67,49] ++ lows 2 (p.in_.ctx.length:Int) ++ p.in_.ctx ++ [Fw.byteOf (p.in_.tables.length:Int)] ++ p.in_.tables.flatMap encRow ++
  [Fw.byteOf p.end_] ++ lows 4 (p.marks.length:Int) ++ p.marks.flatMap encMark
end Go.Sp
end
section
namespace Go.Sp
open Go Go.Fw Go.Fx Go.Proofs
def cur (r:QReader):QCursor:=QCursor.mk r.b r.at_ r.place r.e
def tk (r:QReader) (n:Int):List UInt8 × QReader :=
  if r.e = 0 then (if r.at_ + n ≤ r.b.length then ((r.b.drop r.at_.toNat).take n.toNat,QReader.mk r.b (r.at_ + n) r.place r.e) else ([],QReader.mk r.b r.at_ r.b.length 236)) else ([],r)
section
variable {b:List UInt8} {r r1 r2:QReader}
theorem qZ (hb:b.length ≤ 16777216) (hw:Wf b r) {n:Int} (hn:0 ≤ n ∧ n ≤ 4294967296):Sh.aU r n = some (tk r n):=by
  obtain ⟨h1,h2,h3,h4,h5⟩:=hw
  unfold Sh.aU tk
  have e1:IntKind.i64.wrap ((r.b.length:Int) - r.at_) = (b.length:Int) - r.at_:=by rw [h1]; exact w64 (by omega)
  rw [e1]
  have e2:IntKind.i64.wrap (r.at_ + n) = r.at_ + n:=w64 (by omega)
  have e3:IntKind.i64.wrap (r.at_ + n - n) = r.at_:=by rw [w64 (by omega)]; omega
  by_cases he:r.e = 0
  · by_cases hlt:(b.length:Int) - r.at_ < n
    · have h6:¬ r.at_ + n ≤ (r.b.length:Int):=by rw [h1]; omega
      simp [hlt,he,h6,Sh.aB,bB,Sh.cE]
    · have h6:r.at_ + n ≤ (r.b.length:Int):=by rw [h1]; omega
      have e4:(r.at_ + n).toNat - r.at_.toNat = n.toNat:=by omega
      simp only [hlt,decide_false,cond_false,bB,Sh.cE,he,decide_true,Bool.not_true,e2,e3,if_true,h6,Fx.slc]
      have h7:0 ≤ r.at_ ∧ r.at_ ≤ r.at_ + n ∧ True:=⟨h2,by omega,trivial⟩
      rw [if_pos h7,e4]; rfl
  · by_cases hlt:(b.length:Int) - r.at_ < n
    · simp [hlt,he,Sh.aB,bB,Sh.cE]
    · simp [hlt,he,bB,Sh.cE]
theorem lX (hb:b.length ≤ 16777216) (hw:Wf b r) {n:Nat} (hn:n ≤ 8):Sh.aA r (n:Nat) = some (IntKind.i64.wrap (num (tk r n).1:Nat),(tk r n).2):=by
  have ht:=qZ hb hw (n:=(n:Nat)) (by omega)
  have hxl:(tk r n).1.length ≤ 8:=by unfold tk; split <;> (try split) <;> simp <;> omega
  have hl:=sL (tk r n) hxl (tk r n).1.length 0 (by simp)
  have e0:IntKind.i64.wrap ((num ((tk r n).1.take 0):Nat):Int) = 0:=by simp [num]; rfl
  rw [e0] at hl
  unfold Sh.aA
  simp only [ht,Option.bind_some]
  exact cE hl rfl
theorem zJ (x:List UInt8) (i:Nat) (h:i < x.length):num (x.drop i) = x[i].toNat + 256 * num (x.drop (i + 1)):=by
  rw [List.drop_eq_getElem_cons h]; rfl
theorem wu64 {x:Int} (h:0 ≤ x ∧ x < 18446744073709551616):IntKind.u64.wrap x = x:=by
  simp [IntKind.wrap,IntKind.signed,IntKind.bits]; omega
theorem vO (c:QCursor) (x:List UInt8) (h0:0 ≤ c.at_) (hc:c.at_ ≤ 16777216) (hx:x.length ≤ 8) (hg:∀ i (h:i < x.length),Fx.get c.b (c.at_ + (i:Int)) = some x[i]):∀ (m:Nat),m ≤ x.length →
    Fx.loop (fun (v:Int × Int)=>match v with | (v1,v2)=>Sh.eJ c v1 v2) ((num (x.drop m):Nat),(m:Int) - 1) = some (Sum.inl ((num x:Nat):Int)):=by
  intro m
  induction m with
  | zero=>intro _; exact dQ (by simp [Sh.eJ])
  | succ m ih =>
    intro hm
    have hlt:=aBb (x.drop m)
    rw [List.length_drop] at hlt
    have h8:256 ^ (x.length - m) ≤ 256 ^ 8:=Nat.pow_le_pow_right (by decide) (by omega)
    have h8':256 ^ 8 = 18446744073709551616:=by decide
    rw [zJ x m (by omega)] at hlt
    have e1:((m + 1:Nat):Int) - 1 = (m:Int):=by omega
    refine eK ?_ (ih (by omega))
    rw [e1]
    have h1:(0:Int) ≤ (m:Int):=by omega
    have e2:IntKind.i64.wrap (c.at_ + (m:Int)) = c.at_ + (m:Int):=w64 (by omega)
    have e3:IntKind.i64.wrap ((m:Int) - 1) = (m:Int) - 1:=w64 (by omega)
    have e4:IntKind.u64.wrap (IntKind.u64.wrap (((num (x.drop (m + 1)):Nat):Int) * 256) + ((x[m]'(by omega)).toNat:Int)) = ((num (x.drop m):Nat):Int):=by
      rw [zJ x m (by omega)]
      rw [wu64 (x:=((num (x.drop (m + 1)):Nat):Int) * 256) (by omega),wu64 (by omega)]
      omega
    simp only [Sh.eJ,h1,decide_true,cond_true,e2,hg m (by omega),Option.bind_some,e3,e4]
theorem yR (hb:b.length ≤ 16777216) (hw:Wf b r) {n:Nat} (hn:n ≤ 8):Sh.aC (cur r) (n:Nat) = some (IntKind.i64.wrap (num (tk r n).1:Nat),cur (tk r n).2):=by
  obtain ⟨h1,h2,h3,h4,h5⟩:=hw
  have e2:IntKind.i64.wrap (r.at_ + (n:Int)) = r.at_ + n:=w64 (by omega)
  unfold Sh.aC tk
  by_cases he:r.e = 0
  · by_cases hlt:r.at_ + (n:Int) ≤ (r.b.length:Int)
    · have h6:¬ (r.b.length:Int) < r.at_ + (n:Int):=by omega
      simp only [cur,he,decide_true,cond_true,e2,h6,decide_false,bB,Sh.dH,cond_false,Sh.dG,Bool.not_true,if_true,hlt]
      have hlen:((r.b.drop r.at_.toNat).take (n:Int).toNat).length = n:=by simp; omega
      have:=vO (QCursor.mk r.b r.at_ r.place 0) ((r.b.drop r.at_.toNat).take (n:Int).toNat) h2 (by simp; omega) (by omega) (fun i h=>by
        have hi:r.at_.toNat + i < r.b.length:=by rw [hlen] at h; omega
        have e:(r.at_ + (i:Int)).toNat = r.at_.toNat + i:=by omega
        simp only [Fx.get]
        rw [if_pos (by omega),e,List.getElem?_eq_getElem hi]
        simp) n (by omega)
      rw [List.drop_of_length_le (by omega)] at this
      have e5:IntKind.i64.wrap ((n:Int) - 1) = (n:Int) - 1:=w64 (by omega)
      rw [e5]
      exact cE this (by simp only [Fx.fin,Sh.iT,e2,cur])
    · have h6:(r.b.length:Int) < r.at_ + (n:Int):=by omega
      simp [cur,he,e2,h6,bB,Sh.dH,Sh.dG,hlt,Sh.aL,num]
      rfl
  · simp [cur,he,bB,Sh.dH,Sh.dG,num]
    rfl
end
end Go.Sp
end
section
namespace Go.Sp
open Go Go.Fw Go.Fx Go.Proofs
section
variable {b:List UInt8} {r r1 r2:QReader}
theorem gO (hb:b.length ≤ 16777216) (hw:Wf b r) (n:Nat) (hn:n ≤ 8) {v:Int} (h:Sh.aA r (n:Nat) = some (v,r1)):Sh.aC (cur r) (n:Nat) = some (v,cur r1) ∧ (r1.e ≠ 0 → v = 0):=by
  rw [lX hb hw hn] at h
  have h1:=congrArg Prod.fst (Option.some.inj h)
  have h2:=congrArg Prod.snd (Option.some.inj h)
  simp only at h1 h2
  subst h1 h2
  refine ⟨yR hb hw hn,fun he=>?_⟩
  have:(tk r n).1 = []:=by
    unfold tk at he ⊢
    split
    · rename_i h0
      rw [if_pos h0] at he
      split
      · rename_i h1; rw [if_pos h1] at he; exact absurd h0 he
      · rfl
    · rfl
  rw [this]; simp [num]; rfl
end
end Go.Sp
end
section
namespace Go.Sp
open Go Go.Fw Go.Fx Go.Proofs
theorem gD (x lo hi:Int):Sh.bV x lo hi = some (decide (lo ≤ x ∧ x ≤ hi)):=by
  unfold Sh.bV
  by_cases h:lo ≤ x <;> simp [h,Fx.seq,Fx.fin,Sh.pC]
theorem prev64 {i:Nat} (h:0 < i) (hn:i ≤ 4611686018427387904):IntKind.i64.wrap ((i:Int) - 1) = ((i - 1:Nat):Int):=by rw [w64 (by omega)]; omega
structure OkAt {X:Type} (key:X → Int) (bad:X → Prop) (top:Int) (l:List X) (i:Nat) (h:i < l.length):Prop where
  lo:0 ≤ key l[i]
  hi:key l[i] ≤ top
  un:¬ bad l[i]
  up:∀ (k:0 < i),key (l[i - 1]'(by omega)) < key l[i]
def AllOk {X:Type} (key:X → Int) (bad:X → Prop) (top:Int) (l:List X) (n:Nat):Prop:=∀ i (h:i < l.length),i < n → OkAt key bad top l i h
def AllReg (m:QMark) (n:Nat):Prop:=AllOk (fun t:LTurn=>t.reg) (fun t=>t.old = t.new) 10 m.regs n
def AllSlot (m:QMark) (n:Nat):Prop:=AllOk (fun t:LCell=>t.slot) (fun t=>t.old = t.new) 31 m.slots n
theorem AllOk.succ {X:Type} {key:X → Int} {bad:X → Prop} {top:Int} {l:List X} {n:Nat} (h:AllOk key bad top l n) (hn:n < l.length) (k:OkAt key bad top l n hn):AllOk key bad top l (n + 1):=by
  intro i hi hin
  by_cases e:i = n
  · subst e; exact k
  · exact h i hi (by omega)
theorem aBm {m:QMark} (hm:m.regs.length ≤ 1099511627776):∃ g,Fx.loop (fun (v:Int × Int)=>match v with | (v1,v2)=>Sh.bI m v1 v2) (0,-1) = some g ∧ ((g = Sum.inl () ∧ AllReg m m.regs.length) ∨ (g = Sum.inr false ∧ ¬ AllReg m m.regs.length)):=by
  refine cM (body:=fun (v:Int × Int)=>match v with | (v1,v2)=>Sh.bI m v1 v2) m.regs.length (fun i (a:Int)=>((i:Int),a)) (fun i a=>AllReg m i ∧ ((i = 0 ∧ a = -1) ∨ ∃ h:i - 1 < m.regs.length,0 < i ∧ a = (m.regs[i - 1]).reg)) _
    (fun i a hi hI=>?_) (fun a hI=>⟨Sum.inl (),by simp [Sh.bI],.inl ⟨rfl,hI.1⟩⟩) m.regs.length 0 (-1) (by omega) ⟨fun _ _ h=>by omega,.inl ⟨rfl,rfl⟩⟩
  show (∃ a',Sh.bI m (i:Int) a = _ ∧ _) ∨ ∃ g,Sh.bI m (i:Int) a = _ ∧ _
  obtain ⟨hA,ha⟩:=hI
  have hrange : -1 ≤ a ∧ a ≤ 10:=by
    rcases ha with ⟨_,rfl⟩ | ⟨h,h0,rfl⟩
    · omega
    · have:=hA (i - 1) h (by omega); have h1:=this.lo; have h2:=this.hi; omega
  have e1:IntKind.i64.wrap (a + 1) = a + 1:=w64 (by omega)
  have hup:∀ q:Int,(∀ (k:0 < i),(m.regs[i - 1]'(by omega)).reg < q) ∧ 0 ≤ q ↔ a + 1 ≤ q:=by
    intro q
    rcases ha with ⟨h0,rfl⟩ | ⟨h,h0,rfl⟩
    · subst h0; constructor
      · rintro ⟨_,h⟩; omega
      · intro h; exact ⟨fun k=>by omega,by omega⟩
    · have:=(hA (i - 1) h (by omega)).lo
      constructor
      · rintro ⟨h1,_⟩; have:=h1 h0; omega
      · intro h1; exact ⟨fun _=>by omega,by omega⟩
  simp only [Sh.bI,cG,hi,decide_true,cond_true,bO hi,Option.bind_some,dR,Sh.nR,e1]
  by_cases c:a + 1 ≤ (m.regs[i]).reg ∧ (m.regs[i]).reg ≤ 10
  · by_cases c':(m.regs[i]).old = (m.regs[i]).new
    · right
      refine ⟨Sum.inr false,by simp [c,c',bB],.inr ⟨rfl,fun h=>(h i hi hi).un c'⟩⟩
    · left
      refine ⟨(m.regs[i]).reg,by simp [c,c',bB,next64 hi (show m.regs.length ≤ _ by omega)],hA.succ hi ⟨((hup _).2 c.1).2,c.2,c',((hup _).2 c.1).1⟩,.inr ⟨by omega,by omega,rfl⟩⟩
  · right
    refine ⟨Sum.inr false,by simp [c,bB],.inr ⟨rfl,fun h=>c ⟨(hup _).1 ⟨(h i hi hi).up,(h i hi hi).lo⟩,(h i hi hi).hi⟩⟩⟩
theorem aJj {m:QMark} (hm:m.regs.length ≤ 1099511627776):∃ g,Fx.loop (fun (v:Int)=>Sh.fL m v) 0 = some g ∧ ((g = Sum.inl () ∧ AllReg m m.regs.length) ∨ (g = Sum.inr false ∧ ¬ AllReg m m.regs.length)):=by
  refine cM (body:=fun (v:Int)=>Sh.fL m v) m.regs.length (fun i (a:Unit)=>(i:Int)) (fun i a=>AllReg m i) _
    (fun i a hi hA=>?_) (fun a hI=>⟨Sum.inl (),by simp [Sh.fL],.inl ⟨rfl,hI⟩⟩) m.regs.length 0 () (by omega) (fun _ _ h=>by omega)
  show (∃ a',Sh.fL m (i:Int) = _ ∧ _) ∨ ∃ g,Sh.fL m (i:Int) = _ ∧ _
  simp only [Sh.fL,cG,hi,decide_true,cond_true,bO hi,Option.bind_some,gD,Sh.pX]
  by_cases c:0 ≤ (m.regs[i]).reg ∧ (m.regs[i]).reg ≤ 10
  · by_cases c':(m.regs[i]).old = (m.regs[i]).new
    · right
      refine ⟨Sum.inr false,by simp [c,c',bB],.inr ⟨rfl,fun h=>(h i hi hi).un c'⟩⟩
    · by_cases h0:0 < i
      · have h0':(0:Int) < (i:Int):=by omega
        have hp:i - 1 < m.regs.length:=by omega
        by_cases c2:(m.regs[i]).reg ≤ (m.regs[i - 1]).reg
        · right
          refine ⟨Sum.inr false,by simp [c,c',h0,prev64 h0 (by omega),bO hp,c2,bB],.inr ⟨rfl,fun h=>?_⟩⟩
          have:=(h i hi hi).up h0
          omega
        · left
          refine ⟨(),by simp [c,c',h0,prev64 h0 (by omega),bO hp,c2,bB,next64 hi (show m.regs.length ≤ _ by omega)],AllOk.succ hA hi ⟨c.1,c.2,c',fun _=>by omega⟩⟩
      · left
        have h0':¬ (0:Int) < (i:Int):=by omega
        refine ⟨(),by simp [c,c',h0,bB,next64 hi (show m.regs.length ≤ _ by omega)],AllOk.succ hA hi ⟨c.1,c.2,c',fun k=>absurd k h0⟩⟩
  · right
    refine ⟨Sum.inr false,by simp [c,bB],.inr ⟨rfl,fun h=>c ⟨(h i hi hi).lo,(h i hi hi).hi⟩⟩⟩
theorem yA {m:QMark} (hm:m.slots.length ≤ 1099511627776):∃ g,Fx.loop (fun (v:Int × Int)=>match v with | (v1,v2)=>Sh.bJ m v1 v2) (-1,0) = some g ∧ ((g = Sum.inl () ∧ AllSlot m m.slots.length) ∨ (g = Sum.inr false ∧ ¬ AllSlot m m.slots.length)):=by
  refine cM (body:=fun (v:Int × Int)=>match v with | (v1,v2)=>Sh.bJ m v1 v2) m.slots.length (fun i (a:Int)=>(a,(i:Int))) (fun i a=>AllSlot m i ∧ ((i = 0 ∧ a = -1) ∨ ∃ h:i - 1 < m.slots.length,0 < i ∧ a = (m.slots[i - 1]).slot)) _
    (fun i a hi hI=>?_) (fun a hI=>⟨Sum.inl (),by simp [Sh.bJ],.inl ⟨rfl,hI.1⟩⟩) m.slots.length 0 (-1) (by omega) ⟨fun _ _ h=>by omega,.inl ⟨rfl,rfl⟩⟩
  show (∃ a',Sh.bJ m a (i:Int) = _ ∧ _) ∨ ∃ g,Sh.bJ m a (i:Int) = _ ∧ _
  obtain ⟨hA,ha⟩:=hI
  have hrange : -1 ≤ a ∧ a ≤ 31:=by
    rcases ha with ⟨_,rfl⟩ | ⟨h,h0,rfl⟩
    · omega
    · have:=hA (i - 1) h (by omega); have h1:=this.lo; have h2:=this.hi; omega
  have e1:IntKind.i64.wrap (a + 1) = a + 1:=w64 (by omega)
  have hup:∀ q:Int,(∀ (k:0 < i),(m.slots[i - 1]'(by omega)).slot < q) ∧ 0 ≤ q ↔ a + 1 ≤ q:=by
    intro q
    rcases ha with ⟨h0,rfl⟩ | ⟨h,h0,rfl⟩
    · subst h0; constructor
      · rintro ⟨_,h⟩; omega
      · intro h; exact ⟨fun k=>by omega,by omega⟩
    · have:=(hA (i - 1) h (by omega)).lo
      constructor
      · rintro ⟨h1,_⟩; have:=h1 h0; omega
      · intro h1; exact ⟨fun _=>by omega,by omega⟩
  simp only [Sh.bJ,cG,hi,decide_true,cond_true,bO hi,Option.bind_some,dR,Sh.nS,e1]
  by_cases c:a + 1 ≤ (m.slots[i]).slot ∧ (m.slots[i]).slot ≤ 31
  · by_cases c':(m.slots[i]).old = (m.slots[i]).new
    · right
      refine ⟨Sum.inr false,by simp [c,c',bB],.inr ⟨rfl,fun h=>(h i hi hi).un c'⟩⟩
    · left
      refine ⟨(m.slots[i]).slot,by simp [c,c',bB,next64 hi (show m.slots.length ≤ _ by omega)],hA.succ hi ⟨((hup _).2 c.1).2,c.2,c',((hup _).2 c.1).1⟩,.inr ⟨by omega,by omega,rfl⟩⟩
  · right
    refine ⟨Sum.inr false,by simp [c,bB],.inr ⟨rfl,fun h=>c ⟨(hup _).1 ⟨(h i hi hi).up,(h i hi hi).lo⟩,(h i hi hi).hi⟩⟩⟩
theorem aH6 {m:QMark} (hm:m.slots.length ≤ 1099511627776):∃ g,Fx.loop (fun (v:Int)=>Sh.fM m v) 0 = some g ∧ ((g = Sum.inl () ∧ AllSlot m m.slots.length) ∨ (g = Sum.inr false ∧ ¬ AllSlot m m.slots.length)):=by
  refine cM (body:=fun (v:Int)=>Sh.fM m v) m.slots.length (fun i (a:Unit)=>(i:Int)) (fun i a=>AllSlot m i) _
    (fun i a hi hA=>?_) (fun a hI=>⟨Sum.inl (),by simp [Sh.fM],.inl ⟨rfl,hI⟩⟩) m.slots.length 0 () (by omega) (fun _ _ h=>by omega)
  show (∃ a',Sh.fM m (i:Int) = _ ∧ _) ∨ ∃ g,Sh.fM m (i:Int) = _ ∧ _
  simp only [Sh.fM,cG,hi,decide_true,cond_true,bO hi,Option.bind_some,gD,Sh.pY]
  by_cases c:0 ≤ (m.slots[i]).slot ∧ (m.slots[i]).slot ≤ 31
  · by_cases c':(m.slots[i]).old = (m.slots[i]).new
    · right
      refine ⟨Sum.inr false,by simp [c,c',bB],.inr ⟨rfl,fun h=>(h i hi hi).un c'⟩⟩
    · by_cases h0:0 < i
      · have h0':(0:Int) < (i:Int):=by omega
        have hp:i - 1 < m.slots.length:=by omega
        by_cases c2:(m.slots[i]).slot ≤ (m.slots[i - 1]).slot
        · right
          refine ⟨Sum.inr false,by simp [c,c',h0,prev64 h0 (by omega),bO hp,c2,bB],.inr ⟨rfl,fun h=>?_⟩⟩
          have:=(h i hi hi).up h0
          omega
        · left
          refine ⟨(),by simp [c,c',h0,prev64 h0 (by omega),bO hp,c2,bB,next64 hi (show m.slots.length ≤ _ by omega)],AllOk.succ hA hi ⟨c.1,c.2,c',fun _=>by omega⟩⟩
      · left
        have h0':¬ (0:Int) < (i:Int):=by omega
        refine ⟨(),by simp [c,c',h0,bB,next64 hi (show m.slots.length ≤ _ by omega)],AllOk.succ hA hi ⟨c.1,c.2,c',fun k=>absurd k h0⟩⟩
  · right
    refine ⟨Sum.inr false,by simp [c,bB],.inr ⟨rfl,fun h=>c ⟨(h i hi hi).lo,(h i hi hi).hi⟩⟩⟩
def Differ (x y:List UInt8):Prop:=∀ i,i < x.length → x.getD i 0 ≠ y.getD i 0
structure OkP (l:List QPiece) (i:Nat) (h:i < l.length):Prop where
  lo : -1 ≤ (l[i]).table
  hi:(l[i]).table ≤ 7
  from0:0 ≤ (l[i]).from_
  ne:(l[i]).old.length ≠ 0
  eq:(l[i]).new.length = (l[i]).old.length
  top:(l[i]).from_ + ((l[i]).old.length:Int) ≤ 65535
  df:Differ (l[i]).old (l[i]).new
  up:∀ (k:0 < i),(l[i - 1]'(by omega)).table < (l[i]).table ∨ ((l[i - 1]'(by omega)).table = (l[i]).table ∧ (l[i - 1]'(by omega)).from_ + ((l[i - 1]'(by omega)).old.length:Int) < (l[i]).from_)
def AllP (l:List QPiece) (n:Nat):Prop:=∀ i (h:i < l.length),i < n → OkP l i h
theorem AllP.succ {l:List QPiece} {n:Nat} (h:AllP l n) (hn:n < l.length) (k:OkP l n hn):AllP l (n + 1):=by
  intro i hi hin
  by_cases e:i = n
  · subst e; exact k
  · exact h i hi (by omega)
theorem yT {x y:List UInt8} (h:y.length = x.length) (hx:x.length ≤ 1099511627776):∃ l,Sh.cH x y = some l ∧ l.length ≤ x.length ∧ (l.length = x.length ↔ Differ x y):=by
  unfold Sh.cH
  obtain ⟨g,h1,l,h2,h3,h4⟩:=cM (body:=fun (v:List Int × Int)=>match v with | (v1,v2)=>Sh.aT x y v1 v2) x.length (fun i (a:List Int)=>(a,(i:Int))) (fun i a=>a.length ≤ i ∧ (a.length = i ↔ ∀ j,j < i → x.getD j 0 ≠ y.getD j 0)) (fun g=>∃ l,g = Sum.inl l ∧ l.length ≤ x.length ∧ (l.length = x.length ↔ Differ x y))
    (fun i a hi ha=>.inl (by
      have ex:x.getD i 0 = x[i]:=by simp [List.getD,List.getElem?_eq_getElem hi]
      have ey:y.getD i 0 = y[i]'(by omega):=by simp [List.getD,List.getElem?_eq_getElem (show i < y.length by omega)]
      by_cases hc:x[i] = y[i]'(by omega)
      · refine ⟨a,by simp [Sh.aT,Sh.cA,hi,bO hi,bO (show i < y.length by omega),hc,bB,next64 hi (by omega)],by omega,?_⟩
        constructor
        · intro e; omega
        · intro e; exact absurd (by rw [ex,ey,hc]) (e i (by omega))
      · have hc':¬ ((x[i]).toNat:Int) = ((y[i]'(by omega)).toNat:Int):=fun e=>hc (UInt8.toNat_inj.1 (by omega))
        refine ⟨a ++ [(i:Int)],by simp [Sh.aT,Sh.cA,hi,bO hi,bO (show i < y.length by omega),hc',bB,next64 hi (by omega),dB (bytes:=8) (l:=a) (m:=[(i:Int)]) (by simp; omega) (by simp; omega)],by simp; omega,?_⟩
        simp only [List.length_append,List.length_singleton]
        constructor
        · intro e j hj
          by_cases hji:j = i
          · subst hji; rw [ex,ey]; exact hc
          · exact ha.2.1 (by omega) j (by omega)
        · intro e
          have:=ha.2.2 (fun j hj=>e j (by omega))
          omega))
    (fun a ha=>⟨Sum.inl a,by simp [Sh.aT],a,rfl,ha.1,ha.2⟩) x.length 0 [] (by omega) (by simp)
  subst h2
  exact ⟨l,cE h1 rfl,h3,h4⟩
end Go.Sp
end
section
namespace Go.Sp
open Go Go.Fw Go.Fx Go.Proofs
theorem uJ {l:List QPiece} (hl:l.length ≤ 1099511627776):∃ g,Fx.loop (fun (v:Int × Int × Int)=>match v with | (v1,v2,v3)=>Sh.aK l v1 v2 v3) (0,-1,0) = some g ∧ ((g = Sum.inl () ∧ AllP l l.length) ∨ (g = Sum.inr false ∧ ¬ AllP l l.length)):=by
  refine cM (body:=fun (v:Int × Int × Int)=>match v with | (v1,v2,v3)=>Sh.aK l v1 v2 v3) l.length (fun i (a:Int × Int)=>((i:Int),a.1,a.2)) (fun i a=>AllP l i ∧ ((i = 0 ∧ a = (-1,0)) ∨ ∃ h:i - 1 < l.length,0 < i ∧ a = ((l[i - 1]).table,(l[i - 1]).from_ + ((l[i - 1]).old.length:Int) + 1))) _
    (fun i a hi hI=>?_) (fun a hI=>⟨Sum.inl (),by simp [Sh.aK],.inl ⟨rfl,hI.1⟩⟩) l.length 0 (-1,0) (by omega) ⟨fun _ _ h=>by omega,.inl ⟨rfl,rfl⟩⟩
  obtain ⟨t,f⟩:=a
  obtain ⟨hA,ha⟩:=hI
  show (∃ a',Sh.aK l (i:Int) t f = _ ∧ _) ∨ ∃ g,Sh.aK l (i:Int) t f = _ ∧ _
  generalize hp:l[i] = p
  have ht : -1 ≤ t ∧ t ≤ 7 ∧ 0 ≤ f ∧ f ≤ 65536:=by
    rcases ha with ⟨_,e⟩ | ⟨h,h0,e⟩
    · cases e; omega
    · have:=hA (i - 1) h (by omega)
      have h1:=this.lo; have h2:=this.hi; have h3:=this.from0; have h4:=this.top
      cases e; omega
  have bad:(∀ h:OkP l i hi,False) → ∃ g,(some (Sum.inr (Sum.inr false)):Option ((Int × Int × Int) ⊕ (Unit ⊕ Bool))) = some (Sum.inr g) ∧ ((g = Sum.inl () ∧ AllP l l.length) ∨ (g = Sum.inr false ∧ ¬ AllP l l.length)) :=
    fun h=>⟨_,rfl,.inr ⟨rfl,fun k=>h (k i hi hi)⟩⟩
  -- what the place must be,said of the state (t,f)
  have hup:∀ h:OkP l i hi,t ≤ p.table ∧ (p.table = t → f ≤ p.from_):=by
    intro h
    rcases ha with ⟨h0,e⟩ | ⟨h',h0,e⟩
    · cases e; have:=h.lo; have:=h.from0; rw [hp] at *; exact ⟨by omega,fun _=>by omega⟩
    · cases e
      have:=h.up h0
      rw [hp] at this
      rcases this with h1 | ⟨h1,h2⟩
      · exact ⟨by omega,fun e=>by omega⟩
      · exact ⟨by omega,fun e=>by omega⟩
  have hdown:∀ q:Int,t ≤ p.table → 0 ≤ p.from_ → (p.table = t → f ≤ p.from_) → ∀ (k:0 < i),(l[i - 1]'(by omega)).table < p.table ∨ ((l[i - 1]'(by omega)).table = p.table ∧ (l[i - 1]'(by omega)).from_ + ((l[i - 1]'(by omega)).old.length:Int) < p.from_):=by
    intro q h1 h2 h3 k
    rcases ha with ⟨h0,e⟩ | ⟨h',h0,e⟩
    · omega
    · cases e
      by_cases hc:p.table = (l[i - 1]).table
      · right; have:=h3 hc; exact ⟨hc.symm,by omega⟩
      · left; omega
  have key:∀ f',0 ≤ f' ∧ f' ≤ 65536 → t ≤ p.table → p.table ≤ 7 → (f' ≤ p.from_ → 0 ≤ p.from_ → (p.table = t → f ≤ p.from_)) → (∀ h:OkP l i hi,f' ≤ p.from_) →
      (∃ a',Sh.cC (i:Int) p p.table f' = some (Sum.inl (((i + 1:Nat):Int),a'.1,a'.2)) ∧ AllP l (i + 1) ∧ ((i + 1 = 0 ∧ a' = ((-1,0):Int × Int)) ∨ ∃ h:i + 1 - 1 < l.length,0 < i + 1 ∧ a' = ((l[i + 1 - 1]).table,(l[i + 1 - 1]).from_ + ((l[i + 1 - 1]).old.length:Int) + 1))) ∨
      ∃ g,Sh.cC (i:Int) p p.table f' = some (Sum.inr g) ∧ ((g = Sum.inl () ∧ AllP l l.length) ∨ (g = Sum.inr false ∧ ¬ AllP l l.length)):=by
    intro f' hf h1 h2 h3 h4
    unfold Sh.cC
    by_cases c1:(p.old.length:Int) = 0
    · right; simpa [c1,bB,Sh.aW] using bad (fun h=>h.ne (by rw [hp]; omega))
    by_cases c2:(p.new.length:Int) = (p.old.length:Int)
    · by_cases c3:65535 < (p.old.length:Int)
      · right; simpa [c1,c2,c3,bB,Sh.aW] using bad (fun h=>by have h5:=h.top; have h6:=h.from0; rw [hp] at h5 h6; omega)
      · have e1:IntKind.i64.wrap (65535 - (p.old.length:Int)) = 65535 - (p.old.length:Int):=w64 (by omega)
        simp only [c1,c2,c3,decide_false,decide_true,cond_false,Bool.not_true,dR,Option.bind_some,e1]
        by_cases c4:f' ≤ p.from_ ∧ p.from_ ≤ 65535 - (p.old.length:Int)
        · obtain ⟨x,hx,hx1,hx2⟩:=yT (x:=p.old) (y:=p.new) (by omega) (by omega)
          simp only [c4,decide_true,Bool.not_true,cond_false,and_self,hx,Option.bind_some,bB,Sh.aW]
          by_cases c5:(x.length:Int) < (p.old.length:Int)
          · right
            rw [decide_eq_true c5]
            exact bad (fun h=>by have:=hx2.2 (by rw [← hp]; exact h.df); omega)
          · left
            have e2:IntKind.i64.wrap (IntKind.i64.wrap (p.from_ + (p.old.length:Int)) + 1) = p.from_ + (p.old.length:Int) + 1:=by rw [w64 (x:=p.from_ + (p.old.length:Int)) (by omega),w64 (by omega)]
            refine ⟨(p.table,p.from_ + (p.old.length:Int) + 1),by simp only [c5,decide_false,cond_false,next64 hi (show l.length ≤ _ by omega),e2],hA.succ hi ?_,.inr ⟨by omega,by omega,by simp [hp]⟩⟩
            have hd:=hx2.1 (by omega)
            refine ⟨by rw [hp]; omega,by rw [hp]; omega,by rw [hp]; omega,by rw [hp]; omega,by rw [hp]; omega,by rw [hp]; omega,by rw [hp]; exact hd,?_⟩
            rw [hp]
            exact hdown 0 h1 (by omega) (h3 c4.1 (by omega))
        · right
          simp only [c4,decide_false,Bool.not_false,cond_true,bB,Sh.aW]
          exact bad (fun h=>c4 ⟨h4 h,by have h5:=h.top; rw [hp] at h5; omega⟩)
    · right; simpa [c1,c2,bB,Sh.aW] using bad (fun h=>c2 (by have:=h.eq; rw [hp] at this; omega))
  simp only [Sh.aK,cG,hi,decide_true,cond_true,bO hi,hp,Option.bind_some,dR]
  by_cases c:t ≤ p.table ∧ p.table ≤ 7
  · simp only [c,and_self,decide_true,Bool.not_true,cond_false]
    by_cases c':t < p.table
    · simp only [c',decide_true,cond_true,bB]
      exact key 0 (by omega) c.1 c.2 (fun _ _ e=>by omega) (fun h=>by have:=h.from0; rw [hp] at this; exact this)
    · have e:p.table = t:=by omega
      simp only [c',decide_false,cond_false,bB]
      have:=key f (by omega) c.1 c.2 (fun h _ _=>h) (fun h=>(hup h).2 e)
      rw [e] at this
      rw [e] at *
      exact this
  · simp only [c,decide_false,Bool.not_false,cond_true,kJ]
    right
    exact bad (fun h=>c ⟨(hup h).1,by have:=h.hi; rw [hp] at this; exact this⟩)
theorem aG0 {x:QPiece} (h:x.new.length = x.old.length) (hx:x.old.length ≤ 1099511627776):∃ g,Fx.loop (fun (v:Int)=>Sh.gE x v) 0 = some g ∧ ((g = Sum.inl () ∧ Differ x.old x.new) ∨ (g = Sum.inr (Sum.inr (Sum.inr (Sum.inr false))) ∧ ¬ Differ x.old x.new)):=by
  refine cM (body:=fun (v:Int)=>Sh.gE x v) x.old.length (fun i (a:Unit)=>(i:Int)) (fun i a=>∀ j,j < i → x.old.getD j 0 ≠ x.new.getD j 0) _
    (fun i a hi hA=>?_) (fun a hI=>⟨Sum.inl (),by simp [Sh.gE],.inl ⟨rfl,hI⟩⟩) x.old.length 0 () (by omega) (fun _ h=>by omega)
  have hi2:i < x.new.length:=by omega
  have ex:x.old.getD i 0 = x.old[i]:=by simp [List.getD,List.getElem?_eq_getElem hi]
  have ey:x.new.getD i 0 = x.new[i]:=by simp [List.getD,List.getElem?_eq_getElem hi2]
  by_cases hc:((x.old[i]).toNat:Int) = ((x.new[i]).toNat:Int)
  · right
    refine ⟨Sum.inr (Sum.inr (Sum.inr (Sum.inr false))),by simp [Sh.gE,hi,bO hi,bO hi2,hc],.inr ⟨rfl,fun hd=>hd i hi ?_⟩⟩
    rw [ex,ey]
    exact UInt8.toNat_inj.1 (by omega)
  · left
    refine ⟨(),by simp [Sh.gE,hi,bO hi,bO hi2,hc,next64 hi (show x.old.length ≤ _ by omega)],fun j hj=>?_⟩
    by_cases e:j = i
    · subst e; rw [ex,ey]; intro e; rw [e] at hc; exact hc rfl
    · exact hA j (by omega)
theorem aFr {l:List QPiece} (hl:l.length ≤ 1099511627776) (hq:∀ p ∈ l,p.old.length ≤ 1099511627776):∃ g,Fx.loop (fun (v:Int)=>Sh.eR l v) 0 = some g ∧ ((g = Sum.inl () ∧ AllP l l.length) ∨ (g = Sum.inr false ∧ ¬ AllP l l.length)):=by
  refine cM (body:=fun (v:Int)=>Sh.eR l v) l.length (fun i (a:Unit)=>(i:Int)) (fun i a=>AllP l i) _
    (fun i a hi hA=>?_) (fun a hI=>⟨Sum.inl (),by simp [Sh.eR],.inl ⟨rfl,hI⟩⟩) l.length 0 () (by omega) (fun _ _ h=>by omega)
  have hpl:=hq l[i] (List.getElem_mem hi)
  generalize hp:l[i] = p at hpl
  have bad:(∀ h:OkP l i hi,False) → ∃ g,(some (Sum.inr (Sum.inr false)):Option (Int ⊕ (Unit ⊕ Bool))) = some (Sum.inr g) ∧ ((g = Sum.inl () ∧ AllP l l.length) ∨ (g = Sum.inr false ∧ ¬ AllP l l.length)) :=
    fun h=>⟨_,rfl,.inr ⟨rfl,fun k=>h (k i hi hi)⟩⟩
  show (∃ a',Sh.eR l (i:Int) = _ ∧ _) ∨ ∃ g,Sh.eR l (i:Int) = _ ∧ _
  simp only [Sh.eR,cG,hi,decide_true,cond_true,bO hi,hp,Option.bind_some,gD]
  by_cases c1 : -1 ≤ p.table ∧ p.table ≤ 7
  case neg=>right; simpa [c1,bB,Sh.bL,kJ] using bad (fun h=>c1 ⟨by rw [← hp]; exact h.lo,by rw [← hp]; exact h.hi⟩)
  by_cases c2:0 ≤ p.from_ ∧ p.from_ ≤ 65535
  case neg=>right; simpa [c1,c2,bB,Sh.bL,kJ] using bad (fun h=>c2 ⟨by rw [← hp]; exact h.from0,by have:=h.top; rw [hp] at this; omega⟩)
  by_cases c3:(p.old.length:Int) = (p.new.length:Int)
  case neg=>right; simpa [c1,c2,c3,bB,Sh.bL,kJ] using bad (fun h=>c3 (by have:=h.eq; rw [hp] at this; omega))
  by_cases c4:(p.old.length:Int) = 0
  · right
    simp only [decide_eq_true c1,decide_eq_true c2,decide_eq_true c3,decide_eq_true c4,Bool.not_true,cond_false,cond_true,bB,Sh.bL,kJ]
    exact bad (fun h=>h.ne (by rw [hp]; omega))
  by_cases c5:65535 < IntKind.i64.wrap (p.from_ + (p.old.length:Int))
  · right
    have:=bad (fun h=>by have h5:=h.top; rw [hp] at h5; rw [w64 (by omega)] at c5; omega)
    simp only [decide_eq_true c1,decide_eq_true c2,decide_eq_true c3,decide_eq_false c4,decide_eq_true c5,Bool.not_true,cond_false,cond_true,bB,Sh.bL,kJ]
    exact this
  have c5':p.from_ + (p.old.length:Int) ≤ 65535:=by rw [w64 (by omega)] at c5; omega
  obtain ⟨g,hg,hgo⟩:=aG0 (x:=p) (by omega) (by omega)
  have hred:∀ t,Sh.bL l (i:Int) p false = t → seq (seq (bif !decide (-1 ≤ p.table ∧ p.table ≤ 7) then some (Sum.inl true) else bif !decide (0 ≤ p.from_ ∧ p.from_ ≤ 65535) then some (Sum.inl true) else bif !decide ((p.old.length:Int) = (p.new.length:Int)) then some (Sum.inl true) else bif decide ((p.old.length:Int) = 0) then some (Sum.inl true) else some (Sum.inl (decide (65535 < IntKind.i64.wrap (p.from_ + (p.old.length:Int)))))) fun v10065=>Sh.bL l (i:Int) p v10065) (fun x=>Sh.gD (i:Int)) = seq t (fun x=>Sh.gD (i:Int)):=by
    intro t ht
    rw [decide_eq_true c1,decide_eq_true c2,decide_eq_true c3,decide_eq_false c4,decide_eq_false c5]
    simp only [Bool.not_true,cond_false,bB,ht]
  rcases hgo with ⟨rfl,hd⟩ | ⟨rfl,hd⟩
  · have hj4:Sh.bL l (i:Int) p false = Sh.mJ l (i:Int) p:=by
      unfold Sh.bL
      simp only [cond_false]
      exact cE hg rfl
    rw [hred _ hj4]
    have hok:(∀ (k:0 < i),(l[i - 1]'(by omega)).table < p.table ∨ ((l[i - 1]'(by omega)).table = p.table ∧ (l[i - 1]'(by omega)).from_ + ((l[i - 1]'(by omega)).old.length:Int) < p.from_)) → OkP l i hi:=by
      intro hu
      refine ⟨by rw [hp]; omega,by rw [hp]; omega,by rw [hp]; omega,by rw [hp]; omega,by rw [hp]; omega,by rw [hp]; omega,by rw [hp]; exact hd,?_⟩
      rw [hp]; exact hu
    unfold Sh.mJ
    by_cases h0:i = 0
    · subst h0
      left
      exact ⟨(),by simp [bB,Sh.gD]; exact next64 hi (by omega),hA.succ hi (hok (fun k=>absurd k (by omega)))⟩
    · have h0':¬ (i:Int) = 0:=by omega
      have hpi:i - 1 < l.length:=by omega
      have hprev:=hA (i - 1) hpi (by omega)
      simp only [h0',decide_false,cond_false,prev64 (show 0 < i by omega) (by omega),bO hpi,Option.bind_some]
      generalize hq:l[i - 1] = q at *
      have e1:IntKind.i64.wrap (q.from_ + (q.old.length:Int)) = q.from_ + (q.old.length:Int):=by
        have h1:=hprev.from0; have h2:=hprev.top; rw [hq] at h1 h2; exact w64 (by omega)
      by_cases d1:p.table < q.table
      · right
        simpa [d1,bB,kJ,Sh.hN] using bad (fun h=>by have:=h.up (by omega); rw [hp,hq] at this; omega)
      · by_cases d2:p.table = q.table
        · by_cases d3:p.from_ ≤ q.from_ + (q.old.length:Int)
          · right
            simpa [d1,d2,d3,e1,bB,kJ,Sh.hN] using bad (fun h=>by have:=h.up (by omega); rw [hp,hq] at this; omega)
          · left
            exact ⟨(),by simp [d1,d2,d3,e1,bB,Sh.hN,Sh.gD]; exact next64 hi (by omega),hA.succ hi (hok (fun k=>by rw [hq]; right; omega))⟩
        · left
          exact ⟨(),by simp [d1,d2,bB,Sh.hN,Sh.gD]; exact next64 hi (by omega),hA.succ hi (hok (fun k=>by rw [hq]; left; omega))⟩
  · have hj4:Sh.bL l (i:Int) p false = some (Sum.inr (Sum.inr (Sum.inr false))):=by
      unfold Sh.bL
      simp only [cond_false]
      exact cE hg rfl
    rw [hred _ hj4]
    right
    exact bad (fun h=>hd (by rw [← hp]; exact h.df))
theorem xZ {τ τ' γ:Type} {t:Option (τ ⊕ γ)} {t':Option (τ' ⊕ γ)} {o:τ ⊕ γ} {o':τ' ⊕ γ} {k:τ → Option γ} {k':τ' → Option γ} (h:t = some o) (h':t' = some o') (e:Fx.fin k o = Fx.fin k' o'):Fx.seq t k = Fx.seq t' k':=by rw [h,h']; exact e
theorem pZ {m:QMark} (h1:m.regs.length ≤ 1099511627776) (h2:m.slots.length ≤ 1099511627776) (h3:m.pieces.length ≤ 1099511627776) (h4:∀ p ∈ m.pieces,p.old.length ≤ 1099511627776):Sh.iR m = Sh.cI m:=by
  have k5:Sh.nC m = Sh.cX m:=by
    obtain ⟨g,e1,hg⟩:=aFr h3 h4
    obtain ⟨g',e1',hg'⟩:=uJ h3
    have hb:Sh.pO m.pieces = Sh.dX m.pieces:=by
      unfold Sh.pO Sh.dX
      refine xZ e1 e1' ?_
      rcases hg with ⟨rfl,ha⟩ | ⟨rfl,ha⟩ <;> rcases hg' with ⟨rfl,ha'⟩ | ⟨rfl,ha'⟩
      · rfl
      · exact absurd ha ha'
      · exact absurd ha' ha
      · rfl
    simp only [Sh.nC,Sh.cX,hb]
  have k2:Sh.nB m = Sh.cW m:=by
    obtain ⟨g,e1,hg⟩:=aH6 h2
    obtain ⟨g',e1',hg'⟩:=yA h2
    unfold Sh.nB Sh.cW
    refine xZ e1 e1' ?_
    rcases hg with ⟨rfl,ha⟩ | ⟨rfl,ha⟩ <;> rcases hg' with ⟨rfl,ha'⟩ | ⟨rfl,ha'⟩
    · exact k5
    · exact absurd ha ha'
    · exact absurd ha' ha
    · rfl
  have k1:∀ v,Sh.nA m v = Sh.cV m v:=by
    intro v
    unfold Sh.nA Sh.cV
    cases v
    · simp only [cond_false]
      obtain ⟨g,e1,hg⟩:=aJj h1
      obtain ⟨g',e1',hg'⟩:=aBm h1
      refine xZ e1 e1' ?_
      rcases hg with ⟨rfl,ha⟩ | ⟨rfl,ha⟩ <;> rcases hg' with ⟨rfl,ha'⟩ | ⟨rfl,ha'⟩
      · exact k2
      · exact absurd ha ha'
      · exact absurd ha' ha
      · rfl
    · rfl
  unfold Sh.iR Sh.cI
  simp only [dR,gD,k1]
end Go.Sp
end
section
namespace Go.Sp
open Go Go.Fw Go.Fx Go.Proofs
structure St (b more:List UInt8) (r:QReader) (t:List UInt8):Prop where
  wf:Wf b r
  ok:r.e = 0 → b.drop r.at_.toNat ++ more = t
  bad:r.e ≠ 0 → r.e = 236 ∧ r.place = b.length ∧ more ≠ []
section
variable {b more:List UInt8} {r r1 r2:QReader} {t:List UInt8}
theorem St.any (h:St b more r t) (he:r.e ≠ 0) (t':List UInt8):St b more r t':=⟨h.wf,fun k=>absurd k he,h.bad⟩
theorem St.to {t':List UInt8} (h:St b more r t) (k:r.e = 0 → t = t'):St b more r t':=⟨h.wf,fun he=>(h.ok he).trans (k he),h.bad⟩
end
end Go.Sp
end
section
namespace Go.Sp
open Go Go.Fw Go.Fx Go.Proofs
theorem kU (v:LVal):(encVal v).length ≤ 11:=by
  unfold encVal encRest
  split <;> split <;> simp [cD]
theorem yY (l:List UInt8) (m:Int) (n:Nat):∀ i,(encBytes l m i n).length ≤ n:=by
  induction n with
  | zero=>intro i; simp [encBytes]
  | succ n ih=>intro i; have:=ih (i + 1); simp only [encBytes,List.length_append]; split <;> simp <;> omega
theorem nN (s:LSlot):(encSlot s).length ≤ 11:=by
  unfold encSlot
  split
  · have:=yY s.bytes.l s.mask 8 0; simp; omega
  · exact kU _
theorem eP {X:Type} {enc:X → List UInt8} (h:∀ x,1 ≤ (enc x).length) (xs:List X):xs.length ≤ (xs.flatMap enc).length:=by
  induction xs with
  | nil=>simp
  | cons x xs ih=>have:=h x; simp only [List.length_cons,List.flatMap_cons,List.length_append]; omega
end Go.Sp
end
section
namespace Go.Sp
open Go Go.Fw Go.Fx Go.Proofs
def Says (o:Option Bool) (P:Prop):Prop:=∃ t,o = some t ∧ (t = true ↔ P)
theorem Says.eq {o o':Option Bool} {P:Prop} (h:Says o P) (h':Says o' P):o = o':=by
  obtain ⟨t,rfl,ht⟩:=h
  obtain ⟨t',rfl,ht'⟩:=h'
  congr 1
  cases t <;> cases t' <;> simp_all
theorem Says.true {o:Option Bool} {P:Prop} (h:Says o P) (hp:P):o = some true:=by
  obtain ⟨t,rfl,ht⟩:=h
  rw [ht.2 hp]
theorem Says.false {o:Option Bool} {P:Prop} (h:Says o P) (hp:¬ P):o = some false:=by
  obtain ⟨t,rfl,ht⟩:=h
  cases t
  · rfl
  · exact absurd (ht.1 rfl) hp
theorem Says.of {P:Prop} [Decidable P]:Says (some (decide P)) P:=⟨_,rfl,by simp⟩
theorem scan {γ:Type} {body:Int → Option (Int ⊕ γ)} {ok bad:γ} (n:Nat) (P:Nat → Prop) (hn:n ≤ 4611686018427387904)
    (h:∀ i:Nat,i < n → (P i ∧ body (i:Int) = some (.inl (IntKind.i64.wrap ((i:Int) + 1)))) ∨ (¬ P i ∧ body (i:Int) = some (.inr bad))) (h':body (n:Int) = some (.inr ok)) :
    ∃ g,Fx.loop body 0 = some g ∧ ((g = ok ∧ ∀ i,i < n → P i) ∨ (g = bad ∧ ¬ ∀ i,i < n → P i)):=by
  refine cM (body:=body) n (fun i (a:Unit)=>(i:Int)) (fun i a=>∀ j,j < i → P j) _ (fun i a hi hI=>?_) (fun a hI=>⟨ok,h',.inl ⟨rfl,hI⟩⟩) n 0 () (by omega) (fun j hj=>by omega)
  rcases h i hi with ⟨hp,hb⟩ | ⟨hp,hb⟩
  · left
    refine ⟨(),by rw [hb,next64 hi hn],fun j hj=>?_⟩
    by_cases e:j = i
    · subst e; exact hp
    · exact hI j (by omega)
  · exact .inr ⟨bad,hb,.inr ⟨rfl,fun k=>hp (k i hi)⟩⟩
end Go.Sp
end
section
namespace Go.Sp
open Go Go.Fw Go.Fx Go.Proofs
theorem lN {X:Type} {l:List X} {Q:X → Prop}:(∀ i,i < l.length → ∀ h:i < l.length,Q l[i]) ↔ ∀ t ∈ l,Q t:=by
  constructor
  · intro h t ht
    obtain ⟨i,hi,rfl⟩:=List.mem_iff_getElem.1 ht
    exact h i hi hi
  · intro h i hi _; exact h _ (List.getElem_mem hi)
def InOk (i:QInput):Prop:=i.ctx.length ≤ 65535 ∧ i.tables.length ≤ 8 ∧ ∀ t ∈ i.tables,t.length ≤ 65535
theorem nZ (i:QInput):Says (Sh.gF i) (InOk i):=by
  unfold Sh.gF InOk
  by_cases c1:i.ctx.length ≤ 65535
  · have d1:decide ((65535:Int) < (i.ctx.length:Int)) = false:=decide_eq_false (by omega)
    by_cases c2:i.tables.length ≤ 8
    · have d2:decide ((i.tables.length:Int) ≤ 8) = true:=decide_eq_true (by omega)
      simp only [d1,bB,Sh.fH,Bool.not_false,cond_true,d2]
      obtain ⟨g,e1,e2⟩:=cM (body:=fun (v:Int)=>Sh.bW i v) i.tables.length (fun k (a:Unit)=>(k:Int)) (fun k a=>∀ j,j < k → ∀ h:j < i.tables.length,(i.tables[j]).length ≤ 65535)
        (fun g=>(g = Sum.inl () ∧ ∀ t ∈ i.tables,t.length ≤ 65535) ∨ (∃ k:Nat,g = Sum.inr (Sum.inl (k:Int))) ∧ ¬ ∀ t ∈ i.tables,t.length ≤ 65535)
        (fun k a hk hI=>by
          simp only [Sh.bW,cG,hk,decide_true,cond_true,bO hk,Option.bind_some,bB,Sh.iV]
          by_cases c3:(i.tables[k]).length ≤ 65535
          · left
            have d3:decide ((65535:Int) < ((i.tables[k]).length:Int)) = false:=decide_eq_false (by omega)
            refine ⟨(),by rw [d3,cond_false,next64 hk (by omega)],fun j hj h=>?_⟩
            by_cases e:j = k
            · subst e; exact c3
            · exact hI j (by omega) h
          · right
            have d3:decide ((65535:Int) < ((i.tables[k]).length:Int)) = true:=decide_eq_true (by omega)
            exact ⟨_,by rw [d3,cond_true],.inr ⟨⟨k,rfl⟩,fun h=>c3 (h _ (List.getElem_mem hk))⟩⟩)
        (fun a hI=>⟨Sum.inl (),by simp [Sh.bW],.inl ⟨rfl,lN.1 hI⟩⟩) i.tables.length 0 () (by omega) (fun j hj=>by omega)
      rw [show Fx.loop (fun v1908=>Sh.bW i v1908) 0 = some g from e1]
      rcases e2 with ⟨rfl,ha⟩ | ⟨⟨k,rfl⟩,ha⟩
      · exact ⟨true,rfl,by simp only [true_iff]; exact ⟨c1,c2,ha⟩⟩
      · refine ⟨false,?_,by simp only [Bool.false_eq_true,false_iff]; exact fun h=>ha h.2.2⟩
        have dk:decide (0 ≤ (k:Int)) = true:=decide_eq_true (by omega)
        simp only [kJ,bB,Sh.mP,dk,Sh.mO,Sh.hB,Bool.not_true]
    · have d2:decide ((i.tables.length:Int) ≤ 8) = false:=decide_eq_false (by omega)
      exact ⟨false,by simp only [d1,bB,Sh.fH,Bool.not_false,cond_true,d2,cond_false,Sh.hB],by simp only [Bool.false_eq_true,false_iff]; exact fun h=>c2 h.2.1⟩
  · have d1:decide ((65535:Int) < (i.ctx.length:Int)) = true:=decide_eq_true (by omega)
    exact ⟨false,by simp only [d1,bB,Sh.fH,Bool.not_true,cond_false,Sh.hB],by simp only [Bool.false_eq_true,false_iff]; exact fun h=>c1 h.1⟩
theorem nU (i:QInput):Says (Sh.gQ i) (InOk i):=by
  unfold Sh.gQ InOk
  by_cases c1:i.ctx.length ≤ 65535
  · have d1:decide ((65535:Int) < (i.ctx.length:Int)) = false:=decide_eq_false (by omega)
    by_cases c2:i.tables.length ≤ 8
    · have d2:decide ((8:Int) < (i.tables.length:Int)) = false:=decide_eq_false (by omega)
      simp only [d1,d2,cond_false,bB,Sh.gG]
      obtain ⟨g,e1,e2⟩:=scan (body:=fun (v:Int)=>Sh.eO i v) (ok:=Sum.inl ()) (bad:=Sum.inr false) i.tables.length (fun k=>∀ h:k < i.tables.length,(i.tables[k]).length ≤ 65535) (by omega) (fun k hk=>by
        simp only [Sh.eO,cG,hk,decide_true,cond_true,bO hk,Option.bind_some]
        by_cases c3:(i.tables[k]).length ≤ 65535
        · exact .inl ⟨fun _=>c3,by rw [decide_eq_false (by omega),cond_false]⟩
        · exact .inr ⟨fun h=>c3 (h trivial),by rw [decide_eq_true (by omega),cond_true]⟩) (by simp [Sh.eO])
      rw [lN (l:=i.tables) (Q:=fun t:List UInt8=>t.length ≤ 65535)] at e2
      rw [show Fx.loop (fun v140=>Sh.eO i v140) 0 = some g from e1]
      rcases e2 with ⟨rfl,ha⟩ | ⟨rfl,ha⟩
      · exact ⟨true,rfl,by simp only [true_iff]; exact ⟨c1,c2,ha⟩⟩
      · exact ⟨false,rfl,by simp only [Bool.false_eq_true,false_iff]; exact fun h=>ha h.2.2⟩
    · have d2:decide ((8:Int) < (i.tables.length:Int)) = true:=decide_eq_true (by omega)
      exact ⟨false,by simp only [d1,d2,cond_false,bB,Sh.gG,cond_true],by simp only [Bool.false_eq_true,false_iff]; exact fun h=>c2 h.2.1⟩
  · have d1:decide ((65535:Int) < (i.ctx.length:Int)) = true:=decide_eq_true (by omega)
    exact ⟨false,by simp only [d1,cond_true,bB,Sh.gG],by simp only [Bool.false_eq_true,false_iff]; exact fun h=>c1 h.1⟩
end Go.Sp
end
section
namespace Go.Sp
open Go Go.Fw Go.Fx Go.Proofs
structure SmallE (p:QRecord):Prop where
  all:(encRecord p).length ≤ 1099511627776
  regs:∀ m ∈ p.marks,m.regs.length ≤ 1099511627776
  pieces:∀ m ∈ p.marks,m.pieces.length ≤ 4294967295
theorem rG (p:QRecord):(encRecord p).length = 4 + 2 + p.in_.ctx.length + 1 + (p.in_.tables.flatMap encRow).length + 1 + 4 + (p.marks.flatMap encMark).length:=by
  simp only [encRecord,List.length_append,List.length_singleton,cD,List.length_cons,List.length_nil]
end Go.Sp
end
section
namespace Go.Sp
open Go Go.Fw Go.Fx Go.Proofs
theorem pass {γ:Type} {body:Int → Option (Int ⊕ γ)} {g:γ} (n:Nat) (hn:n ≤ 4611686018427387904) (h:∀ i:Nat,i < n → body (i:Int) = some (.inl (IntKind.i64.wrap ((i:Int) + 1)))) (h':body (n:Int) = some (.inr g)):Fx.loop body 0 = some g:=by
  obtain ⟨g',h1,h2⟩:=cM (body:=body) n (fun i (a:Unit)=>(i:Int)) (fun i a=>True) (fun g'=>g' = g)
    (fun i a hi _=>.inl ⟨(),by rw [h i hi,next64 hi hn],trivial⟩) (fun a _=>⟨g,h',rfl⟩) n 0 () (by omega) trivial
  subst h2; exact h1
def SmallM (m:QMark):Prop:=m.regs.length ≤ 1099511627776 ∧ m.slots.length ≤ 1099511627776 ∧ m.pieces.length ≤ 1099511627776 ∧ m.sent.length ≤ 1099511627776
def SmallR (p:QRecord):Prop:=p.in_.tables.length ≤ 1099511627776 ∧ p.marks.length ≤ 1099511627776 ∧ ∀ m ∈ p.marks,SmallM m
theorem pH {l:List Int} (h:l.length ≤ 1099511627776):Sh.gT l l = some true:=by
  unfold Sh.gT
  simp only [decide_true,Bool.not_true,cond_false]
  exact cE (pass (g:=Sum.inl ()) l.length (by omega) (fun i hi=>by simp [Sh.dP,hi,bO hi]) (by simp [Sh.dP])) rfl
theorem pJ {l:List (List UInt8)} (h:l.length ≤ 1099511627776):Sh.gU l l = some true:=by
  unfold Sh.gU
  simp only [decide_true,Bool.not_true,cond_false]
  exact cE (pass (g:=Sum.inl ()) l.length (by omega) (fun i hi=>by simp [Sh.dQ,hi,bO hi,Sh.aV]) (by simp [Sh.dQ])) rfl
theorem uY {i:QInput} (h:i.tables.length ≤ 1099511627776):Sh.hG i i = some true:=by
  simp [Sh.hG,Sh.aV,pJ h,bB,Sh.gS]
theorem gH {m:QMark} (h:SmallM m):Sh.cK m m = some true:=by
  obtain ⟨h1,h2,h3,h4⟩:=h
  have k4:Sh.hW m m = some true :=
    cE (pass (g:=Sum.inl ()) m.pieces.length (by omega) (fun i hi=>by simp [Sh.dU,hi,bO hi,Sh.aV,bB,Sh.dR]) (by simp [Sh.dU])) rfl
  have k2:Sh.hV m m = some true :=
    cE (pass (g:=Sum.inl ()) m.slots.length (by omega) (fun i hi=>by simp [Sh.dT,hi,bO hi]) (by simp [Sh.dT])) k4
  have k1:Sh.bH m m false = some true :=
    cE (pass (g:=Sum.inl ()) m.regs.length (by omega) (fun i hi=>by simp [Sh.dS,hi,bO hi]) (by simp [Sh.dS])) k2
  unfold Sh.cK
  simp only [decide_true,Bool.not_true,cond_false,pH h4,Option.bind_some,bB,k1]
theorem kG {p:QRecord} (h:SmallR p):Sh.bO p p = some true:=by
  obtain ⟨h1,h2,h3⟩:=h
  have k1:Sh.cL p p false = some true :=
    cE (pass (g:=Sum.inl ()) p.marks.length (by omega) (fun i hi=>by simp [Sh.cM,hi,bO hi,gH (h3 _ (List.getElem_mem hi))]) (by simp [Sh.cM])) rfl
  unfold Sh.bO
  simp only [decide_true,Bool.not_true,cond_false,uY h1,Option.bind_some,bB,k1]
end Go.Sp
end
section
namespace Go.Sp
open Go Go.Fw Go.Fx Go.Proofs
section
variable {b:List UInt8} {r r1 r2:QReader}
theorem two {σ γ τ δ X:Type} (N n:Nat) {body1:σ → Option (σ ⊕ γ)} {body2:τ → Option (τ ⊕ δ)} (st1:List X → QReader → Int → σ) (out1:List X → QReader → γ) (st2:List X → QCursor → Int → τ) (out2:List X → QCursor → δ)
    (he1:∀ xs r m,(m = 0 ∨ r.e ≠ 0) → body1 (st1 xs r m) = some (.inr (out1 xs r)))
    (he2:∀ xs c i,(i = (n:Int) ∨ c.e ≠ 0) → body2 (st2 xs c i) = some (.inr (out2 xs c)))
    (hs:∀ xs r (m i:Nat),Wf b r → r.e = 0 → m + 1 + i = n → xs.length < N → ∃ x x' r',body1 (st1 xs r ((m + 1:Nat):Int)) = some (.inl (st1 (xs ++ [x]) r' (m:Int))) ∧
      body2 (st2 xs (cur r) (i:Int)) = some (.inl (st2 (xs ++ [x']) (cur r') ((i + 1:Nat):Int))) ∧ Wf b r' ∧ (r'.e = 0 → x' = x)) :
    ∀ (m i:Nat) xs xs' r,m + i = n → Wf b r → xs.length + m ≤ N → (r.e = 0 → xs' = xs) →
      ∃ ys ys' r',loop body1 (st1 xs r (m:Int)) = some (out1 (xs ++ ys) r') ∧ loop body2 (st2 xs' (cur r) (i:Int)) = some (out2 (xs' ++ ys') (cur r')) ∧ Wf b r' ∧ (r'.e = 0 → xs' ++ ys' = xs ++ ys):=by
  intro m
  induction m with
  | zero =>
    intro i xs xs' r hi hw _ hx
    refine ⟨[],[],r,?_,?_,hw,fun h=>by rw [hx h]⟩
    · rw [List.append_nil]; exact dQ (he1 _ _ _ (.inl rfl))
    · rw [List.append_nil]; exact dQ (he2 _ _ _ (.inl (by omega)))
  | succ m ih =>
    intro i xs xs' r hi hw hN hx
    by_cases he:r.e = 0
    · obtain rfl:=hx he
      obtain ⟨x,x',r1,h1,h2,h3,h4⟩:=hs xs' r m i hw he hi (by omega)
      obtain ⟨ys,ys',r2,k1,k2,k3,k4⟩:=ih (i + 1) (xs' ++ [x]) (xs' ++ [x']) r1 (by omega) h3 (by simp; omega) (fun h=>by rw [h4 h])
      exact ⟨x :: ys,x' :: ys',r2,eK h1 (by rw [k1]; simp),eK h2 (by rw [k2]; simp),k3,fun h=>by simpa using k4 h⟩
    · refine ⟨[],[],r,?_,?_,hw,fun h=>absurd h he⟩
      · rw [List.append_nil]; exact dQ (he1 _ _ _ (.inr he))
      · rw [List.append_nil]; exact dQ (he2 _ _ _ (.inr he))
theorem c1 (hb:b.length ≤ 16777216) (hw:Wf b r) {v:Int} (h:Sh.aA r 1 = some (v,r1)):Sh.aC (cur r) 1 = some (v,cur r1):=(gO hb hw 1 (by omega) h).1
theorem c2 (hb:b.length ≤ 16777216) (hw:Wf b r) {v:Int} (h:Sh.aA r 2 = some (v,r1)):Sh.aC (cur r) 2 = some (v,cur r1):=(gO hb hw 2 (by omega) h).1
theorem c4 (hb:b.length ≤ 16777216) (hw:Wf b r) {v:Int} (h:Sh.aA r 4 = some (v,r1)):Sh.aC (cur r) 4 = some (v,cur r1):=(gO hb hw 4 (by omega) h).1
end
end Go.Sp
end
section
namespace Go.Sp
open Go Go.Fw Go.Fx Go.Proofs
section
variable {X S:Type} [DecidableEq X]
def scanD (f:Nat → X → X → S → S) (a b:List X) (s:S):Nat → S
  | 0=>s
  | i + 1=>match a[i]?,b[i]? with
    | some x,some y=>if x = y then scanD f a b s i else f i x y (scanD f a b s i)
    | _,_=>scanD f a b s i
end
def ext (t:Int) (i:Nat) (x y:UInt8) (P:List QPiece):List QPiece:=match P.getLast? with
  | some p=>if p.from_ + (p.old.length:Int) = (i:Int) then P.dropLast ++ [⟨p.table,p.from_,p.old ++ [x],p.new ++ [y]⟩] else P ++ [⟨t,(i:Int),[x],[y]⟩]
  | none=>P ++ [⟨t,(i:Int),[x],[y]⟩]
def grow (t:Int) (a b:List UInt8):Nat → List QPiece:=scanD (ext t) a b []
structure Lie (t:Int) (i:Nat) (P:List QPiece):Prop where
  few:P.length ≤ i
  each:∀ p ∈ P,p.table = t ∧ 0 ≤ p.from_ ∧ p.from_ + (p.old.length:Int) ≤ (i:Int) ∧ p.new.length = p.old.length
theorem Lie.mono {t:Int} {i j:Nat} {P:List QPiece} (h:Lie t i P) (hj:i ≤ j):Lie t j P:=⟨by have:=h.few; omega,fun p hp=>by obtain ⟨a1,a2,a3,a4⟩:=h.each p hp; exact ⟨a1,a2,by omega,a4⟩⟩
end Go.Sp
end
section
namespace Go.Sp
open Go Go.Fw Go.Fx Go.Proofs
structure SmallS (x:QState):Prop where
  ctx:x.ctx.length ≤ 1099511627776
  tables:x.tables.length ≤ 1099511627776
  each:∀ t ∈ x.tables,t.length ≤ 1099511627776
  sent:x.sent.length ≤ 1099511627776
def PlainS (x:QState):Prop:=(0 ≤ x.at_ ∧ x.at_ ≤ 4095) ∧ (0 ≤ x.steps ∧ x.steps ≤ 4294967296) ∧ InOk ⟨x.ctx,x.tables⟩
theorem iB (x:QState):Says (Sh.gR x) (PlainS x):=by
  unfold Sh.gR PlainS InOk
  simp only [dR,Option.bind_some]
  by_cases c1:0 ≤ x.at_ ∧ x.at_ ≤ 4095
  · by_cases c2:0 ≤ x.steps ∧ x.steps ≤ 4294967296
    · rw [decide_eq_true c1,decide_eq_true c2]
      simp only [cond_true]
      by_cases c3:x.ctx.length ≤ 65535
      · have d3:decide ((65535:Int) < (x.ctx.length:Int)) = false:=decide_eq_false (by omega)
        by_cases c4:x.tables.length ≤ 8
        · have d4:decide ((x.tables.length:Int) ≤ 8) = true:=decide_eq_true (by omega)
          simp only [d3,bB,Sh.gI,Bool.not_false,cond_true,d4]
          obtain ⟨g,e1,e2⟩:=cM (body:=fun (v:Int)=>Sh.eP x v) x.tables.length (fun k (a:Unit)=>(k:Int)) (fun k a=>∀ j,j < k → ∀ h:j < x.tables.length,(x.tables[j]).length ≤ 65535)
            (fun g=>(g = Sum.inl () ∧ ∀ t ∈ x.tables,t.length ≤ 65535) ∨ (∃ k:Nat,g = Sum.inr (Sum.inl (k:Int))) ∧ ¬ ∀ t ∈ x.tables,t.length ≤ 65535)
            (fun k a hk hI=>by
              simp only [Sh.eP,cG,hk,decide_true,cond_true,bO hk,Option.bind_some,bB,Sh.lZ]
              by_cases c3:(x.tables[k]).length ≤ 65535
              · left
                have d3:decide ((65535:Int) < ((x.tables[k]).length:Int)) = false:=decide_eq_false (by omega)
                refine ⟨(),by rw [d3,cond_false,next64 hk (by omega)],fun j hj h=>?_⟩
                by_cases e:j = k
                · subst e; exact c3
                · exact hI j (by omega) h
              · right
                have d3:decide ((65535:Int) < ((x.tables[k]).length:Int)) = true:=decide_eq_true (by omega)
                exact ⟨_,by rw [d3,cond_true],.inr ⟨⟨k,rfl⟩,fun h=>c3 (h _ (List.getElem_mem hk))⟩⟩)
            (fun a hI=>⟨Sum.inl (),by simp [Sh.eP],.inl ⟨rfl,lN.1 hI⟩⟩) x.tables.length 0 () (by omega) (fun j hj=>by omega)
          rw [show Fx.loop (fun v11504=>Sh.eP x v11504) 0 = some g from e1]
          rcases e2 with ⟨rfl,ha⟩ | ⟨⟨k,rfl⟩,ha⟩
          · exact ⟨true,rfl,by simp only [true_iff]; exact ⟨c1,c2,c3,c4,ha⟩⟩
          · refine ⟨false,?_,by simp only [Bool.false_eq_true,false_iff]; exact fun h=>ha h.2.2.2.2⟩
            have dk:decide (0 ≤ (k:Int)) = true:=decide_eq_true (by omega)
            simp only [kJ,bB,Sh.lY,dk,Sh.lX,Sh.gK,Sh.gH,Sh.gJ,Bool.not_true]
        · have d4:decide ((x.tables.length:Int) ≤ 8) = false:=decide_eq_false (by omega)
          exact ⟨false,by simp only [d3,bB,Sh.gI,Bool.not_false,cond_true,d4,cond_false,Sh.gK,Sh.gH,Sh.gJ],by simp only [Bool.false_eq_true,false_iff]; exact fun h=>c4 h.2.2.2.1⟩
      · have d3:decide ((65535:Int) < (x.ctx.length:Int)) = true:=decide_eq_true (by omega)
        exact ⟨false,by simp only [d3,bB,Sh.gI,Bool.not_true,cond_false,Sh.gK,Sh.gH,Sh.gJ],by simp only [Bool.false_eq_true,false_iff]; exact fun h=>c3 h.2.2.1⟩
    · rw [decide_eq_true c1,decide_eq_false c2]
      exact ⟨false,rfl,by simp only [Bool.false_eq_true,false_iff]; exact fun h=>c2 h.2.1⟩
  · rw [decide_eq_false c1]
    exact ⟨false,rfl,by simp only [Bool.false_eq_true,false_iff]; exact fun h=>c1 h.1⟩
theorem fB (x:QState):Says (Sh.fG x) (PlainS x):=by
  unfold Sh.fG PlainS
  simp only [gD,Option.bind_some]
  by_cases c1:0 ≤ x.at_ ∧ x.at_ ≤ 4095
  · by_cases c2:0 ≤ x.steps ∧ x.steps ≤ 4294967296
    · rw [decide_eq_true c1,decide_eq_true c2]
      obtain ⟨t,ht,hi⟩:=nU ⟨x.ctx,x.tables⟩
      simp only [cond_true,ht,Option.bind_some,bB,Sh.lW]
      exact ⟨t,rfl,hi.trans ⟨fun h=>⟨c1,c2,h⟩,fun h=>h.2.2⟩⟩
    · rw [decide_eq_true c1,decide_eq_false c2]
      exact ⟨false,rfl,by simp only [Bool.false_eq_true,false_iff]; exact fun h=>c2 h.2.1⟩
  · rw [decide_eq_false c1]
    exact ⟨false,rfl,by simp only [Bool.false_eq_true,false_iff]; exact fun h=>c1 h.1⟩
def tabs (A B:List (List UInt8)) (P:List QPiece):Nat → List QPiece
  | 0=>P
  | k + 1=>match A[k]?,B[k]? with
    | some a,some b=>tabs A B P k ++ grow (k:Int) a b a.length
    | _,_=>tabs A B P k
end Go.Sp
end
section
namespace Go.Sp
open Go Go.Fw Go.Fx Go.Proofs
theorem eW {x:QState} (h:SmallS x):Sh.bE x x = some true:=by
  unfold Sh.bE
  simp only [decide_true,cond_true,Sh.aV,Option.bind_some,pJ h.tables,pH h.sent,bB,Sh.mG]
end Go.Sp
end
section
namespace Go.Sp
open Go Go.Fw Go.Fx Go.Proofs
section
variable {Y:Type} {key:Y → Int}
theorem aFw {T:List Y} {R:Y → Y → Prop} (tr:∀ a b c,R a b → R b c → R a c) (h:∀ i (k:0 < i) (hi:i < T.length),R (T[i - 1]'(by omega)) T[i]):T.Pairwise R:=by
  rw [List.pairwise_iff_getElem]
  intro i j hi hj hij
  induction j with
  | zero=>omega
  | succ j ih =>
    have h1:=h (j + 1) (by omega) hj
    simp only [Nat.add_sub_cancel] at h1
    by_cases c:i = j
    · subst c; exact h1
    · exact tr _ _ _ (ih (by omega) (by omega)) h1
end
end Go.Sp
end
section
namespace Go.Sp
open Go Go.Fw Go.Fx Go.Proofs
abbrev kp (p:QPiece):Nat:=(p.table + 1).toNat
abbrev fp (p:QPiece):Nat:=p.from_.toNat
abbrev wd (p:QPiece):Nat:=p.old.length
def bt (M:List (List UInt8)) (k j:Nat):Option UInt8:=(M[k]?).bind (fun b=>b[j]?)
def putP (val:QPiece → List UInt8) (M:List (List UInt8)) (p:QPiece):List (List UInt8):=M.set (kp p) (put (pk M (kp p)) (fp p) (val p))
def putAll (val:QPiece → List UInt8) (M:List (List UInt8)) (P:List QPiece):List (List UInt8):=P.foldl (putP val) M
def RoomP (M:List (List UInt8)) (p:QPiece):Prop:=∃ b,M[kp p]? = some b ∧ fp p + wd p ≤ b.length
def Cov (p:QPiece) (k j:Nat):Prop:=kp p = k ∧ fp p ≤ j ∧ j < fp p + wd p
def StandP (val:QPiece → List UInt8) (M:List (List UInt8)) (p:QPiece):Prop:=∃ b,M[kp p]? = some b ∧ fp p + (val p).length ≤ b.length ∧ (b.drop (fp p)).take (val p).length = val p
theorem xP {α:Type} {l vs:List α} {i:Nat} (h:i + vs.length ≤ l.length):(put l i vs).length = l.length:=by simp [put]; omega
theorem aBg {α:Type} {l vs:List α} {i:Nat} (h:i + vs.length ≤ l.length) (j:Nat):(put l i vs)[j]? = if i ≤ j ∧ j < i + vs.length then vs[j - i]? else l[j]?:=by
  unfold put
  simp only [List.getElem?_append,List.length_append,List.length_take,List.getElem?_take,List.getElem?_drop]
  repeat' split
  all_goals first | rfl | omega | (congr 1; omega) | skip
theorem aE8 {M M':List (List UInt8)} (hl:M.map List.length = M'.map List.length) {k:Nat} {b:List UInt8} (h:M[k]? = some b):∃ b',M'[k]? = some b' ∧ b'.length = b.length:=by
  have h1:(M.map List.length)[k]? = some b.length:=by rw [List.getElem?_map,h]; rfl
  rw [hl,List.getElem?_map] at h1
  cases h2:M'[k]? with
  | none=>rw [h2] at h1; cases h1
  | some b'=>rw [h2] at h1; exact ⟨b',rfl,by simpa using h1⟩
theorem wH {M:List (List UInt8)} {k:Nat} {b:List UInt8} (h:M[k]? = some b):pk M k = b:=by simp [pk,h]
section
variable {val:QPiece → List UInt8} {M:List (List UInt8)} {P:List QPiece} {p:QPiece}
theorem RoomP.shape {M':List (List UInt8)} (h:RoomP M p) (hl:M.map List.length = M'.map List.length):RoomP M' p:=by
  obtain ⟨b,h1,h2⟩:=h
  obtain ⟨b',h3,h4⟩:=aE8 hl h1
  exact ⟨b',h3,by omega⟩
theorem nT (h:RoomP M p) (hv:(val p).length = wd p):(putP val M p).map List.length = M.map List.length:=by
  obtain ⟨b,h1,h2⟩:=h
  unfold putP
  rw [wH h1,List.map_set,xP (by omega)]
  apply List.ext_getElem?
  intro j
  rw [List.getElem?_set]
  split
  · rename_i e; subst e
    rw [List.getElem?_map,h1]
    have:=(List.getElem?_eq_some_iff.1 h1).1
    rw [if_pos (by simpa using this)]; rfl
  · rfl
theorem mU (h:∀ p ∈ P,RoomP M p) (hv:∀ p ∈ P,(val p).length = wd p):(putAll val M P).map List.length = M.map List.length:=by
  unfold putAll
  induction P generalizing M with
  | nil=>rfl
  | cons p P ih =>
    have e:=nT (h p (List.mem_cons_self ..)) (hv p (List.mem_cons_self ..))
    rw [List.foldl_cons,ih (fun q hq=>(h q (List.mem_cons_of_mem _ hq)).shape e.symm) fun q hq=>hv q (List.mem_cons_of_mem _ hq),e]
def ApP (p q:QPiece):Prop:=∀ k j,Cov p k j → ¬ Cov q k j
theorem StandP.room (h:StandP val M p) (hv:(val p).length = wd p):RoomP M p:=by
  obtain ⟨b,h1,h2,h3⟩:=h; exact ⟨b,h1,by omega⟩
theorem StandP.bt (h:StandP val M p) {k j:Nat} (hv:(val p).length = wd p) (hc:Cov p k j):bt M k j = (val p)[j - fp p]?:=by
  obtain ⟨b,h1,h2,h3⟩:=h
  obtain ⟨rfl,c2,c3⟩:=hc
  rw [← h3]
  simp only [Go.Sp.bt,h1,Option.bind_some,List.getElem?_take,List.getElem?_drop]
  rw [if_pos (by omega)]
  congr 1; omega
theorem StandP.of (h:RoomP M p) (hv:(val p).length = wd p) (hb:∀ k j,Cov p k j → Go.Sp.bt M k j = (val p)[j - fp p]?):StandP val M p:=by
  obtain ⟨b,h1,h2⟩:=h
  refine ⟨b,h1,by omega,?_⟩
  apply List.ext_getElem?
  intro j
  rw [List.getElem?_take,List.getElem?_drop]
  split
  · rename_i c
    have:=hb (kp p) (fp p + j) ⟨rfl,by omega,by omega⟩
    rw [show fp p + j - fp p = j by omega] at this
    simpa [Go.Sp.bt,h1] using this
  · rename_i c; rw [List.getElem?_eq_none (by omega)]
end
section
variable {t:Int} {a b:List UInt8}
structure PieceOf (t:Int) (a b:List UInt8) (p:QPiece):Prop where
  table:p.table = t
  from0:0 ≤ p.from_
  pos:0 < wd p
  room:fp p + wd p ≤ a.length
  eq:p.new.length = wd p
  df:Differ p.old p.new
  old:(a.drop (fp p)).take (wd p) = p.old
  new:(b.drop (fp p)).take (wd p) = p.new
theorem PieceOf.ne {p:QPiece} (h:PieceOf t a b p) (hl:a.length = b.length) {k:Nat} (h1:fp p ≤ k) (h2:k < fp p + wd p):a[k]? ≠ b[k]?:=by
  have hw:wd p = p.old.length:=rfl
  have h3:=h.df (k - fp p) (by omega)
  have:=h.room
  have ha:k < a.length:=by omega
  have hb:k < b.length:=by omega
  intro e
  apply h3
  rw [← h.new,← h.old]
  simp only [List.getD,List.getElem?_take,List.getElem?_drop]
  rw [show fp p + (k - fp p) = k by omega,e]
end
end Go.Sp
end
section
namespace Go.Sp
open Go Go.Fw Go.Fx Go.Proofs
theorem iF {P:Prop} (h:P → False):Says (some false) P:=⟨false,rfl,by simp only [Bool.false_eq_true,false_iff]; exact h⟩
theorem zZ {P:Prop} (h:P):Says (some true) P:=⟨true,rfl,by simp only [true_iff]; exact h⟩
structure PlnM (m:QMark):Prop where
  at_:0 ≤ m.at_ ∧ m.at_ ≤ 4095
  next:0 ≤ m.next ∧ m.next ≤ 4095
  sent:m.sent.length ≤ 1
  regs:AllReg m m.regs.length
  slots:AllSlot m m.slots.length
  pieces:AllP m.pieces m.pieces.length
theorem oA {m:QMark} (h:SmallM m):Says (Sh.cI m) (PlnM m):=by
  obtain ⟨g1,e1,c1⟩:=aBm h.1
  obtain ⟨g2,e2,c2⟩:=yA h.2.1
  obtain ⟨g3,e3,c3⟩:=uJ h.2.2.1
  unfold Sh.cI
  simp only [dR,Option.bind_some]
  by_cases d1:0 ≤ m.at_ ∧ m.at_ ≤ 4095
  case neg =>
    rw [decide_eq_false d1]
    exact iF fun k=>d1 k.at_
  by_cases d2:0 ≤ m.next ∧ m.next ≤ 4095
  case neg =>
    rw [decide_eq_true d1,decide_eq_false d2]
    exact iF fun k=>d2 k.next
  by_cases d3:m.sent.length ≤ 1
  case neg =>
    rw [decide_eq_true d1,decide_eq_true d2,decide_eq_true (by omega)]
    exact iF fun k=>d3 k.sent
  rw [decide_eq_true d1,decide_eq_true d2,decide_eq_false (by omega)]
  simp only [Bool.not_true,cond_false,bB,Sh.cV]
  rw [show Fx.loop (fun (v:Int × Int)=>match v with | (v1427,v1428)=>Sh.bI m v1427 v1428) (0,-1) = some g1 from e1]
  rcases c1 with ⟨rfl,d4⟩ | ⟨rfl,d4⟩
  case inr=>exact iF fun k=>d4 k.regs
  simp only [bB,Sh.cW]
  rw [show Fx.loop (fun (v:Int × Int)=>match v with | (v1889,v1890)=>Sh.bJ m v1889 v1890) (-1,0) = some g2 from e2]
  rcases c2 with ⟨rfl,d5⟩ | ⟨rfl,d5⟩
  case inr=>exact iF fun k=>d5 k.slots
  simp only [bB,Sh.cX,Sh.dX]
  rw [show Fx.loop (fun (v:Int × Int × Int)=>match v with | (v1,v2,v3)=>Sh.aK m.pieces v1 v2 v3) (0,-1,0) = some g3 from e3]
  rcases c3 with ⟨rfl,d6⟩ | ⟨rfl,d6⟩
  case inr=>exact iF fun k=>d6 k.pieces
  exact zZ ⟨d1,d2,d3,d4,d5,d6⟩
theorem PlnM.reg {m:QMark} (h:PlnM m):∀ t ∈ m.regs,0 ≤ t.reg ∧ t.reg ≤ 10 ∧ t.old ≠ t.new:=fun t ht=>by
  obtain ⟨i,hi,rfl⟩:=List.mem_iff_getElem.1 ht
  have:=h.regs i hi hi
  exact ⟨this.lo,this.hi,this.un⟩
theorem PlnM.slot {m:QMark} (h:PlnM m):∀ t ∈ m.slots,0 ≤ t.slot ∧ t.slot ≤ 31 ∧ t.old ≠ t.new:=fun t ht=>by
  obtain ⟨i,hi,rfl⟩:=List.mem_iff_getElem.1 ht
  have:=h.slots i hi hi
  exact ⟨this.lo,this.hi,this.un⟩
structure PieceP (p:QPiece):Prop where
  lo : -1 ≤ p.table
  hi:p.table ≤ 7
  from0:0 ≤ p.from_
  ne:0 < wd p
  eq:p.new.length = wd p
  top:p.from_ + (wd p:Int) ≤ 65535
  df:Differ p.old p.new
theorem PlnM.piece {m:QMark} (h:PlnM m):∀ p ∈ m.pieces,PieceP p:=fun p hp=>by
  obtain ⟨i,hi,rfl⟩:=List.mem_iff_getElem.1 hp
  have:=h.pieces i hi hi
  exact ⟨this.lo,this.hi,this.from0,Nat.pos_of_ne_zero this.ne,this.eq,this.top,this.df⟩
def Behind (p q:QPiece):Prop:=p.table < q.table ∨ (p.table = q.table ∧ p.from_ + (wd p:Int) < q.from_)
theorem PlnM.pieces_pw {m:QMark} (h:PlnM m):m.pieces.Pairwise Behind :=
  aFw (R:=Behind) (fun a b c h1 h2=>by unfold Behind at *; omega) fun i k hi=>(h.pieces i hi hi).up k
theorem PlnM.apart {m:QMark} (h:PlnM m):m.pieces.Pairwise ApP:=by
  refine List.Pairwise.imp_of_mem ?_ h.pieces_pw
  intro p q hp hq hb k j h1 h2
  have a:=h.piece p hp
  have b:=h.piece q hq
  obtain ⟨c1,c2,c3⟩:=h1
  obtain ⟨c4,c5,c6⟩:=h2
  have:=a.lo; have:=b.lo; have:=a.from0; have:=b.from0
  unfold Behind at hb
  simp only [kp,fp] at *
  omega
def turnR (t:LTurn):LTurn:=⟨t.reg,t.new,t.old⟩
def turnC (t:LCell):LCell:=⟨t.slot,t.new,t.old⟩
def turnP (p:QPiece):QPiece:=⟨p.table,p.from_,p.new,p.old⟩
def turn (m:QMark):QMark:=⟨m.next,m.at_,false,m.regs.map turnR,m.slots.map turnC,m.pieces.map turnP,[]⟩
theorem Differ.symm {x y:List UInt8} (h:Differ x y) (hl:y.length = x.length):Differ y x:=fun i hi e=>h i (by omega) e.symm
theorem PlnM.turn {m:QMark} (h:PlnM m):PlnM (turn m):=by
  refine ⟨h.next,h.at_,Nat.zero_le _,?_,?_,?_⟩
  · intro i hi hi'
    have hj:i < m.regs.length:=by simpa [Sp.turn] using hi
    have:=h.regs i hj hj
    refine ⟨by simpa [Sp.turn,turnR] using this.lo,by simpa [Sp.turn,turnR] using this.hi,?_,fun k=>by simpa [Sp.turn,turnR] using this.up k⟩
    have:=this.un
    simpa [Sp.turn,turnR] using fun e=>this e.symm
  · intro i hi hi'
    have hj:i < m.slots.length:=by simpa [Sp.turn] using hi
    have:=h.slots i hj hj
    refine ⟨by simpa [Sp.turn,turnC] using this.lo,by simpa [Sp.turn,turnC] using this.hi,?_,fun k=>by simpa [Sp.turn,turnC] using this.up k⟩
    have:=this.un
    simpa [Sp.turn,turnC] using fun e=>this e.symm
  · intro i hi hi'
    have hj:i < m.pieces.length:=by simpa [Sp.turn] using hi
    have o:=h.pieces i hj hj
    have e:(Sp.turn m).pieces[i] = turnP m.pieces[i]:=by simp [Sp.turn]
    refine ⟨by rw [e]; exact o.lo,by rw [e]; exact o.hi,by rw [e]; exact o.from0,by rw [e]; simp only [turnP]; rw [o.eq]; exact o.ne,by rw [e]; simp only [turnP]; exact o.eq.symm,by rw [e]; simp only [turnP]; rw [o.eq]; exact o.top,by rw [e]; simp only [turnP]; exact o.df.symm o.eq,fun k=>?_⟩
    have hj':i - 1 < m.pieces.length:=by omega
    have e':(Sp.turn m).pieces[i - 1]'(by omega) = turnP (m.pieces[i - 1]):=by simp [Sp.turn]
    have:=o.up k
    have eq':=(h.pieces (i - 1) hj' hj').eq
    rw [e,e']
    simp only [turnP]
    rw [eq']
    exact this
theorem SmallM.turn {m:QMark} (h:SmallM m):SmallM (turn m):=⟨by simpa [Sp.turn] using h.1,by simpa [Sp.turn] using h.2.1,by simpa [Sp.turn] using h.2.2.1,Nat.zero_le _⟩
end Go.Sp
end
section
namespace Go.Sp
open Go Go.Fw Go.Fx Go.Proofs
def mem (x:QState):List (List UInt8):=x.ctx :: x.tables
structure Stand (x:QState) (m:QMark):Prop where
  regs:∀ t ∈ m.regs,x.regs.l[t.reg.toNat]? = some t.old
  slots:∀ t ∈ m.slots,x.stack.l[t.slot.toNat]? = some t.old
  pieces:∀ p ∈ m.pieces,StandP (fun p=>p.old) (mem x) p
theorem oF {X:Type} {l:List X} {P:X → Prop}:(∀ i,i < l.length → ∀ h:i < l.length,P l[i]) ↔ ∀ t ∈ l,P t:=by
  constructor
  · intro h t ht
    obtain ⟨i,hi,rfl⟩:=List.mem_iff_getElem.1 ht
    exact h i hi hi
  · intro h i _ hi
    exact h _ (List.getElem_mem hi)
theorem kM {X:Type} {n:Nat} (v:Vec X n) {i:Int} (h0:0 ≤ i) (h1:i < (n:Int)):∃ x,Fx.get v.l i = some x ∧ v.l[i.toNat]? = some x:=by
  obtain ⟨x,hx⟩:=v.get (i:=i.toNat) (by omega)
  exact ⟨x,by unfold Fx.get; rw [if_pos h0,hx],hx⟩
theorem aGc (x:QState) {t:Int} (ht : -1 ≤ t):(∃ b,(mem x)[(t + 1).toNat]? = some b ∧ Sh.nP x t = some (b,true)) ∨ ((mem x)[(t + 1).toNat]? = none ∧ Sh.nP x t = some ([],false)):=by
  unfold Sh.nP
  by_cases c:t < 0
  · left
    have:t = -1:=by omega
    subst this
    exact ⟨x.ctx,rfl,rfl⟩
  · have e:(t + 1).toNat = t.toNat + 1:=by omega
    by_cases c2:t < (x.tables.length:Int)
    · left
      have hk:t.toNat < x.tables.length:=by omega
      refine ⟨x.tables[t.toNat],by rw [e]; simp [mem,hk],?_⟩
      rw [decide_eq_false c,decide_eq_true c2]
      have:Fx.get x.tables t = some x.tables[t.toNat]:=by unfold Fx.get; rw [if_pos (by omega)]; exact List.getElem?_eq_getElem hk
      simp [this]
    · right
      refine ⟨by rw [e]; simp [mem]; omega,?_⟩
      rw [decide_eq_false c,decide_eq_false c2]; rfl
theorem wO {b o:List UInt8} {f:Int} (h0:0 ≤ f) (h1:f + (o.length:Int) ≤ 65535):IntKind.i64.wrap (f + (o.length:Int)) = f + (o.length:Int) ∧ (f.toNat + o.length ≤ b.length → Fx.slc b f (f + (o.length:Int)) = some ((b.drop f.toNat).take o.length)):=by
  refine ⟨w64 (by omega),fun h=>?_⟩
  unfold Fx.slc
  rw [if_pos (by omega)]
  congr 2
  omega
theorem yD {x:QState} {m:QMark} (hm:SmallM m) (hp:PlnM m):Says (Sh.qK x m) (Stand x m ∧ x.at_ = m.at_):=by
  obtain ⟨h1,h2,h3,h4⟩:=hm
  unfold Sh.qK
  obtain ⟨g,e,c⟩:=scan (body:=fun v804=>Sh.mC x m v804) (ok:=Sum.inl ()) (bad:=Sum.inr false) m.regs.length (fun i=>∀ h:i < m.regs.length,x.regs.l[(m.regs[i]).reg.toNat]? = some (m.regs[i]).old) (by omega) (fun i hi=>by
    obtain ⟨r1,r2,_⟩:=hp.reg _ (List.getElem_mem hi)
    obtain ⟨y,e1,e2⟩:=kM x.regs r1 (by omega)
    simp only [Sh.mC,cG,hi,decide_true,cond_true,bO hi,Option.bind_some,e1]
    by_cases c:y = (m.regs[i]).old
    · exact .inl ⟨fun _=>by rw [e2,c],by rw [decide_eq_true c]; rfl⟩
    · exact .inr ⟨fun h=>c (Option.some.inj (e2.symm.trans (h trivial))),by rw [decide_eq_false c]; rfl⟩) (by simp [Sh.mC])
  rw [e]
  rcases c with ⟨rfl,c1⟩ | ⟨rfl,c1⟩
  case inr=>exact iF fun k=>c1 fun i hi h=>k.1.regs _ (List.getElem_mem h)
  simp only [bB,Sh.rY]
  obtain ⟨g,e,c⟩:=scan (body:=fun v918=>Sh.mD x m v918) (ok:=Sum.inl ()) (bad:=Sum.inr false) m.slots.length (fun i=>∀ h:i < m.slots.length,x.stack.l[(m.slots[i]).slot.toNat]? = some (m.slots[i]).old) (by omega) (fun i hi=>by
    obtain ⟨r1,r2,_⟩:=hp.slot _ (List.getElem_mem hi)
    obtain ⟨y,e1,e2⟩:=kM x.stack r1 (by omega)
    simp only [Sh.mD,cG,hi,decide_true,cond_true,bO hi,Option.bind_some,e1]
    by_cases c:y = (m.slots[i]).old
    · exact .inl ⟨fun _=>by rw [e2,c],by rw [decide_eq_true c]; rfl⟩
    · exact .inr ⟨fun h=>c (Option.some.inj (e2.symm.trans (h trivial))),by rw [decide_eq_false c]; rfl⟩) (by simp [Sh.mD])
  rw [e]
  rcases c with ⟨rfl,c2⟩ | ⟨rfl,c2⟩
  case inr=>exact iF fun k=>c2 fun i hi h=>k.1.slots _ (List.getElem_mem h)
  simp only [bB,Sh.rZ]
  obtain ⟨g,e,c⟩:=scan (body:=fun v1336=>Sh.mE x m v1336) (ok:=Sum.inl ()) (bad:=Sum.inr false) m.pieces.length (fun i=>∀ h:i < m.pieces.length,StandP (fun p=>p.old) (mem x) m.pieces[i]) (by omega) (fun i hi=>by
    have q:=hp.piece _ (List.getElem_mem hi)
    refine (?_:(StandP (fun p=>p.old) (mem x) m.pieces[i] ∧ _) ∨ (¬ StandP (fun p=>p.old) (mem x) m.pieces[i] ∧ _)).imp (fun a=>⟨fun _=>a.1,a.2⟩) (fun a=>⟨fun h=>a.1 (h hi),a.2⟩)
    have q1:=q.lo; have q2:=q.from0; have q3:=q.top
    simp only [Sh.mE,cG,hi,decide_true,cond_true,bO hi,Option.bind_some]
    generalize m.pieces[i] = p at *
    rcases aGc x q1 with ⟨b,e1,e2⟩ | ⟨e1,e2⟩
    · obtain ⟨w1,w2⟩:=wO (b:=b) (o:=p.old) q2 q3
      simp only [e2,Option.bind_some,Bool.not_true,cond_false,w1]
      by_cases c:p.from_.toNat + p.old.length ≤ b.length
      · rw [decide_eq_false (by omega),w2 c]
        simp only [cond_false,Option.bind_some,bB,Sh.rX,Sh.oK]
        by_cases c':(b.drop p.from_.toNat).take p.old.length = p.old
        · rw [decide_eq_true c']
          exact .inl ⟨⟨b,e1,c,c'⟩,rfl⟩
        · rw [decide_eq_false c']
          refine .inr ⟨fun h=>?_,rfl⟩
          obtain ⟨b',k1,k2,k3⟩:=h
          cases e1.symm.trans k1
          exact c' k3
      · rw [decide_eq_true (by omega)]
        refine .inr ⟨fun h=>?_,rfl⟩
        obtain ⟨b',k1,k2,k3⟩:=h
        cases e1.symm.trans k1
        exact c k2
    · simp only [e2,Option.bind_some,Bool.not_false,cond_true,bB,Sh.oK]
      refine .inr ⟨fun h=>?_,by first | rfl | trivial⟩
      obtain ⟨b',k1,k2,k3⟩:=h
      cases e1.symm.trans k1) (by simp [Sh.mE])
  rw [e]
  rcases c with ⟨rfl,c3⟩ | ⟨rfl,c3⟩
  case inr=>exact iF fun k=>c3 fun i hi h=>k.1.pieces _ (List.getElem_mem h)
  simp only [bB,Sh.sA]
  refine ⟨_,rfl,?_⟩
  rw [decide_eq_true_iff]
  exact ⟨fun h=>⟨⟨oF.1 c1,oF.1 c2,oF.1 c3⟩,h⟩,fun h=>h.2⟩
def side (m:QMark) (o:Bool):QMark:=bif o then m else turn m
theorem wN (m:QMark) (o:Bool) (t:LTurn):Sh.uM t o = some (bif o then t.old else t.new):=by cases o <;> rfl
theorem vD (m:QMark) (o:Bool) (t:LCell):Sh.sW t o = some (bif o then t.old else t.new):=by cases o <;> rfl
theorem vC (m:QMark) (o:Bool) (t:QPiece):Sh.rC t o = some (bif o then t.old else t.new):=by cases o <;> rfl
structure Side (x:QState) (m:QMark) (o:Bool):Prop where
  regs:∀ t ∈ m.regs,x.regs.l[t.reg.toNat]? = some (bif o then t.old else t.new)
  slots:∀ t ∈ m.slots,x.stack.l[t.slot.toNat]? = some (bif o then t.old else t.new)
  pieces:∀ p ∈ m.pieces,StandP (fun p=>bif o then p.old else p.new) (mem x) p
theorem aBp {x:QState} {m:QMark} {o:Bool}:Side x m o ↔ Stand x (side m o):=by
  cases o
  · constructor
    · intro h
      refine ⟨fun t ht=>?_,fun t ht=>?_,fun t ht=>?_⟩
      · obtain ⟨u,hu,rfl⟩:=List.mem_map.1 (show t ∈ m.regs.map turnR from ht); exact h.regs u hu
      · obtain ⟨u,hu,rfl⟩:=List.mem_map.1 (show t ∈ m.slots.map turnC from ht); exact h.slots u hu
      · obtain ⟨u,hu,rfl⟩:=List.mem_map.1 (show t ∈ m.pieces.map turnP from ht); exact h.pieces u hu
    · intro h
      exact ⟨fun t ht=>h.regs (turnR t) (List.mem_map_of_mem ht),fun t ht=>h.slots (turnC t) (List.mem_map_of_mem ht),fun t ht=>h.pieces (turnP t) (List.mem_map_of_mem ht)⟩
  · exact ⟨fun h=>⟨h.regs,h.slots,h.pieces⟩,fun h=>⟨h.regs,h.slots,h.pieces⟩⟩
theorem nV {x:QState} {m:QMark} (o:Bool) (hm:SmallM m) (hp:PlnM m):Says (Sh.lI x m o) (Stand x (side m o)):=by
  suffices h:Says (Sh.lI x m o) (Side x m o) by
    obtain ⟨t,e,i⟩:=h; exact ⟨t,e,i.trans aBp⟩
  obtain ⟨h1,h2,h3,h4⟩:=hm
  unfold Sh.lI
  obtain ⟨g,e,c⟩:=scan (body:=fun v=>Sh.jI x m o v) (ok:=Sum.inl ()) (bad:=Sum.inr false) m.regs.length (fun i=>∀ h:i < m.regs.length,x.regs.l[(m.regs[i]).reg.toNat]? = some (bif o then (m.regs[i]).old else (m.regs[i]).new)) (by omega) (fun i hi=>by
    obtain ⟨r1,r2,_⟩:=hp.reg _ (List.getElem_mem hi)
    obtain ⟨y,e1,e2⟩:=kM x.regs r1 (by omega)
    simp only [Sh.jI,cG,hi,decide_true,cond_true,bO hi,Option.bind_some,e1,wN m]
    by_cases c:y = (bif o then (m.regs[i]).old else (m.regs[i]).new)
    · exact .inl ⟨fun _=>by rw [e2,c],by rw [decide_eq_true c]; rfl⟩
    · exact .inr ⟨fun h=>c (Option.some.inj (e2.symm.trans (h trivial))),by rw [decide_eq_false c]; rfl⟩) (by simp [Sh.jI])
  rw [e]
  rcases c with ⟨rfl,c1⟩ | ⟨rfl,c1⟩
  case inr=>exact iF fun k=>c1 fun i hi h=>k.regs _ (List.getElem_mem h)
  simp only [bB,Sh.oY]
  obtain ⟨g,e,c⟩:=scan (body:=fun v=>Sh.jJ x m o v) (ok:=Sum.inl ()) (bad:=Sum.inr false) m.slots.length (fun i=>∀ h:i < m.slots.length,x.stack.l[(m.slots[i]).slot.toNat]? = some (bif o then (m.slots[i]).old else (m.slots[i]).new)) (by omega) (fun i hi=>by
    obtain ⟨r1,r2,_⟩:=hp.slot _ (List.getElem_mem hi)
    obtain ⟨y,e1,e2⟩:=kM x.stack r1 (by omega)
    simp only [Sh.jJ,cG,hi,decide_true,cond_true,bO hi,Option.bind_some,e1,vD m]
    by_cases c:y = (bif o then (m.slots[i]).old else (m.slots[i]).new)
    · exact .inl ⟨fun _=>by rw [e2,c],by rw [decide_eq_true c]; rfl⟩
    · exact .inr ⟨fun h=>c (Option.some.inj (e2.symm.trans (h trivial))),by rw [decide_eq_false c]; rfl⟩) (by simp [Sh.jJ])
  rw [e]
  rcases c with ⟨rfl,c2⟩ | ⟨rfl,c2⟩
  case inr=>exact iF fun k=>c2 fun i hi h=>k.slots _ (List.getElem_mem h)
  simp only [bB,Sh.oZ]
  obtain ⟨g,e,c⟩:=scan (body:=fun v=>Sh.jK x m o v) (ok:=Sum.inl ()) (bad:=Sum.inr false) m.pieces.length (fun i=>∀ h:i < m.pieces.length,StandP (fun p=>bif o then p.old else p.new) (mem x) m.pieces[i]) (by omega) (fun i hi=>by
    have q:=hp.piece _ (List.getElem_mem hi)
    refine (?_:(StandP (fun p=>bif o then p.old else p.new) (mem x) m.pieces[i] ∧ _) ∨ (¬ StandP (fun p=>bif o then p.old else p.new) (mem x) m.pieces[i] ∧ _)).imp (fun a=>⟨fun _=>a.1,a.2⟩) (fun a=>⟨fun h=>a.1 (h hi),a.2⟩)
    have q1:=q.lo; have q2:=q.from0; have q3:=q.top; have q4:=q.eq
    simp only [Sh.jK,cG,hi,decide_true,cond_true,bO hi,Option.bind_some,vC m,Sh.pA]
    generalize m.pieces[i] = p at *
    generalize hv:(bif o then p.old else p.new) = v
    have hl:v.length = p.old.length:=by subst hv; cases o <;> simp [q4]
    have hst:StandP (fun p=>bif o then p.old else p.new) (mem x) p ↔ ∃ b,(mem x)[(p.table + 1).toNat]? = some b ∧ p.from_.toNat + v.length ≤ b.length ∧ (b.drop p.from_.toNat).take v.length = v:=by unfold StandP; simp only [hv]
    by_cases c0:(x.tables.length:Int) ≤ p.table
    · rw [decide_eq_true c0]
      refine .inr ⟨fun h=>?_,rfl⟩
      obtain ⟨b,k1,_⟩:=hst.1 (h)
      have:=(List.getElem?_eq_some_iff.1 k1).1
      simp [mem] at this
      omega
    rw [decide_eq_false c0]
    have hb:∃ b,(mem x)[(p.table + 1).toNat]? = some b ∧ (bif decide (0 ≤ p.table) then (Fx.get x.tables p.table).bind fun x4034=>some (Sum.inl x4034) else some (Sum.inl x.ctx):Option (List UInt8 ⊕ (Int ⊕ (Unit ⊕ Bool)))) = some (Sum.inl b):=by
      by_cases c5:0 ≤ p.table
      · have hk:p.table.toNat < x.tables.length:=by omega
        have e:(p.table + 1).toNat = p.table.toNat + 1:=by omega
        have:Fx.get x.tables p.table = some x.tables[p.table.toNat]:=by unfold Fx.get; rw [if_pos (by omega)]; exact List.getElem?_eq_getElem hk
        exact ⟨x.tables[p.table.toNat],by rw [e]; simp [mem,hk],by rw [decide_eq_true c5,this]; rfl⟩
      · have:p.table = -1:=by omega
        exact ⟨x.ctx,by rw [this]; rfl,by rw [decide_eq_false c5]; rfl⟩
    obtain ⟨b,e1,e2⟩:=hb
    obtain ⟨w1,w2⟩:=wO (b:=b) (o:=v) q2 (by rw [hl]; exact q3)
    simp only [e2,bB,w1,cond_false]
    by_cases c:p.from_.toNat + v.length ≤ b.length
    · rw [decide_eq_false (by omega),w2 c]
      simp only [cond_false,Option.bind_some,bB,Sh.oX,Sh.pB]
      by_cases c':(b.drop p.from_.toNat).take v.length = v
      · rw [decide_eq_true c']
        exact .inl ⟨hst.2 ⟨b,e1,c,c'⟩,rfl⟩
      · rw [decide_eq_false c']
        refine .inr ⟨fun h=>?_,rfl⟩
        obtain ⟨b',k1,k2,k3⟩:=hst.1 (h)
        cases e1.symm.trans k1
        exact c' k3
    · rw [decide_eq_true (by omega)]
      refine .inr ⟨fun h=>?_,rfl⟩
      obtain ⟨b',k1,k2,k3⟩:=hst.1 (h)
      cases e1.symm.trans k1
      exact c k2) (by simp [Sh.jK])
  rw [e]
  rcases c with ⟨rfl,c3⟩ | ⟨rfl,c3⟩
  case inr=>exact iF fun k=>c3 fun i hi h=>k.pieces _ (List.getElem_mem h)
  exact zZ ⟨oF.1 c1,oF.1 c2,oF.1 c3⟩
end Go.Sp
end
section
namespace Go.Sp
open Go Go.Fw Go.Fx Go.Proofs
theorem kP {σ γ X S:Type} {body:σ → Option (σ ⊕ γ)} (l:List X) (f:S → X → S) (st:S → Int → σ) (g:S → γ) (I:S → Prop) (s0:S) (h0:I s0) (hn:l.length ≤ 4611686018427387904)
    (h:∀ (i:Nat) (hi:i < l.length) s,I s → body (st s (i:Int)) = some (.inl (st (f s l[i]) (IntKind.i64.wrap ((i:Int) + 1)))) ∧ I (f s l[i])) (h':∀ s,I s → body (st s (l.length:Int)) = some (.inr (g s))):Fx.loop body (st s0 0) = some (g (l.foldl f s0)) ∧ I (l.foldl f s0):=by
  obtain ⟨o,e,rfl,hI⟩:=cM (body:=body) l.length (fun i s=>st s (i:Int)) (fun i s=>s = (l.take i).foldl f s0 ∧ I s) (fun o=>o = g (l.foldl f s0) ∧ I (l.foldl f s0)) (fun i s hi hs=>.inl ⟨f s l[i],by
      rw [(h i hi s hs.2).1,next64 hi hn],by
      refine ⟨?_,(h i hi s hs.2).2⟩
      rw [List.take_add_one,List.getElem?_eq_getElem hi,List.foldl_append,← hs.1]; rfl⟩) (fun s hs=>⟨_,h' s hs.2,by
      rw [List.take_length] at hs; rw [← hs.1]; exact ⟨rfl,hs.2⟩⟩) l.length 0 s0 (by omega) ⟨by simp,h0⟩
  exact ⟨e,hI⟩
def setV {X Y:Type} {n:Nat} (key:Y → Nat) (val:Y → X) (v:Vec X n) (T:List Y):Vec X n:=T.foldl (fun v t=>v.set (key t) (val t)) v
def putM (x:QState) (m:QMark):List (List UInt8):=putAll (fun p=>p.new) (mem x) m.pieces
def putS (x:QState) (m:QMark) (sent:List Int) (a s:Int) (d:Bool):QState :=
  ⟨setV (fun t:LTurn=>t.reg.toNat) (fun t=>t.new) x.regs m.regs,setV (fun t:LCell=>t.slot.toNat) (fun t=>t.new) x.stack m.slots,pk (putM x m) 0,(putM x m).tail,sent,a,s,d⟩
theorem oH {l:List UInt8} (h:l.length ≤ 1099511627776):Sh.eB l = some l:=by
  unfold Sh.eB; rw [dB (by simp; omega) (by simp; omega)]; rfl
theorem sZ {l:List Int} (h:l.length ≤ 1099511627776):Sh.eA l = some l:=by
  unfold Sh.eA; rw [dB (by simp; omega) (by simp; omega)]; rfl
theorem aG8 {l:List (List UInt8)} (h:l.length ≤ 1099511627776):Sh.eS l = some l:=by
  unfold Sh.eS; rw [dB (by simp; omega) (by simp; omega)]; rfl
theorem vF {x:QState} (h:SmallS x):Sh.hS x = some x:=by
  have h1:=h.tables
  obtain ⟨g,hg,e⟩:=cM (body:=fun (v:Nat × Int)=>match v with | (n544,v547)=>Sh.jT x.tables n544 v547) x.tables.length (fun i (a:Unit)=>(i,(i:Int))) (fun i a=>True) (fun g=>g = .inl x.tables.length)
    (fun i a hi _=>.inl ⟨(),by
      simp only [Sh.jT,cG,hi,decide_true,cond_true,bO hi,Option.bind_some,Int.toNat_natCast,Nat.le_refl,Fx.must,oH (h.each _ (List.getElem_mem hi)),next64 hi (by omega)],trivial⟩)
    (fun a _=>⟨Sum.inl x.tables.length,by simp [Sh.jT],rfl⟩) x.tables.length 0 () (by omega) trivial
  subst e
  unfold Sh.hS
  rw [oH h.ctx,Option.bind_some,aG8 h.tables,Option.bind_some]
  refine cE hg ?_
  simp only [Fx.fin,Sh.pI,sZ h.sent,Option.bind_some,Nat.le_refl,decide_true,Fx.must,cond_true]
theorem aCk {x:QState} (h:SmallS x):Sh.mQ x = some x:=by
  have h1:=h.tables
  have h2:=h.ctx
  have h3:=h.sent
  obtain ⟨g,hg,e⟩:=cM (body:=fun (v:QState × Int)=>match v with | (v502,v511)=>Sh.lD x v502 v511) x.tables.length (fun i T=>(⟨x.regs,x.stack,x.ctx,T,x.sent,x.at_,x.steps,x.done⟩,(i:Int))) (fun i T=>T = x.tables.take i) (fun g=>g = .inl x)
    (fun i T hi hT=>.inl ⟨T ++ [x.tables[i]],by
      have hl:T.length ≤ i:=by rw [hT]; simp; omega
      have hb:=h.each _ (List.getElem_mem hi)
      have e1:Fx.app 1 [] x.tables[i] = some x.tables[i]:=oH hb
      have e2:Fx.app 24 T [x.tables[i]] = some (T ++ [x.tables[i]]):=dB (by simp; omega) (by simp; omega)
      simp only [Sh.lD,cG,hi,decide_true,cond_true,bO hi,Option.bind_some,e1,e2,next64 hi (by omega)],by
      rw [hT,List.take_add_one,List.getElem?_eq_getElem hi]; rfl⟩)
    (fun T hT=>⟨Sum.inl x,by rw [List.take_length] at hT; subst hT; simp [Sh.lD],rfl⟩) x.tables.length 0 [] (by omega) rfl
  subst e
  have e1:Fx.app 1 [] x.ctx = some x.ctx:=oH h.ctx
  have e3:Fx.app 8 [] x.sent = some x.sent:=sZ h.sent
  unfold Sh.mQ
  rw [e1,Option.bind_some]
  refine cE hg ?_
  simp only [Fx.fin,Sh.pZ,e3,Option.bind_some]
section
variable {M:List (List UInt8)} {p:QPiece}
theorem aE4 (hr:RoomP M p):kp p < M.length:=by
  obtain ⟨b,h1,_⟩:=hr; exact (List.getElem?_eq_some_iff.1 h1).1
theorem uV (hr:RoomP M p):fp p + wd p ≤ (pk M (kp p)).length:=by
  obtain ⟨b,h1,h2⟩:=hr; rw [wH h1]; exact h2
theorem aKa {γ:Type} (hp:PieceP p) (hr:RoomP M p):(bif decide (p.table < 0) then some (Sum.inl (0,true)) else bif decide (p.table < ((List.tail M).length:Int)) then (Fx.get (List.tail M) p.table).bind fun _=>some (Sum.inl (p.table.toNat + 1,true)) else Fx.must false none:Option ((Nat × Bool) ⊕ γ)) = some (Sum.inl (kp p,true)):=by
  have h1:=hp.lo
  have h2:=aE4 hr
  by_cases c:p.table < 0
  · have e:kp p = 0:=by simp only [kp]; omega
    rw [decide_eq_true c,e]; rfl
  · have e:kp p = p.table.toNat + 1:=by simp only [kp]; omega
    have ht:p.table.toNat < M.tail.length:=by simp only [List.length_tail]; omega
    have:Fx.get M.tail p.table = some M.tail[p.table.toNat]:=by unfold Fx.get; rw [if_pos (by omega)]; exact List.getElem?_eq_getElem ht
    rw [decide_eq_false c,decide_eq_true (by omega),this,e]; rfl
theorem aKp (hp:PieceP p) (hr:RoomP M p):∃ y,Fx.slc (pk M (kp p)) p.from_ ((pk M (kp p)).length:Int) = some y:=by
  have h1:=hp.from0
  have h2:=uV hr
  have h3:fp p = p.from_.toNat:=rfl
  unfold Fx.slc
  rw [if_pos (by omega)]
  exact ⟨_,rfl⟩
theorem aJ4 {v:List UInt8} (hp:PieceP p) (hr:RoomP M p) (hv:v.length = wd p):Fx.cpa (pk M (kp p)) p.from_ v = some (put (pk M (kp p)) (fp p) v):=by
  have h1:=hp.from0
  have h2:=uV hr
  have h3:fp p = p.from_.toNat:=rfl
  unfold Fx.cpa
  rw [if_pos (by omega)]
end
theorem aFv {b v:List UInt8} {f i:Nat} (h:f + v.length ≤ b.length) (hi:i < v.length):(put b f (v.take i)).set (f + i) v[i] = put b f (v.take (i + 1)):=by
  apply List.ext_getElem?
  intro j
  rw [List.getElem?_set,aBg (by simp; omega),aBg (by simp; omega),xP (by simp; omega)]
  simp only [List.length_take]
  by_cases c:f + i = j
  · subst c
    rw [if_pos rfl,if_pos (by omega),if_pos (by omega),show f + i - f = i by omega,List.getElem?_take,if_pos (by omega),List.getElem?_eq_getElem hi]
  · rw [if_neg c]
    by_cases c2:f ≤ j ∧ j < f + i
    · rw [if_pos (by omega),if_pos (by omega),List.getElem?_take,List.getElem?_take,if_pos (by omega),if_pos (by omega)]
    · rw [if_neg (by omega),if_neg (by omega)]
theorem aFu (b:List UInt8) (f:Nat):put b f [] = b:=by simp [put]
def to (m:QMark) (o:Bool):QMark:=bif o then turn m else m
section
variable {x:QState} {m:QMark} (hx:SmallS x) (hm:SmallM m) (hp:PlnM m) (hr:∀ p ∈ m.pieces,RoomP (mem x) p)
include hx hm hp hr
theorem aAg:Sh.nN x m = some (putS x m x.sent m.next x.steps x.done):=by
  obtain ⟨h1,h2,h3,h4⟩:=hm
  unfold Sh.nN
  rw [vF hx,Option.bind_some]
  have e1:=(kP (body:=fun (v:Vec LVal 11 × List Int × Int)=>match v with | (v923,v924,v927)=>Sh.jQ m v923 v924 v927) m.regs (fun v (t:LTurn)=>v.set t.reg.toNat t.new) (fun v i=>(v,x.sent,i)) (fun v=>Sum.inl (v,x.sent)) (fun _=>True) x.regs trivial (by omega)
    (fun i hi v _=>⟨by
      obtain ⟨r1,r2,_⟩:=hp.reg _ (List.getElem_mem hi)
      obtain ⟨y,e,_⟩:=kM v r1 (by omega)
      simp only [Sh.jQ,cG,hi,decide_true,cond_true,bO hi,Option.bind_some,e],trivial⟩) (fun v _=>by simp [Sh.jQ])).1
  refine cE e1 ?_
  simp only [Fx.fin,Sh.pG]
  have e2:=(kP (body:=fun (v:Vec LSlot 32 × List Int × Int)=>match v with | (v1047,v1048,v1051)=>Sh.jR m v1047 v1048 v1051) m.slots (fun v (t:LCell)=>v.set t.slot.toNat t.new) (fun v i=>(v,x.sent,i)) (fun v=>Sum.inl (v,x.sent)) (fun _=>True) x.stack trivial (by omega)
    (fun i hi v _=>⟨by
      obtain ⟨r1,r2,_⟩:=hp.slot _ (List.getElem_mem hi)
      obtain ⟨y,e,_⟩:=kM v r1 (by omega)
      simp only [Sh.jR,cG,hi,decide_true,cond_true,bO hi,Option.bind_some,e],trivial⟩) (fun v _=>by simp [Sh.jR])).1
  refine cE e2 ?_
  simp only [Fx.fin,Sh.pH]
  have e3:=(kP (body:=fun (v:List (List UInt8) × Int)=>match v with | (l1511,v1513)=>Sh.jS m l1511 v1513) m.pieces (putP (fun p=>p.new)) (fun M i=>(M,i)) (fun M=>Sum.inl M) (fun M=>M.map List.length = (mem x).map List.length) (mem x) rfl (by omega)
    (fun i hi M hM=>by
      have hq:=hp.piece _ (List.getElem_mem hi)
      have hro:RoomP M m.pieces[i]:=(hr _ (List.getElem_mem hi)).shape hM.symm
      refine ⟨?_,(nT hro hq.eq).trans hM⟩
      obtain ⟨y,ey⟩:=aKp hq hro
      simp only [Sh.jS,cG,hi,decide_true,cond_true,bO hi,Option.bind_some]
      refine cE (aKa hq hro) ?_
      simp only [Fx.fin,Sh.pF,ey,aJ4 hq hro hq.eq,Option.bind_some]
      rfl) (fun M _=>by simp [Sh.jS])).1
  refine cE e3 ?_
  rfl
theorem aIt (o:Bool):Sh.sJ x m o = some (putS x (to m o) x.sent x.at_ x.steps x.done):=by
  obtain ⟨h1,h2,h3,h4⟩:=hm
  unfold Sh.sJ
  rw [aCk hx,Option.bind_some]
  have e1:=(kP (body:=fun (v:Vec LVal 11 × List Int × Int)=>match v with | (v3492,v3493,v3496)=>Sh.nE m o v3492 v3493 v3496) m.regs (fun v (t:LTurn)=>v.set t.reg.toNat (bif o then t.old else t.new)) (fun v i=>(v,x.sent,i)) (fun v=>Sum.inl (v,x.sent)) (fun _=>True) x.regs trivial (by omega)
    (fun i hi v _=>⟨by
      obtain ⟨r1,r2,_⟩:=hp.reg _ (List.getElem_mem hi)
      obtain ⟨y,e,_⟩:=kM v r1 (by omega)
      simp only [Sh.nE,cG,hi,decide_true,cond_true,bO hi,Option.bind_some,e,wN m],trivial⟩) (fun v _=>by simp [Sh.nE])).1
  refine cE e1 ?_
  simp only [Fx.fin,Sh.sR]
  have e2:=(kP (body:=fun (v:Vec LSlot 32 × List Int × Int)=>match v with | (v3652,v3653,v3656)=>Sh.nF m o v3652 v3653 v3656) m.slots (fun v (t:LCell)=>v.set t.slot.toNat (bif o then t.old else t.new)) (fun v i=>(v,x.sent,i)) (fun v=>Sum.inl (v,x.sent)) (fun _=>True) x.stack trivial (by omega)
    (fun i hi v _=>⟨by
      obtain ⟨r1,r2,_⟩:=hp.slot _ (List.getElem_mem hi)
      obtain ⟨y,e,_⟩:=kM v r1 (by omega)
      simp only [Sh.nF,cG,hi,decide_true,cond_true,bO hi,Option.bind_some,e,vD m],trivial⟩) (fun v _=>by simp [Sh.nF])).1
  refine cE e2 ?_
  simp only [Fx.fin,Sh.sS]
  have e3:=(kP (body:=fun (v:List (List UInt8) × Int)=>match v with | (l6312,v6314)=>Sh.nG m o l6312 v6314) m.pieces (putP (fun p=>bif o then p.old else p.new)) (fun M i=>(M,i)) (fun M=>Sum.inl M) (fun M=>M.map List.length = (mem x).map List.length) (mem x) rfl (by omega)
    (fun i hi M hM=>by
      have hq:=hp.piece _ (List.getElem_mem hi)
      have hro:RoomP M m.pieces[i]:=(hr _ (List.getElem_mem hi)).shape hM.symm
      have hvl:(bif o then (m.pieces[i]).old else (m.pieces[i]).new).length = wd m.pieces[i]:=by cases o <;> simp [hq.eq]
      refine ⟨?_,(nT hro hvl).trans hM⟩
      simp only [Sh.nG,cG,hi,decide_true,cond_true,bO hi,Option.bind_some,vC m]
      have hg:=bO hi
      have hlt:=aE4 hro
      have hrl:=uV hro
      have q1:=hq.lo; have q2:=hq.from0; have q3:=hq.top
      unfold putP
      generalize hp0:m.pieces[i] = p at *
      generalize hv0:(bif o then p.old else p.new) = v at *
      have ek:(bif decide (0 ≤ p.table) then (Fx.get (List.tail M) p.table).bind fun x6582=>some (Sum.inl (p.table.toNat + 1)) else some (Sum.inl 0):Option (Nat ⊕ (List (List UInt8) ⊕ ((List (List UInt8) × Int) ⊕ (List (List UInt8) ⊕ QState))))) = some (Sum.inl (kp p)):=by
        by_cases c:0 ≤ p.table
        · have e:kp p = p.table.toNat + 1:=by simp only [kp]; omega
          have ht:p.table.toNat < M.tail.length:=by simp only [List.length_tail]; omega
          have:Fx.get M.tail p.table = some M.tail[p.table.toNat]:=by unfold Fx.get; rw [if_pos (by omega)]; exact List.getElem?_eq_getElem ht
          rw [decide_eq_true c,this,e]; rfl
        · have e:kp p = 0:=by simp only [kp]; omega
          rw [decide_eq_false c,e]; rfl
      have hf:((fp p:Nat):Int) = p.from_:=by simp only [fp]; omega
      obtain ⟨g,hl,e⟩:=cM (body:=fun (s:List (List UInt8) × Int)=>match s with | (l6622,v6624)=>Sh.nH m (i:Int) v (kp p) l6622 v6624) v.length (fun j L=>(L,(j:Int))) (fun j L=>L = M.set (kp p) (put (pk M (kp p)) (fp p) (v.take j))) (fun g=>g = .inl (M.set (kp p) (put (pk M (kp p)) (fp p) v)))
        (fun j L hj hL=>.inl ⟨M.set (kp p) (put (pk M (kp p)) (fp p) (v.take (j + 1))),by
          have e1:pk L (kp p) = put (pk M (kp p)) (fp p) (v.take j):=by rw [hL]; exact wH (by rw [List.getElem?_set,if_pos rfl,if_pos hlt])
          have e2:IntKind.i64.wrap (p.from_ + (j:Int)) = ((fp p + j:Nat):Int):=by rw [w64 (by omega)]; omega
          have e3:fp p + j < (put (pk M (kp p)) (fp p) (v.take j)).length:=by rw [xP (by simp; omega)]; omega
          have e4:(Fx.get (pk L (kp p)) (IntKind.i64.wrap (p.from_ + (j:Int)))) = some ((put (pk M (kp p)) (fp p) (v.take j))[fp p + j]):=by rw [e1,e2]; exact bO e3
          have e5:L.set (kp p) ((pk L (kp p)).set (IntKind.i64.wrap (p.from_ + (j:Int))).toNat v[j]) = M.set (kp p) (put (pk M (kp p)) (fp p) (v.take (j + 1))):=by
            rw [e1,e2,Int.toNat_natCast,aFv (b:=pk M (kp p)) (f:=fp p) (by omega) hj,hL,List.set_set]
          simp only [Sh.nH,cG,hj,decide_true,cond_true,hg,Option.bind_some,bO hj,e4,e5,next64 hj (by omega)],rfl⟩)
        (fun L hL=>⟨.inl L,by simp [Sh.nH],by rw [hL,List.take_length]⟩) v.length 0 M (by omega) (by
          rw [List.take_zero,aFu]
          apply List.ext_getElem?
          intro j
          rw [List.getElem?_set]
          split
          · rename_i c; subst c; rw [List.getElem?_eq_getElem hlt,wH (List.getElem?_eq_getElem hlt)]
          · rfl)
      subst e
      refine cE (t:=(some v).bind fun y6541=>_) (o:=Sum.inl (M.set (kp p) (put (pk M (kp p)) (fp p) v))) ?_ ?_
      · refine cE ek ?_
        simp only [Fx.fin,Sh.sV]
        exact hl
      · simp only [Fx.fin,Sh.sU,hv0]) (fun M _=>by simp [Sh.nG])).1
  refine cE e3 ?_
  cases o
  · rfl
  · simp only [Fx.fin,Sh.sT,putS,putM,to,cond_true,turn,setV,putAll,List.foldl_map]
    rfl
end
end Go.Sp
end
section
namespace Go.Sp
open Go Go.Fw Go.Fx Go.Proofs
def noState:QState:=⟨⟨List.replicate 11 LVal.zero,rfl⟩,⟨List.replicate 32 LSlot.zero,rfl⟩,[],[],[],0,0,false⟩
structure CanA (x:QState) (m:QMark):Prop where
  done:x.done = false
  at_:x.at_ = m.at_
  steps:x.steps ≠ 4294967296
  st:Stand x m
def applied (x:QState) (m:QMark):QState:=putS x m (x.sent ++ m.sent) m.next (x.steps + 1) m.done
structure Answers (o:Option (QState × Int)) (x:QState) (m:QMark) (C:Prop) (y:QState):Prop where
  arg:¬ PlainS x → o = some (noState,1)
  mark:PlainS x → ¬ PlnM m → o = some (noState,230)
  from_:PlainS x → PlnM m → ¬ C → o = some (noState,231)
  ok:PlainS x → PlnM m → C → o = some (y,0)
theorem aCq {x:QState} {m:QMark} (hm:SmallM m):(¬ PlainS x → Sh.kW x m = some 1) ∧ (PlainS x → ¬ PlnM m → Sh.kW x m = some 230) ∧ (PlainS x → PlnM m → Sh.kW x m = some 0):=by
  unfold Sh.kW
  refine ⟨fun h=>?_,fun h k=>?_,fun h k=>?_⟩
  · rw [(iB x).false h]; rfl
  · rw [(iB x).true h,Option.bind_some,(oA hm).false k]; rfl
  · rw [(iB x).true h,Option.bind_some,(oA hm).true k]; rfl
theorem Stand.room {x:QState} {m:QMark} (h:Stand x m):∀ p ∈ m.pieces,RoomP (mem x) p:=fun p hp=>(h.pieces p hp).room rfl
section
variable {x:QState} {m:QMark} (hx:SmallS x) (hm:SmallM m)
include hx hm
theorem tD:Answers (Sh.cO x m) x m (CanA x m) (applied x m):=by
  obtain ⟨r1,r2,r3⟩:=aCq (x:=x) hm
  have hs:=hx.sent
  have hms:=hm.2.2.2
  refine ⟨fun h=>?_,fun h k=>?_,fun h k c=>?_,fun h k c=>?_⟩
  · unfold Sh.cO; rw [r1 h]; rfl
  · unfold Sh.cO; rw [r2 h k]; rfl
  · unfold Sh.cO
    rw [r3 h k]
    simp only [Option.bind_some,decide_true,Bool.not_true,cond_false]
    cases c1:x.done
    case true=>rfl
    simp only [cond_false]
    by_cases c2:x.steps = 4294967296
    · rw [decide_eq_true c2]; rfl
    rw [decide_eq_false c2]
    have c3:¬ (Stand x m ∧ x.at_ = m.at_):=fun e=>c ⟨c1,e.2,c2,e.1⟩
    rw [(yD hm k).false c3]; rfl
  · unfold Sh.cO
    rw [r3 h k]
    simp only [Option.bind_some,decide_true,Bool.not_true,cond_false]
    rw [c.done,decide_eq_false c.steps,(yD hm k).true ⟨c.st,c.at_⟩]
    simp only [cond_false,Option.bind_some,Bool.not_true,bB,Sh.qG,aAg hx hm k c.st.room]
    have ha:Fx.app 8 x.sent m.sent = some (x.sent ++ m.sent):=dB (by omega) (by omega)
    have hw:IntKind.i64.wrap (x.steps + 1) = x.steps + 1:=w64 (by have:=h.2.1; omega)
    simp only [putS,ha,Option.bind_some,hw]
    rfl
theorem xQ (hb:∀ p ∈ m.pieces,p.old.length ≤ 1099511627776):Answers (Sh.eC x m) x m (CanA x m) (applied x m):=by
  have hs:=hx.sent
  have hms:=hm.2.2.2
  have ep:=pZ hm.1 hm.2.1 hm.2.2.1 hb
  refine ⟨fun h=>?_,fun h k=>?_,fun h k c=>?_,fun h k c=>?_⟩
  · unfold Sh.eC; rw [(fB x).false h]; rfl
  · unfold Sh.eC; rw [(fB x).true h,Option.bind_some,ep,(oA hm).false k]; rfl
  · unfold Sh.eC
    rw [(fB x).true h,Option.bind_some,ep,(oA hm).true k]
    simp only [Option.bind_some,Bool.not_true,cond_false]
    cases c1:x.done
    case true=>rfl
    simp only [cond_false]
    by_cases c0:x.at_ = m.at_
    case neg=>rw [decide_eq_false c0]; rfl
    rw [decide_eq_true c0]
    simp only [Bool.not_true,cond_false]
    by_cases c2:x.steps = 4294967296
    · rw [decide_eq_true c2]; rfl
    rw [decide_eq_false c2]
    have c3:¬ Stand x (side m true):=fun e=>c ⟨c1,c0,c2,e⟩
    rw [(nV true hm k).false c3]; rfl
  · unfold Sh.eC
    rw [(fB x).true h,Option.bind_some,ep,(oA hm).true k]
    simp only [Option.bind_some,Bool.not_true,cond_false]
    have e4:Stand x (side m true):=c.st
    rw [c.done,decide_eq_true c.at_,decide_eq_false c.steps,(nV true hm k).true e4]
    simp only [cond_false,Option.bind_some,Bool.not_true,bB,Sh.pT,aIt hx hm k c.st.room]
    have ha:Fx.app 8 x.sent m.sent = some (x.sent ++ m.sent):=dB (by omega) (by omega)
    have hw:IntKind.i64.wrap (x.steps + 1) = x.steps + 1:=w64 (by have:=h.2.1; omega)
    simp only [putS,ha,Option.bind_some,hw]
    rfl
end
theorem Answers.same {o o':Option (QState × Int)} {x:QState} {m:QMark} {C:Prop} {y:QState} (h:Answers o x m C y) (h':Answers o' x m C y):o = o' ∧ ((∃ e,o = some (noState,e) ∧ e ≠ 0) ∨ (o = some (y,0) ∧ PlainS x ∧ PlnM m ∧ C)):=by
  by_cases c1:PlainS x
  case neg=>rw [h.arg c1,h'.arg c1]; exact ⟨rfl,.inl ⟨1,rfl,by decide⟩⟩
  by_cases c2:PlnM m
  case neg=>rw [h.mark c1 c2,h'.mark c1 c2]; exact ⟨rfl,.inl ⟨230,rfl,by decide⟩⟩
  by_cases c3:C
  case neg=>rw [h.from_ c1 c2 c3,h'.from_ c1 c2 c3]; exact ⟨rfl,.inl ⟨231,rfl,by decide⟩⟩
  rw [h.ok c1 c2 c3,h'.ok c1 c2 c3]
  exact ⟨rfl,.inr ⟨rfl,c1,c2,c3⟩⟩
end Go.Sp
end
section
namespace Go.Sp
open Go Go.Fw Go.Fx Go.Proofs
theorem aHu (x:QState):0 < (mem x).length:=by simp [mem]
theorem aHy {M:List (List UInt8)} (h:0 < M.length):pk M 0 :: M.tail = M:=by
  cases M with
  | nil=>simp at h
  | cons a M=>rfl
section
variable {x:QState} {m:QMark} (hp:PlnM m)
include hp
theorem qL:∀ p ∈ m.pieces,p.new.length = wd p:=fun p h=>(hp.piece p h).eq
theorem oS (hr:∀ p ∈ m.pieces,RoomP (mem x) p):(putM x m).map List.length = (mem x).map List.length:=mU hr (qL hp)
theorem zS (hr:∀ p ∈ m.pieces,RoomP (mem x) p):0 < (putM x m).length:=by
  have:=congrArg List.length (oS hp hr)
  simp only [List.length_map] at this
  rw [this]; exact aHu x
theorem oM (hr:∀ p ∈ m.pieces,RoomP (mem x) p) (l:List Int) (a s:Int) (d:Bool):mem (putS x m l a s d) = putM x m:=aHy (zS hp hr)
theorem uM (hr:∀ p ∈ m.pieces,RoomP (mem x) p) (l:List Int) (a s:Int) (d:Bool):(putS x m l a s d).ctx.length = x.ctx.length ∧ (putS x m l a s d).tables.map List.length = x.tables.map List.length:=by
  have h:=oS hp hr
  rw [← oM hp hr l a s d] at h
  simp only [mem,List.map_cons,List.cons.injEq] at h
  exact h
theorem kS (hr:∀ p ∈ m.pieces,RoomP (mem x) p) (l:List Int) (a s:Int) (d:Bool) (h:SmallS x) (hl:l.length ≤ 1099511627776):SmallS (putS x m l a s d):=by
  obtain ⟨e1,e2⟩:=uM hp hr l a s d
  have e3:(putS x m l a s d).tables.length = x.tables.length:=by simpa using congrArg List.length e2
  refine ⟨by rw [e1]; exact h.ctx,by rw [e3]; exact h.tables,fun t ht=>?_,hl⟩
  have:t.length ∈ (putS x m l a s d).tables.map List.length:=List.mem_map_of_mem ht
  rw [e2] at this
  obtain ⟨u,hu,e⟩:=List.mem_map.1 this
  rw [← e]; exact h.each u hu
end
end Go.Sp
end
