/- Ground for this claim: The call of TracePlays returns true. Condition: the arguments are of bulk at most 1048576. -/
import Derived.Great.BuildSlice
import Derived.Test.YtmgnkohlfbjjnaaGreatRPl1
set_option linter.unusedVariables false
set_option linter.unusedSimpArgs false
section
namespace Go.Fw
structure Added (r:Res) (w w':World):Prop where
  keeps:Keeps [] w w'
  holds:r.holds w'
  fp:∀ k,r.fp k → w.heap.size ≤ k
theorem MemL.plus {w w':World} {L:List Res} {r:Res} (h:MemL w L) (k:Added r w w'):MemL w' (r :: L):=h.add k.keeps k.holds k.fp
structure Upd (r r':Res) (w w':World):Prop where
  io:Io w w'
  size:w.heap.size ≤ w'.heap.size
  block:∀ k,k < w.heap.size → ¬ r.fp k → w'.heap[k]? = w.heap[k]?
  holds:r'.holds w'
  fp:∀ k,r'.fp k → r.fp k ∨ w.heap.size ≤ k
theorem MemL.chg {w w':World} {L:List Res} {r r':Res} (h:MemL w L) (k:Upd r r' w w') {i:Nat} (hi:L[i]? = some r):MemL w' (L.set i r') :=
  h.upd i hi k.io k.size k.block k.holds k.fp
theorem Keeps.alloc (w:World) (o:Obj):Keeps [] w (w.alloc o) :=
  ⟨⟨rfl,rfl,rfl⟩,by simp,fun k hk _=>RowKit.Below.heap_alloc w o k hk⟩
theorem Added.alloc (w:World) (o:Obj):Added (.obj w.heap.size o) w (w.alloc o) :=
  ⟨Keeps.alloc w o,heap_alloc_new w o,fun k hk=>by simp only [Res.fp] at hk; omega⟩
theorem Keeps.drew {w:World}:Keeps [] w w.drew:=⟨⟨rfl,rfl,rfl⟩,Nat.le_refl _,fun _ _ _=>rfl⟩
theorem MemL.drew {w:World} {L:List Res} (h:MemL w L):MemL w.drew L:=h.keep Keeps.drew
theorem Upd.setRow {w:World} {b:Nat} {cs cs':List Value} {T:TypeId} (hb:w.heap[b]? = some (.cells cs.toArray T (0,0))) :
    Upd (pt b cs T) (pt b cs' T) w (w.setRow b cs'.toArray) :=
  ⟨⟨rfl,rfl,rfl⟩,by simp [World.setRow],fun k _ hf=>setRow_other w b k _ hf,setRow_heap w b cs.toArray cs'.toArray T _ hb,fun _ hk=>.inl hk⟩
def put {α:Type} (l:List α) (off:Nat) (vs:List α):List α:=l.take off ++ vs ++ l.drop (off + vs.length)
section
variable {P:Program} {n:Nat} {F:List (Nat × Value)} {a:Act} {dd:List Deferred} {w:World} {o:Oper} {J:Value → World → Prop}
theorem bN {e:TypeId} {z:Value} {zs:List Value} (hz:∀ w,(zeroValue e).run P w = .ok z w) (hzs:z.cells = zs.toArray) (ho:o.op = .alloc e)
    (next:∀ b w',w.heap.size = b → Added (pt b zs e) w w' → J (.pointer (some ⟨b,0,none⟩)) w'):Yd P o a.eval w J:=by
  have h:=next w.heap.size (w.alloc (.cells zs.toArray e (0,0))) rfl (Added.alloc w _)
  unfold Yd
  simp only [execOp,ho,Instr.alloc,newVar,newRow,Sem.run_bind,hz,Result.andThen_ok,run_newObj,Sem.run_pure,hzs]
  exact h
theorem dA {e:TypeId} {x:Operand} {v:Value} {zs:List Value} (hF:Fr n F a dd) (hx:ev F x = some v) (hzs:v.cells = zs.toArray) (ho:o.op = .box e x)
    (next:∀ b w',w.heap.size = b → Added (pt b zs e) w w' → J (.pointer (some ⟨b,0,none⟩)) w'):Yd P o a.eval w J:=by
  have h:=next w.heap.size (w.alloc (.cells zs.toArray e (0,0))) rfl (Added.alloc w _)
  unfold Yd
  simp only [execOp,ho,hF.eval hx,Instr.box,newVar,newRow,Sem.run_bind,Result.andThen_ok,run_newObj,Sem.run_pure,hzs]
  exact h
theorem aX {t T:TypeId} {x y:Operand} {b off sz:Nat} {v:Value} {vs cs cs':List Value} (hs:∀ w,(sizeOf t).run P w = .ok sz w) (hb:w.heap[b]? = some (.cells cs.toArray T (0,0))) (hF:Fr n F a dd) (ho:o.op = .store t x y)
    (hx:ev F x = some (.pointer (some ⟨b,off,none⟩))) (hy:ev F y = some v) (hv:v.cells = vs.toArray) (hl:vs.length = sz) (h1:∀ u ∈ vs,u.oneCell' = true) (hle:off + vs.length ≤ cs.length) (hset:put cs off vs = cs')
    (next:∀ w',Upd (pt b cs T) (pt b cs' T) w w' → J undef w'):Yd P o a.eval w J:=by
  subst hset hl
  have h:=next _ (Upd.setRow (cs':=put cs off vs) hb)
  have hst:=run_storeCells_at P b off T vs 0 cs.toArray w hb (by simpa using hle) h1
  simp only [Nat.add_zero] at hst
  unfold Yd
  simp only [execOp,ho,hF.eval hx,hF.eval hy,Instr.storeAt,Instr.sureAddr,storeVar,Sem.run_bind,Sem.run_pure,Result.andThen_ok,hs,hv,List.size_toArray,ne_eq,not_true_eq_false,if_false,hst]
  simpa [put] using h
theorem bI {t T:TypeId} {x y:Operand} {b off:Nat} {v:Value} {cs cs':List Value} (hs:∀ w,(sizeOf t).run P w = .ok 1 w) (hb:w.heap[b]? = some (.cells cs.toArray T (0,0))) (hF:Fr n F a dd) (ho:o.op = .store t x y)
    (hx:ev F x = some (.pointer (some ⟨b,off,none⟩))) (hy:ev F y = some v) (h1:v.oneCell' = true) (hlt:off < cs.length) (hset:cs.set off v = cs')
    (next:∀ w',Upd (pt b cs T) (pt b cs' T) w w' → J undef w'):Yd P o a.eval w J:=by
  have hc:v.cells = #[v]:=by cases v <;> first | rfl | cases h1
  refine aX hs hb hF ho hx hy (vs:=[v]) hc rfl (by simpa using h1) (by simp; omega) ?_ next
  rw [← hset,List.set_eq_take_append_cons_drop,if_pos hlt]
  simp [put]
theorem rB {t e sz len:Nat} {parts:List (Nat × Operand)} {vps:List (Nat × Value)} {cs:List Value} {ie:TypeInfo} {z:Value} (hu:P.underlying t = some (.slice e)) (hie:P.info? e = some ie) (hz:ie.zero = some z) (hs:ie.size = sz)
    (hF:Fr n F a dd) (ho:o.op = .buildSlice t len parts.toArray) (hp:evps F parts = some vps) (hsm:Nat.ble (len * sz) 16777216 = true) (hpos:Nat.beq (len * sz) 0 = false)
    (hfill:Instr.fill (fun i=>some (i * sz,sz)) ((Array.range (len * sz)).map (z.cells[· % z.cells.size]!)) vps = some cs.toArray)
    (next:∀ b w',w.heap.size = b → Added (pt b cs e) w w' → J (.slice (some ⟨b,0,none⟩) len len) w'):Yd P o a.eval w J:=by
  subst hs
  have h:=next w.heap.size (w.alloc (.cells cs.toArray e (0,0))) rfl (Added.alloc w _)
  have hsm':¬ len * ie.size > 2 ^ 24:=by have:=Nat.le_of_ble_eq_true hsm; omega
  have hpos':¬ len * ie.size = 0:=fun e=>by rw [e] at hpos; cases hpos
  have hps:(parts.toArray.map fun (i,x)=>(i,a.eval x)).toList = vps:=by
    simp only [List.map_toArray]
    exact hF.evalps hp
  have hr:=run_buildSlice (P:=P) w t e len (parts.toArray.map fun (i,x)=>(i,a.eval x)) cs.toArray ie z hu hie hz hsm' hpos' (by rw [hps]; exact hfill)
  unfold Yd
  simp only [execOp,ho,Sem.run_bind,hr,Result.andThen_ok,Sem.run_pure]
  exact h
theorem aO {f:FuncId} {xs:List Operand} {ts:Array TypeId} {vs:List Value} {R:Value → World → Prop} (hcall:∀ args w,(callFunc f args).run P w = .ok (.enter f args) w) (hF:Fr n F a dd)
    (ho:o.op = .call { callee:=.value (.func f),args:=xs.toArray,argTypes:=ts }) (hx:evs F xs = some vs) (hc:Calls P f vs.toArray w (Ret R)) (next:∀ v w',R v w' → J v w'):Yd P o a.eval w J:=by
  unfold Yd
  simp only [execOp,ho,resolve,Act.eval,Deferred.ofValue,invoke,Sem.run_bind,Sem.run_pure,Result.andThen_ok,List.map_toArray,hF.evals hx,Array.empty_append,Array.append_empty,hcall]
  exact Calls.mono hc fun e w' he=>by cases e <;> first | exact next _ _ he | exact he
theorem hJ {f:FuncId} {x:Operand} {xs:List Operand} {ts:Array TypeId} {fs cs vs:List Value} {R:Value → World → Prop} (hcall:∀ args w,(callFunc f args).run P w = .ok (.enter f args) w) (hF:Fr n F a dd)
    (ho:o.op = .call { callee:=.value x,args:=xs.toArray,argTypes:=ts }) (hf:ev F x = some (.func (.func f) fs.toArray cs.toArray)) (hx:evs F xs = some vs) (hc:Calls P f (fs ++ vs ++ cs).toArray w (Ret R)) (next:∀ v w',R v w' → J v w'):Yd P o a.eval w J:=by
  unfold Yd
  simp only [execOp,ho,resolve,hF.eval hf,Deferred.ofValue,invoke,Sem.run_bind,Sem.run_pure,Result.andThen_ok,List.map_toArray,hF.evals hx,List.append_toArray,hcall]
  exact Calls.mono hc fun e w' he=>by cases e <;> first | exact next _ _ he | exact he
end
class Enc (X:Type) where
  enc:X → List Value
  sz:Nat
  len:∀ x,(enc x).length = sz
  one:∀ x,∀ u ∈ enc x,u.oneCell' = true
  pos:0 < sz
def encs {X:Type} [Enc X] (l:List X):List Value:=l.flatMap Enc.enc
theorem hZ {X:Type} [Enc X]:encs ([]:List X) = []:=rfl
theorem jK {X:Type} [Enc X] (x:X) (l:List X):encs (x :: l) = Enc.enc x ++ encs l:=by simp [encs]
theorem eI {X:Type} [Enc X] (l m:List X):encs (l ++ m) = encs l ++ encs m:=by simp [encs]
theorem qF {X:Type} [Enc X] (x:X):encs [x] = Enc.enc x:=by simp [encs]
theorem dW {X:Type} [Enc X] (l:List X):(encs l).length = l.length * Enc.sz X:=by
  induction l with
  | nil=>simp [encs]
  | cons x l ih=>rw [jK,List.length_append,Enc.len,ih,List.length_cons,Nat.add_mul]; omega
theorem gG {X:Type} [Enc X] (l:List X):∀ u ∈ encs l,u.oneCell' = true:=by
  intro u hu
  simp only [encs,List.mem_flatMap] at hu
  obtain ⟨x,_,hx⟩:=hu
  exact Enc.one x u hx
theorem iS {X:Type} [Enc X] (l:List X) (i:Nat) (x:X) (h:l[i]? = some x):cut (encs l) (i * Enc.sz X) (Enc.sz X) = Enc.enc x:=by
  induction l generalizing i with
  | nil=>simp at h
  | cons y l ih =>
    rw [jK]
    cases i with
    | zero =>
      simp at h; subst h
      simp only [cut,Nat.zero_mul,List.drop_zero]
      rw [List.take_append_of_le_length (by rw [Enc.len]; exact Nat.le_refl _),List.take_of_length_le (by rw [Enc.len]; exact Nat.le_refl _)]
    | succ i =>
      simp at h
      have:=ih i h
      simp only [cut] at this ⊢
      rw [show (i + 1) * Enc.sz X = (Enc.enc y).length + i * Enc.sz X by rw [Enc.len,Nat.add_mul]; omega,List.drop_length_add_append]
      exact this
structure SliceOf {X:Type} [Enc X] (lo:Nat) (w:World) (s:SV) (l:List X):Prop where
  len:s.len = l.length
  room:s.len ≤ s.cap
  cells:match s.a with
    | none=>l = [] ∧ s.cap = 0
    | some ad=>(l = [] ∨ ad.spot = none) ∧ lo ≤ ad.block ∧ Cells w ad.block ad.off (encs l)
theorem SliceOf.nil {X:Type} [Enc X] (lo:Nat) (w:World):SliceOf lo w SV.nil ([]:List X):=⟨rfl,Nat.le_refl _,rfl,rfl⟩
theorem SliceOf.mono {X:Type} [Enc X] {lo lo':Nat} {w:World} {s:SV} {l:List X} (h:SliceOf lo w s l) (hl:lo' ≤ lo):SliceOf lo' w s l:=by
  refine ⟨h.len,h.room,?_⟩
  have:=h.cells
  split at this
  · rename_i e; simpa [e] using this
  · rename_i ad e; obtain ⟨h1,h2,h3⟩:=this; exact ⟨h1,by omega,h3⟩
theorem SliceOf.now {X:Type} [Enc X] {lo lo':Nat} {S:List Nat} {w1 w:World} {s:SV} {l:List X} (h:SliceOf lo w1 s l) (hs:Same lo' S w1 w) (hlo:lo' ≤ lo) (hS:∀ b ∈ S,b < lo):SliceOf lo w s l:=by
  refine ⟨h.len,h.room,?_⟩
  have:=h.cells
  split at this
  · rename_i e; simpa [e] using this
  · rename_i ad e
    obtain ⟨h1,h2,h3⟩:=this
    exact ⟨h1,h2,hs.cells h3 (by omega) fun hm=>by have:=hS _ hm; omega⟩
theorem SliceOf.keep {X:Type} [Enc X] {lo:Nat} {w w':World} {s:SV} {l:List X} (h:SliceOf lo w s l) (k:Keeps [] w w'):SliceOf lo w' s l :=
  h.now (lo':=0) (S:=[]) ⟨k.size,fun j _ hj _=>k.block j hj (by simp)⟩ (Nat.zero_le _) (by simp)
def SV.blk (s:SV):Nat:=match s.a with | some ad=>ad.block | none=>0
def SV.off (s:SV):Nat:=match s.a with | some ad=>ad.off | none=>0
theorem SliceOf.elemS {X:Type} [Enc X] {lo i:Nat} {w:World} {s:SV} {l:List X} {x:X} (h:SliceOf lo w s l) (hx:l[i]? = some x):Cells w s.blk (s.off + i * Enc.sz X) (Enc.enc x):=by
  have hc:=h.cells
  unfold SV.blk SV.off
  split at hc
  · rename_i e
    rw [hc.1] at hx; simp at hx
  · rename_i ad e
    obtain ⟨_,_,hc⟩:=hc
    simp only [e]
    intro j v hv
    rw [← iS l i x hx] at hv
    obtain ⟨_,h2⟩:=lH _ _ _ _ _ hv
    have:=hc _ _ h2
    rwa [← Nat.add_assoc] at this
theorem SliceOf.addrS {X:Type} [Enc X] {lo i:Nat} {w:World} {s:SV} {l:List X} (h:SliceOf lo w s l) (hi:i < l.length):s.v = .slice (some ⟨s.blk,s.off,none⟩) l.length s.cap:=by
  have hc:=h.cells
  have hl:=h.len
  obtain ⟨sa,sl,sc⟩:=s
  cases sa with
  | none=>have:=hc.1; subst this; simp at hi
  | some ad =>
    obtain ⟨b,off,sp⟩:=ad
    have:sp = none:=hc.1.resolve_left fun h=>by rw [h] at hi; exact absurd hi (Nat.not_lt_zero _)
    subst this
    simp only at hl
    subst hl
    rfl
theorem Cells.get {w:World} {b off:Nat} {vs:List Value} (h:Cells w b off vs) (j:Nat) {v:Value} (hv:vs[j]? = some v):w.cell? ⟨b,off + j,none⟩ = some v:=h j v hv
theorem Cells.sub {w:World} {b off:Nat} {vs us:List Value} (h:Cells w b off vs) (o n:Nat) (hv:cut vs o n = us):Cells w b (off + o) us:=by
  intro j v hj
  subst hv
  have:=h _ _ (lH _ _ _ _ _ hj).2
  rwa [← Nat.add_assoc] at this
theorem SliceOf.addr {X:Type} [Enc X] {lo:Nat} {w:World} {s:SV} {l:List X} (h:SliceOf lo w s l) (hl:l ≠ []):∃ b off,s = ⟨some ⟨b,off,none⟩,l.length,s.cap⟩:=by
  have hc:=h.cells
  have hlen:=h.len
  obtain ⟨sa,sl,sc⟩:=s
  cases sa with
  | none=>exact absurd hc.1 hl
  | some ad =>
    obtain ⟨b,off,sp⟩:=ad
    have:sp = none:=hc.1.resolve_left hl
    subst this
    simp only at hlen
    subst hlen
    exact ⟨b,off,rfl⟩
section
variable {P:Program} {n:Nat} {F:List (Nat × Value)} {a:Act} {dd:List Deferred} {w:World} {o:Oper} {J:Value → World → Prop}
theorem qA {t ty e lo bytes sz:Nat} {v v':Value} {w':World} {xs news:List Value} {m k c:Nat} {ad:Addr} {i:TypeInfo} {z:Value} (ht:P.underlying t = some (.slice e)) (hi:P.info? e = some i) (hz:i.zero = some z)
    (hsize:i.size = sz) (hby:i.bytes = bytes) (hown:w.ownsRow lo e sz v m xs) (hl:news.length = k * sz) (hnews:∀ j u,news[j]? = some u → w.cell? (ad.add j) = some u) (h1:∀ u ∈ news,u.oneCell' = true)
    (h63:m + k ≤ maxLen) (hbytes:(m + k) * bytes ≤ 140737488355328) (hr:(Builtin.append_ #[t,t] ty #[v,.slice (some ad) k c]).run P w = .ok v' w') :
    ∀ j,v'.ownBlock = some j → v.ownBlock = some j ∨ w.heap.size ≤ j:=by
  subst hsize hby
  have hm:(m + k:Nat) ≤ 9223372036854775807:=by simp only [maxLen] at h63; omega
  rcases hown.2 with ⟨rfl,rfl⟩ | ⟨g,cap,cur,rfl,_,hg,_,_,hcs,_⟩
  · by_cases hk:k = 0
    · subst hk
      have hn:news = []:=List.eq_nil_of_length_eq_zero (by simpa using hl)
      subst hn
      have e0:(Builtin.append_ #[t,t] ty #[.slice none 0 0,.slice (some ad) 0 c]).run P w = .ok (.slice none 0 0) w:=by
        simp [Builtin.append_,run_underlying ht,sizeOf,typeInfo,hi,Builtin.lenOf,Builtin.firstCells,loadCells,loadCellsFrom]
      rw [e0] at hr
      cases hr
      intro j hj; cases hj
    · rw [run_append_nil (P:=P) w t ty e i z ht hi hz ad k c news hl hnews (by omega) (by omega) (by simp only [Nat.zero_add] at hbytes; omega)] at hr
      cases hr
      intro j hj
      simp [Value.ownBlock] at hj
      exact .inr (by omega)
  · by_cases hroom:m + k ≤ cap
    · have hfit:m * i.size + news.length ≤ cur.size:=by rw [hl,hcs,← Nat.add_mul]; exact Nat.mul_le_mul_right _ hroom
      rw [run_append_room (P:=P) w t ty e i ht hi g m cap cur hg ad k c news hl hnews h1 hroom hfit] at hr
      cases hr
      exact fun j hj=>.inl hj
    · rw [run_append_grow (P:=P) w t ty e i z ht hi hz ⟨g,0,none⟩ m cap xs hown.1 (hown.cells (g:=g) rfl) ad k c news hl hnews (by omega) (by omega) (growslice_fits (by omega) hbytes)] at hr
      cases hr
      intro j hj
      simp [Value.ownBlock] at hj
      exact .inr (by omega)
theorem bQ {X:Type} [Enc X] {t e lo:TypeId} {x:Operand} {s:SV} {l:List X} {w1:World} (hs:SliceOf lo w1 s l) (ht:P.underlying t = some (.slice e)) (hF:Fr n F a dd) (ho:o.op = .call { callee:=.builtin .len,args:=#[x],argTypes:=#[t] }) (hx:ev F x = some s.v) :
    (execOp a.eval o).run P w = .ok (.value (.int .i64 (l.length:Nat))) w:=by rw [aKi ht hF ho hx,hs.len]
theorem aS {X:Type} [Enc X] {t e lo sz:Nat} {x y:Operand} {k:IntKind} {i:Int} {s:SV} {l:List X} {w1:World} {ti:TypeInfo} (hs:SliceOf lo w1 s l) (ht:P.underlying t = some (.slice e)) (hi:P.info? e = some ti) (hsz:ti.size = sz)
    (hF:Fr n F a dd) (ho:o.op = .indexAddr t x y) (hx:ev F x = some s.v) (hy:ev F y = some (.int k i)) (h:0 ≤ i ∧ i < (l.length:Int)) :
    (execOp a.eval o).run P w = .ok (.value (.pointer (some ⟨s.blk,s.off + i.toNat * sz,none⟩))) w:=by
  rw [hs.addrS (i:=i.toNat) (by omega)] at hx
  exact sM (P:=P) (w:=w) ht hi hsz hF ho hx hy h
theorem aGj {X:Type} [Enc X] {x y:Operand} {t e lo lo' bytes:Nat} {s sx:SV} {xs:List Value} {l:List X} {m:Nat} {i:TypeInfo} {z:Value} (ht:P.underlying t = some (.slice e)) (hi:P.info? e = some i) (hz:i.zero = some z)
    (hsize:i.size = Enc.sz X) (hby:i.bytes = bytes) (hzs:z.cells.size = Enc.sz X)
    (hF:Fr n F a dd) (ho:o.op = .call { callee:=.builtin .append,args:=#[x,y],argTypes:=#[t,t] }) (hx:ev F x = some s.v) (hy:ev F y = some sx.v)
    (hown:w.ownsRow lo e (Enc.sz X) s.v m xs) (hsx:SliceOf lo' w sx l) (h63:m + l.length ≤ maxLen) (hbytes:(m + l.length) * bytes ≤ 140737488355328) (hlo:lo ≤ w.heap.size)
    (next:∀ (s':SV) w',Upd (.row lo s.v e (Enc.sz X) m xs) (.row lo s'.v e (Enc.sz X) (m + l.length) (xs ++ encs l)) w w' → s'.len = m + l.length → J s'.v w'):Yd P o a.eval w J:=by
  have fin:∀ v' w',(Builtin.append_ #[t,t] o.type #[s.v,sx.v]).run P w = .ok v' w' → w'.ownsRow lo e (Enc.sz X) v' (m + l.length) (xs ++ encs l) → w.grownBy w' s.v.ownBlock →
      (∀ j,v'.ownBlock = some j → s.v.ownBlock = some j ∨ w.heap.size ≤ j) → Yd P o a.eval w J:=by
    intro v' w' hr h2 h3 h4
    have hv:∃ s':SV,v' = s'.v ∧ s'.len = m + l.length:=by
      rcases h2.2 with ⟨rfl,h0⟩ | ⟨g,cap,cur,rfl,_⟩
      · exact ⟨SV.nil,rfl,h0.symm⟩
      · exact ⟨⟨some ⟨g,0,none⟩,_,cap⟩,rfl,rfl⟩
    obtain ⟨s',rfl,hl'⟩:=hv
    have h:=next s' w' ⟨⟨h3.os,h3.tape,h3.output⟩,h3.size,fun k hk hf=>h3.block k hk fun e'=>hf (by simpa [Res.fp] using e'.symm),h2,h4⟩ hl'
    unfold Yd
    simp only [execOp,ho,resolve,invoke,builtin,Sem.run_bind,Sem.run_pure,Result.andThen_ok,List.map_toArray,List.map_cons,List.map_nil,hF.eval hx,hF.eval hy,hr]
    exact h
  have hc:=hsx.cells
  have hln:=hsx.len
  obtain ⟨sa,sl,sc⟩:=sx
  cases sa with
  | some ad =>
    obtain ⟨h1,h2,h3⟩:=hc
    obtain ⟨b,off,sp⟩:=ad
    simp only at h1 h2 h3 hln
    subst hln
    have hcell:∀ j u,(encs l)[j]? = some u → w.cell? ((⟨b,off,sp⟩ : Addr).add j) = some u:=fun j u hu=>by
      rcases h1 with h1 | h1
      · subst h1; simp [hZ] at hu
      · subst h1; rw [eB]; exact h3 j u hu
    obtain ⟨v',w',hr,h4,h5,_⟩:=run_append_own (P:=P) w lo t o.type e i z (Enc.sz X) bytes ht hi hz hsize hby hzs (Enc.pos) s.v m xs hown ⟨b,off,sp⟩ l.length sc (encs l) (dW l) hcell (gG l) h63 hbytes hlo
    exact fin v' w' hr h4 h5 (qA ht hi hz hsize hby hown (dW l) hcell (gG l) h63 hbytes hr)
  | none =>
    obtain ⟨h1,h2⟩:=hc
    simp only at h1 h2 hln
    subst h1 h2
    simp only [List.length_nil] at hln
    subst hln
    refine fin s.v w ?_ (by simpa [hZ] using hown) ⟨rfl,rfl,rfl,Nat.le_refl _,fun _ _ _=>rfl⟩ fun j hj=>.inl hj
    have hcap:s.len ≤ s.cap:=by
      rcases hown.2 with ⟨h,_⟩ | ⟨g,cap,cur,h,_,_,h',_⟩
      · obtain ⟨sa,sl,sc⟩:=s; cases h; exact Nat.le_refl _
      · obtain ⟨sa,sl,sc⟩:=s; cases h; exact h'
    obtain ⟨sa,sl,sc⟩:=s
    have hcap':sl ≤ sc:=hcap
    cases sa <;> simp [Builtin.append_,run_underlying ht,sizeOf,typeInfo,hi,Builtin.lenOf,Builtin.firstCells,storeCells,hcap']
end
end Go.Fw
end
section
namespace Go.Fw
instance:Enc Int:=⟨fun x=>[.int .i64 x],1,fun _=>rfl,fun x u hu=>by simp at hu; subst hu; rfl,by decide⟩
instance:Enc UInt8:=⟨fun x=>[.int .u8 (x.toNat:Int)],1,fun _=>rfl,fun x u hu=>by simp at hu; subst hu; rfl,by decide⟩
instance:Enc SV:=⟨fun x=>[x.v],1,fun _=>rfl,fun x u hu=>by simp at hu; subst hu; rfl,by decide⟩
structure Vec (X:Type) (n:Nat) where
  l:List X
  h:l.length = n
deriving DecidableEq
theorem Vec.len {X:Type} {n:Nat} (x:Vec X n):x.l.length = n:=x.h
def Vec.set {X:Type} {n:Nat} (x:Vec X n) (i:Nat) (y:X):Vec X n:=⟨x.l.set i y,by rw [List.length_set]; exact x.h⟩
theorem Vec.ext {X:Type} {n:Nat} {x y:Vec X n} (h:x.l = y.l):x = y:=by cases x; cases y; cases h; rfl
theorem Vec.get {X:Type} {n:Nat} (x:Vec X n) {i:Nat} (h:i < n):∃ y,x.l[i]? = some y:=⟨_,List.getElem?_eq_getElem (by rw [x.len]; exact h)⟩
theorem cW {s R:List Value} {m o:Nat} {v:Value} (h:s.length = m) (t:R[o]? = some v):(s ++ R)[m + o]? = some v:=by
  subst h; rw [List.getElem?_append_right (by omega)]; simpa using t
theorem cX {s R R':List Value} {m o:Nat} {v:Value} (h:s.length = m) (t:R.set o v = R'):(s ++ R).set (m + o) v = s ++ R':=by
  subst h; rw [List.set_append_right _ _ (by omega)]; simp [t]
theorem iQ {s R y:List Value} {m o n:Nat} (h:s.length = m) (t:cut R o n = y):cut (s ++ R) (m + o) n = y:=by
  subst h; unfold cut at *; rw [List.drop_length_add_append]; exact t
theorem gQ {R y:List Value} {v:Value} {o n:Nat} (t:cut R o n = y):cut (v :: R) (o + 1) n = y:=t
theorem fR {s R:List Value} {n:Nat} (h:s.length = n):cut (s ++ R) 0 n = s:=by
  subst h; simp [cut]
theorem aY {s:List Value} {n:Nat} (h:s.length = n):cut s 0 n = s:=by
  subst h; simp [cut]
theorem pN {s R y:List Value} {o n:Nat} (h:o + n ≤ s.length) (t:cut s o n = y):cut (s ++ R) o n = y:=by
  unfold cut at *
  rw [List.drop_append_of_le_length (by omega),List.take_append_of_le_length (by simp; omega)]
  exact t
theorem kN {s R y:List Value} {m o n e:Nat} (h:s.length = m) (t:cut R (o + e) n = y):cut (s ++ R) (m + o + e) n = y:=by rw [Nat.add_assoc]; exact iQ h t
theorem lU {R y:List Value} {v:Value} {o n e:Nat} (t:cut R (o + e) n = y):cut (v :: R) (o + 1 + e) n = y:=by rw [Nat.add_right_comm]; exact gQ t
theorem gW {s R R' vs:List Value} {m o:Nat} (h:s.length = m) (t:put R o vs = R'):put (s ++ R) (m + o) vs = s ++ R':=by
  subst h; unfold put at *; rw [List.take_length_add_append,Nat.add_assoc,List.drop_length_add_append,← t]; simp
theorem gV {R R' vs:List Value} {v:Value} {o:Nat} (t:put R o vs = R'):put (v :: R) (o + 1) vs = v :: R':=by
  unfold put at *; rw [Nat.add_right_comm]; simp [← t]
theorem fJ {s R vs:List Value} (h:s.length = vs.length):put (s ++ R) 0 vs = vs ++ R:=by
  unfold put; simp [← h]
theorem bE {s vs:List Value} (h:s.length = vs.length):put s 0 vs = vs:=by
  unfold put; simp [← h]
theorem mW {s R s' vs:List Value} {o n:Nat} (h:o + n ≤ s.length) (hv:vs.length = n) (t:put s o vs = s'):put (s ++ R) o vs = s' ++ R:=by
  unfold put at *
  rw [List.take_append_of_le_length (by omega),List.drop_append_of_le_length (by omega),← t]
  simp
theorem kR {s R R' vs:List Value} {m o e:Nat} (h:s.length = m) (t:put R (o + e) vs = R'):put (s ++ R) (m + o + e) vs = s ++ R':=by rw [Nat.add_assoc]; exact gW h t
theorem mB {R R' vs:List Value} {v:Value} {o e:Nat} (t:put R (o + e) vs = R'):put (v :: R) (o + 1 + e) vs = v :: R':=by rw [Nat.add_right_comm]; exact gV t
theorem zA {X:Type} [Enc X] {l:List X} {i:Nat} (h:i < l.length):i * Enc.sz X + Enc.sz X ≤ (encs l).length:=by
  rw [dW,← Nat.succ_mul]; exact Nat.mul_le_mul_right _ h
theorem aHj {X:Type} [Enc X] {l:List X} {i:Nat} {y:X} (h:l[i]? = some y):i * Enc.sz X + Enc.sz X ≤ (encs l).length:=zA (List.getElem?_eq_some_iff.1 h).1
theorem aEo {X:Type} [Enc X] {l:List X} {i:Nat} {y:X} (h:i < l.length):put (encs l) (i * Enc.sz X) (Enc.enc y) = encs (l.set i y):=by
  induction l generalizing i with
  | nil=>simp at h
  | cons z l ih =>
    cases i with
    | zero =>
      simp only [Nat.zero_mul,List.set_cons_zero,jK]
      exact fJ ((Enc.len _).trans (Enc.len _).symm)
    | succ i =>
      simp only [List.set_cons_succ,jK]
      rw [show (i + 1) * Enc.sz X = Enc.sz X + i * Enc.sz X by rw [Nat.add_mul]; omega]
      exact gW (Enc.len _) (ih (by simpa using h))
theorem bS {X:Type} [Enc X] {n:Nat} (x:Vec X n):(encs x.l).length = n * Enc.sz X:=by rw [dW,x.len]
theorem jL {X:Type} [Enc X] {l:List X} {i:Nat} {y:X} (h:l[i]? = some y):cut (encs l) (0 + i * Enc.sz X) (Enc.sz X) = Enc.enc y:=by rw [Nat.zero_add]; exact iS l i y h
theorem kV {X:Type} [Enc X] {l:List X} {i:Nat} {y:X} (h:l[i]? = some y):0 + i * Enc.sz X + Enc.sz X ≤ (encs l).length:=by rw [Nat.zero_add]; exact aHj h
theorem kW {X:Type} [Enc X] {n:Nat} {v:Vec X n} {i:Nat} (h:i < n):0 + i * Enc.sz X + Enc.sz X ≤ (encs v.l).length:=by rw [Nat.zero_add]; exact zA (by rw [v.len]; exact h)
theorem jM {X:Type} [Enc X] {n:Nat} {v:Vec X n} {i:Nat} {y:X} (h:i < n):put (encs v.l) (0 + i * Enc.sz X) (Enc.enc y) = encs (v.set i y).l:=by rw [Nat.zero_add]; exact aEo (by rw [v.len]; exact h)
theorem dK {l vs:List Value} {o n j:Nat} {v:Value} (h:cut l o n = vs) (t:vs[j]? = some v):l[o + j]? = some v:=by
  subst h; exact (lH _ _ _ _ _ t).2
structure LVal where
  kind:Int
  table:Int
  row:Int
  x:Int
deriving DecidableEq
def LVal.enc (x:LVal):List Value:=[.int .i64 x.kind,.int .i64 x.table,.int .i64 x.row,.int .i64 x.x]
theorem LVal.len (x:LVal):x.enc.length = 4:=rfl
theorem LVal.one (x:LVal):∀ u ∈ x.enc,u.oneCell' = true:=(List.forall_mem_cons.2 ⟨rfl,(List.forall_mem_cons.2 ⟨rfl,(List.forall_mem_cons.2 ⟨rfl,(List.forall_mem_cons.2 ⟨rfl,(fun _ h=>absurd h List.not_mem_nil)⟩)⟩)⟩)⟩)
instance:Enc LVal:=⟨LVal.enc,4,LVal.len,LVal.one,by decide⟩
theorem LVal.g_kind (x:LVal):x.enc[0]? = some (.int .i64 x.kind):=rfl
theorem LVal.s_kind (x:LVal) (y:Int):x.enc.set 0 (.int .i64 y) = { x with kind:=y }.enc:=rfl
theorem LVal.g_table (x:LVal):x.enc[1]? = some (.int .i64 x.table):=rfl
theorem LVal.g_row (x:LVal):x.enc[2]? = some (.int .i64 x.row):=rfl
theorem LVal.g_x (x:LVal):x.enc[3]? = some (.int .i64 x.x):=rfl
theorem LVal.s_x (x:LVal) (y:Int):x.enc.set 3 (.int .i64 y) = { x with x:=y }.enc:=(congrArg (List.cons _) (congrArg (List.cons _) (congrArg (List.cons _) rfl)))
structure LSlot where
  ptr:LVal
  bytes:Vec UInt8 8
  mask:Int
deriving DecidableEq
def LSlot.enc (x:LSlot):List Value:=LVal.enc x.ptr ++ (encs x.bytes.l ++ ([.int .i64 x.mask]))
theorem LSlot.len (x:LSlot):x.enc.length = 13:=by
  have h0:(LVal.enc x.ptr).length = 4:=LVal.len x.ptr
  have h1:(encs x.bytes.l).length = 8:=bS x.bytes
  simp [LSlot.enc,h0,h1]
theorem LSlot.one (x:LSlot):∀ u ∈ x.enc,u.oneCell' = true:=(List.forall_mem_append.2 ⟨LVal.one x.ptr,(List.forall_mem_append.2 ⟨gG x.bytes.l,(List.forall_mem_cons.2 ⟨rfl,(fun _ h=>absurd h List.not_mem_nil)⟩)⟩)⟩)
instance:Enc LSlot:=⟨LSlot.enc,13,LSlot.len,LSlot.one,by decide⟩
theorem LSlot.c_ptr (x:LSlot):cut x.enc 0 4 = x.ptr.enc:=(fR (n:=4) (LVal.len x.ptr))
theorem LSlot.c_bytes (x:LSlot):cut x.enc 4 8 = encs x.bytes.l:=(iQ (m:=4) (o:=0) (LVal.len x.ptr) (fR (n:=8) (bS x.bytes)))
theorem LSlot.g_mask (x:LSlot):x.enc[12]? = some (.int .i64 x.mask):=(cW (m:=4) (o:=8) (LVal.len x.ptr) (cW (m:=8) (o:=0) (bS x.bytes) rfl))
structure LTurn where
  reg:Int
  old:LVal
  new:LVal
deriving DecidableEq
def LTurn.enc (x:LTurn):List Value:=.int .i64 x.reg :: LVal.enc x.old ++ (LVal.enc x.new)
theorem LTurn.len (x:LTurn):x.enc.length = 9:=by
  have h0:(LVal.enc x.old).length = 4:=LVal.len x.old
  have h1:(LVal.enc x.new).length = 4:=LVal.len x.new
  simp [LTurn.enc,h0,h1]
theorem LTurn.one (x:LTurn):∀ u ∈ x.enc,u.oneCell' = true:=(List.forall_mem_cons.2 ⟨rfl,(List.forall_mem_append.2 ⟨LVal.one x.old,(LVal.one x.new)⟩)⟩)
instance:Enc LTurn:=⟨LTurn.enc,9,LTurn.len,LTurn.one,by decide⟩
theorem LTurn.g_reg (x:LTurn):x.enc[0]? = some (.int .i64 x.reg):=rfl
theorem LTurn.s_reg (x:LTurn) (y:Int):x.enc.set 0 (.int .i64 y) = { x with reg:=y }.enc:=rfl
theorem LTurn.c_old (x:LTurn):cut x.enc 1 4 = x.old.enc:=(gQ (o:=0) (fR (n:=4) (LVal.len x.old)))
theorem LTurn.c_new (x:LTurn):cut x.enc 5 4 = x.new.enc:=(gQ (o:=4) (iQ (m:=4) (o:=0) (LVal.len x.old) (aY (n:=4) (LVal.len x.new))))
structure LCell where
  slot:Int
  old:LSlot
  new:LSlot
deriving DecidableEq
def LCell.enc (x:LCell):List Value:=.int .i64 x.slot :: LSlot.enc x.old ++ (LSlot.enc x.new)
theorem LCell.len (x:LCell):x.enc.length = 27:=by
  have h0:(LSlot.enc x.old).length = 13:=LSlot.len x.old
  have h1:(LSlot.enc x.new).length = 13:=LSlot.len x.new
  simp [LCell.enc,h0,h1]
theorem LCell.one (x:LCell):∀ u ∈ x.enc,u.oneCell' = true:=(List.forall_mem_cons.2 ⟨rfl,(List.forall_mem_append.2 ⟨LSlot.one x.old,(LSlot.one x.new)⟩)⟩)
instance:Enc LCell:=⟨LCell.enc,27,LCell.len,LCell.one,by decide⟩
theorem LCell.g_slot (x:LCell):x.enc[0]? = some (.int .i64 x.slot):=rfl
theorem LCell.s_slot (x:LCell) (y:Int):x.enc.set 0 (.int .i64 y) = { x with slot:=y }.enc:=rfl
theorem LCell.c_old (x:LCell):cut x.enc 1 13 = x.old.enc:=(gQ (o:=0) (fR (n:=13) (LSlot.len x.old)))
theorem LCell.c_new (x:LCell):cut x.enc 14 13 = x.new.enc:=(gQ (o:=13) (iQ (m:=13) (o:=0) (LSlot.len x.old) (aY (n:=13) (LSlot.len x.new))))
structure RPiece where
  table:Int
  from_:Int
  old:SV
  new:SV
deriving DecidableEq
def RPiece.enc (x:RPiece):List Value:=[.int .i64 x.table,.int .i64 x.from_,x.old.v,x.new.v]
theorem RPiece.len (x:RPiece):x.enc.length = 4:=rfl
theorem RPiece.one (x:RPiece):∀ u ∈ x.enc,u.oneCell' = true:=(List.forall_mem_cons.2 ⟨rfl,(List.forall_mem_cons.2 ⟨rfl,(List.forall_mem_cons.2 ⟨rfl,(List.forall_mem_cons.2 ⟨rfl,(fun _ h=>absurd h List.not_mem_nil)⟩)⟩)⟩)⟩)
instance:Enc RPiece:=⟨RPiece.enc,4,RPiece.len,RPiece.one,by decide⟩
theorem RPiece.g_table (x:RPiece):x.enc[0]? = some (.int .i64 x.table):=rfl
theorem RPiece.g_from_ (x:RPiece):x.enc[1]? = some (.int .i64 x.from_):=rfl
theorem RPiece.s_from_ (x:RPiece) (y:Int):x.enc.set 1 (.int .i64 y) = { x with from_:=y }.enc:=(congrArg (List.cons _) rfl)
theorem RPiece.g_old (x:RPiece):x.enc[2]? = some (x.old.v):=rfl
theorem RPiece.s_old (x:RPiece) (y:SV):x.enc.set 2 (y.v) = { x with old:=y }.enc:=(congrArg (List.cons _) (congrArg (List.cons _) rfl))
theorem RPiece.g_new (x:RPiece):x.enc[3]? = some (x.new.v):=rfl
theorem RPiece.s_new (x:RPiece) (y:SV):x.enc.set 3 (y.v) = { x with new:=y }.enc:=(congrArg (List.cons _) (congrArg (List.cons _) (congrArg (List.cons _) rfl)))
structure RMark where
  at_:Int
  next:Int
  done:Bool
  regs:SV
  slots:SV
  pieces:SV
  sent:SV
deriving DecidableEq
def RMark.enc (x:RMark):List Value:=[.int .i64 x.at_,.int .i64 x.next,.bool x.done,x.regs.v,x.slots.v,x.pieces.v,x.sent.v]
theorem RMark.len (x:RMark):x.enc.length = 7:=rfl
theorem RMark.one (x:RMark):∀ u ∈ x.enc,u.oneCell' = true:=(List.forall_mem_cons.2 ⟨rfl,(List.forall_mem_cons.2 ⟨rfl,(List.forall_mem_cons.2 ⟨rfl,(List.forall_mem_cons.2 ⟨rfl,(List.forall_mem_cons.2 ⟨rfl,(List.forall_mem_cons.2 ⟨rfl,(List.forall_mem_cons.2 ⟨rfl,(fun _ h=>absurd h List.not_mem_nil)⟩)⟩)⟩)⟩)⟩)⟩)⟩)
instance:Enc RMark:=⟨RMark.enc,7,RMark.len,RMark.one,by decide⟩
theorem RMark.g_at_ (x:RMark):x.enc[0]? = some (.int .i64 x.at_):=rfl
theorem RMark.s_at_ (x:RMark) (y:Int):x.enc.set 0 (.int .i64 y) = { x with at_:=y }.enc:=rfl
theorem RMark.g_next (x:RMark):x.enc[1]? = some (.int .i64 x.next):=rfl
theorem RMark.g_done (x:RMark):x.enc[2]? = some (.bool x.done):=rfl
theorem RMark.s_done (x:RMark) (y:Bool):x.enc.set 2 (.bool y) = { x with done:=y }.enc:=(congrArg (List.cons _) (congrArg (List.cons _) rfl))
theorem RMark.g_regs (x:RMark):x.enc[3]? = some (x.regs.v):=rfl
theorem RMark.s_regs (x:RMark) (y:SV):x.enc.set 3 (y.v) = { x with regs:=y }.enc:=(congrArg (List.cons _) (congrArg (List.cons _) (congrArg (List.cons _) rfl)))
theorem RMark.g_slots (x:RMark):x.enc[4]? = some (x.slots.v):=rfl
theorem RMark.s_slots (x:RMark) (y:SV):x.enc.set 4 (y.v) = { x with slots:=y }.enc:=(congrArg (List.cons _) (congrArg (List.cons _) (congrArg (List.cons _) (congrArg (List.cons _) rfl))))
theorem RMark.g_pieces (x:RMark):x.enc[5]? = some (x.pieces.v):=rfl
theorem RMark.s_pieces (x:RMark) (y:SV):x.enc.set 5 (y.v) = { x with pieces:=y }.enc:=(congrArg (List.cons _) (congrArg (List.cons _) (congrArg (List.cons _) (congrArg (List.cons _) (congrArg (List.cons _) rfl)))))
theorem RMark.g_sent (x:RMark):x.enc[6]? = some (x.sent.v):=rfl
theorem RMark.s_sent (x:RMark) (y:SV):x.enc.set 6 (y.v) = { x with sent:=y }.enc:=(congrArg (List.cons _) (congrArg (List.cons _) (congrArg (List.cons _) (congrArg (List.cons _) (congrArg (List.cons _) (congrArg (List.cons _) rfl))))))
structure RInput where
  ctx:SV
  tables:SV
deriving DecidableEq
def RInput.enc (x:RInput):List Value:=[x.ctx.v,x.tables.v]
theorem RInput.len (x:RInput):x.enc.length = 2:=rfl
theorem RInput.one (x:RInput):∀ u ∈ x.enc,u.oneCell' = true:=(List.forall_mem_cons.2 ⟨rfl,(List.forall_mem_cons.2 ⟨rfl,(fun _ h=>absurd h List.not_mem_nil)⟩)⟩)
instance:Enc RInput:=⟨RInput.enc,2,RInput.len,RInput.one,by decide⟩
theorem RInput.g_ctx (x:RInput):x.enc[0]? = some (x.ctx.v):=rfl
theorem RInput.s_ctx (x:RInput) (y:SV):x.enc.set 0 (y.v) = { x with ctx:=y }.enc:=rfl
theorem RInput.g_tables (x:RInput):x.enc[1]? = some (x.tables.v):=rfl
theorem RInput.s_tables (x:RInput) (y:SV):x.enc.set 1 (y.v) = { x with tables:=y }.enc:=(congrArg (List.cons _) rfl)
structure RRecord where
  in_:RInput
  marks:SV
  end_:Int
deriving DecidableEq
def RRecord.enc (x:RRecord):List Value:=RInput.enc x.in_ ++ (x.marks.v :: [.int .i64 x.end_])
theorem RRecord.len (x:RRecord):x.enc.length = 4:=by
  have h0:(RInput.enc x.in_).length = 2:=RInput.len x.in_
  simp [RRecord.enc,h0]
theorem RRecord.one (x:RRecord):∀ u ∈ x.enc,u.oneCell' = true:=(List.forall_mem_append.2 ⟨RInput.one x.in_,(List.forall_mem_cons.2 ⟨rfl,(List.forall_mem_cons.2 ⟨rfl,(fun _ h=>absurd h List.not_mem_nil)⟩)⟩)⟩)
instance:Enc RRecord:=⟨RRecord.enc,4,RRecord.len,RRecord.one,by decide⟩
theorem RRecord.c_in_ (x:RRecord):cut x.enc 0 2 = x.in_.enc:=(fR (n:=2) (RInput.len x.in_))
theorem RRecord.p_in_ (x:RRecord) (y:RInput):put x.enc 0 (y.enc) = { x with in_:=y }.enc:=(fJ (Eq.trans (b:=2) (RInput.len x.in_) (Eq.symm (RInput.len y))))
theorem RRecord.g_marks (x:RRecord):x.enc[2]? = some (x.marks.v):=(cW (m:=2) (o:=0) (RInput.len x.in_) rfl)
theorem RRecord.s_marks (x:RRecord) (y:SV):x.enc.set 2 (y.v) = { x with marks:=y }.enc:=(cX (m:=2) (o:=0) (RInput.len x.in_) rfl)
theorem RRecord.g_end_ (x:RRecord):x.enc[3]? = some (.int .i64 x.end_):=(cW (m:=2) (o:=1) (RInput.len x.in_) rfl)
theorem RRecord.s_end_ (x:RRecord) (y:Int):x.enc.set 3 (.int .i64 y) = { x with end_:=y }.enc:=(cX (m:=2) (o:=1) (RInput.len x.in_) (congrArg (List.cons _) rfl))
structure LTbl where
  rows:Int
  wide:Int
deriving DecidableEq
def LTbl.enc (x:LTbl):List Value:=[.int .i64 x.rows,.int .i64 x.wide]
theorem LTbl.len (x:LTbl):x.enc.length = 2:=rfl
theorem LTbl.one (x:LTbl):∀ u ∈ x.enc,u.oneCell' = true:=(List.forall_mem_cons.2 ⟨rfl,(List.forall_mem_cons.2 ⟨rfl,(fun _ h=>absurd h List.not_mem_nil)⟩)⟩)
instance:Enc LTbl:=⟨LTbl.enc,2,LTbl.len,LTbl.one,by decide⟩
structure LIns where
  op:Int
  narrow:Bool
  reg:Bool
  size:Int
  dst:Int
  src:Int
  off:Int
  imm:Int
deriving DecidableEq
def LIns.enc (x:LIns):List Value:=[.int .i64 x.op,.bool x.narrow,.bool x.reg,.int .i64 x.size,.int .i64 x.dst,.int .i64 x.src,.int .i64 x.off,.int .i64 x.imm]
theorem LIns.len (x:LIns):x.enc.length = 8:=rfl
theorem LIns.one (x:LIns):∀ u ∈ x.enc,u.oneCell' = true:=(List.forall_mem_cons.2 ⟨rfl,(List.forall_mem_cons.2 ⟨rfl,(List.forall_mem_cons.2 ⟨rfl,(List.forall_mem_cons.2 ⟨rfl,(List.forall_mem_cons.2 ⟨rfl,(List.forall_mem_cons.2 ⟨rfl,(List.forall_mem_cons.2 ⟨rfl,(List.forall_mem_cons.2 ⟨rfl,(fun _ h=>absurd h List.not_mem_nil)⟩)⟩)⟩)⟩)⟩)⟩)⟩)⟩)
instance:Enc LIns:=⟨LIns.enc,8,LIns.len,LIns.one,by decide⟩
theorem LIns.g_reg (x:LIns):x.enc[2]? = some (.bool x.reg):=rfl
theorem LIns.s_reg (x:LIns) (y:Bool):x.enc.set 2 (.bool y) = { x with reg:=y }.enc:=(congrArg (List.cons _) (congrArg (List.cons _) rfl))
structure RProgram where
  lo:Int
  hi:Int
  data:SV
  tables:SV
  code:SV
deriving DecidableEq
def RProgram.enc (x:RProgram):List Value:=[.int .i64 x.lo,.int .i64 x.hi,x.data.v,x.tables.v,x.code.v]
theorem RProgram.len (x:RProgram):x.enc.length = 5:=rfl
theorem RProgram.one (x:RProgram):∀ u ∈ x.enc,u.oneCell' = true:=(List.forall_mem_cons.2 ⟨rfl,(List.forall_mem_cons.2 ⟨rfl,(List.forall_mem_cons.2 ⟨rfl,(List.forall_mem_cons.2 ⟨rfl,(List.forall_mem_cons.2 ⟨rfl,(fun _ h=>absurd h List.not_mem_nil)⟩)⟩)⟩)⟩)⟩)
instance:Enc RProgram:=⟨RProgram.enc,5,RProgram.len,RProgram.one,by decide⟩
theorem RProgram.s_data (x:RProgram) (y:SV):x.enc.set 2 (y.v) = { x with data:=y }.enc:=(congrArg (List.cons _) (congrArg (List.cons _) rfl))
theorem RProgram.g_tables (x:RProgram):x.enc[3]? = some (x.tables.v):=rfl
theorem RProgram.s_tables (x:RProgram) (y:SV):x.enc.set 3 (y.v) = { x with tables:=y }.enc:=(congrArg (List.cons _) (congrArg (List.cons _) (congrArg (List.cons _) rfl)))
theorem RProgram.s_code (x:RProgram) (y:SV):x.enc.set 4 (y.v) = { x with code:=y }.enc:=(congrArg (List.cons _) (congrArg (List.cons _) (congrArg (List.cons _) (congrArg (List.cons _) rfl))))
structure RState where
  regs:Vec LVal 11
  stack:Vec LSlot 32
  ctx:SV
  tables:SV
  sent:SV
  at_:Int
  steps:Int
  done:Bool
deriving DecidableEq
def RState.enc (x:RState):List Value:=encs x.regs.l ++ (encs x.stack.l ++ (x.ctx.v :: x.tables.v :: x.sent.v :: .int .i64 x.at_ :: .int .i64 x.steps :: [.bool x.done]))
theorem RState.len (x:RState):x.enc.length = 466:=by
  have h0:(encs x.regs.l).length = 44:=bS x.regs
  have h1:(encs x.stack.l).length = 416:=bS x.stack
  simp [RState.enc,h0,h1]
theorem RState.one (x:RState):∀ u ∈ x.enc,u.oneCell' = true:=(List.forall_mem_append.2 ⟨gG x.regs.l,(List.forall_mem_append.2 ⟨gG x.stack.l,(List.forall_mem_cons.2 ⟨rfl,(List.forall_mem_cons.2 ⟨rfl,(List.forall_mem_cons.2 ⟨rfl,(List.forall_mem_cons.2 ⟨rfl,(List.forall_mem_cons.2 ⟨rfl,(List.forall_mem_cons.2 ⟨rfl,(fun _ h=>absurd h List.not_mem_nil)⟩)⟩)⟩)⟩)⟩)⟩)⟩)⟩)
instance:Enc RState:=⟨RState.enc,466,RState.len,RState.one,by decide⟩
theorem RState.c_regs (x:RState):cut x.enc 0 44 = encs x.regs.l:=(fR (n:=44) (bS x.regs))
theorem RState.ci_regs (x:RState) (i:Nat) (y:LVal) (h:x.regs.l[i]? = some y):cut x.enc (0 + i * 4) 4 = y.enc:=(pN (kV h) (jL h))
theorem RState.pi_regs (x:RState) (i:Nat) (y:LVal) (h:i < 11):put x.enc (0 + i * 4) (y.enc) = { x with regs:=x.regs.set i y }.enc:=(mW (kW (v:=x.regs) h) (Enc.len y) (jM (v:=x.regs) h))
theorem RState.c_stack (x:RState):cut x.enc 44 416 = encs x.stack.l:=(iQ (m:=44) (o:=0) (bS x.regs) (fR (n:=416) (bS x.stack)))
theorem RState.ci_stack (x:RState) (i:Nat) (y:LSlot) (h:x.stack.l[i]? = some y):cut x.enc (44 + i * 13) 13 = y.enc:=(kN (m:=44) (o:=0) (e:=i * 13) (bS x.regs) (pN (kV h) (jL h)))
theorem RState.pi_stack (x:RState) (i:Nat) (y:LSlot) (h:i < 32):put x.enc (44 + i * 13) (y.enc) = { x with stack:=x.stack.set i y }.enc:=(kR (m:=44) (o:=0) (e:=i * 13) (bS x.regs) (mW (kW (v:=x.stack) h) (Enc.len y) (jM (v:=x.stack) h)))
theorem RState.g_ctx (x:RState):x.enc[460]? = some (x.ctx.v):=(cW (m:=44) (o:=416) (bS x.regs) (cW (m:=416) (o:=0) (bS x.stack) rfl))
theorem RState.s_ctx (x:RState) (y:SV):x.enc.set 460 (y.v) = { x with ctx:=y }.enc:=(cX (m:=44) (o:=416) (bS x.regs) (cX (m:=416) (o:=0) (bS x.stack) rfl))
theorem RState.g_tables (x:RState):x.enc[461]? = some (x.tables.v):=(cW (m:=44) (o:=417) (bS x.regs) (cW (m:=416) (o:=1) (bS x.stack) rfl))
theorem RState.s_tables (x:RState) (y:SV):x.enc.set 461 (y.v) = { x with tables:=y }.enc:=(cX (m:=44) (o:=417) (bS x.regs) (cX (m:=416) (o:=1) (bS x.stack) (congrArg (List.cons _) rfl)))
theorem RState.g_sent (x:RState):x.enc[462]? = some (x.sent.v):=(cW (m:=44) (o:=418) (bS x.regs) (cW (m:=416) (o:=2) (bS x.stack) rfl))
theorem RState.s_sent (x:RState) (y:SV):x.enc.set 462 (y.v) = { x with sent:=y }.enc:=(cX (m:=44) (o:=418) (bS x.regs) (cX (m:=416) (o:=2) (bS x.stack) (congrArg (List.cons _) (congrArg (List.cons _) rfl))))
theorem RState.g_at_ (x:RState):x.enc[463]? = some (.int .i64 x.at_):=(cW (m:=44) (o:=419) (bS x.regs) (cW (m:=416) (o:=3) (bS x.stack) rfl))
theorem RState.s_at_ (x:RState) (y:Int):x.enc.set 463 (.int .i64 y) = { x with at_:=y }.enc:=(cX (m:=44) (o:=419) (bS x.regs) (cX (m:=416) (o:=3) (bS x.stack) (congrArg (List.cons _) (congrArg (List.cons _) (congrArg (List.cons _) rfl)))))
theorem RState.g_steps (x:RState):x.enc[464]? = some (.int .i64 x.steps):=(cW (m:=44) (o:=420) (bS x.regs) (cW (m:=416) (o:=4) (bS x.stack) rfl))
theorem RState.s_steps (x:RState) (y:Int):x.enc.set 464 (.int .i64 y) = { x with steps:=y }.enc:=(cX (m:=44) (o:=420) (bS x.regs) (cX (m:=416) (o:=4) (bS x.stack) (congrArg (List.cons _) (congrArg (List.cons _) (congrArg (List.cons _) (congrArg (List.cons _) rfl))))))
theorem RState.g_done (x:RState):x.enc[465]? = some (.bool x.done):=(cW (m:=44) (o:=421) (bS x.regs) (cW (m:=416) (o:=5) (bS x.stack) rfl))
theorem RState.s_done (x:RState) (y:Bool):x.enc.set 465 (.bool y) = { x with done:=y }.enc:=(cX (m:=44) (o:=421) (bS x.regs) (cX (m:=416) (o:=5) (bS x.stack) (congrArg (List.cons _) (congrArg (List.cons _) (congrArg (List.cons _) (congrArg (List.cons _) (congrArg (List.cons _) rfl)))))))
structure ROutput where
  r0:Int
  ctx:SV
  tables:SV
  sent:SV
deriving DecidableEq
def ROutput.enc (x:ROutput):List Value:=[.int .i64 x.r0,x.ctx.v,x.tables.v,x.sent.v]
theorem ROutput.len (x:ROutput):x.enc.length = 4:=rfl
theorem ROutput.one (x:ROutput):∀ u ∈ x.enc,u.oneCell' = true:=(List.forall_mem_cons.2 ⟨rfl,(List.forall_mem_cons.2 ⟨rfl,(List.forall_mem_cons.2 ⟨rfl,(List.forall_mem_cons.2 ⟨rfl,(fun _ h=>absurd h List.not_mem_nil)⟩)⟩)⟩)⟩)
instance:Enc ROutput:=⟨ROutput.enc,4,ROutput.len,ROutput.one,by decide⟩
theorem ROutput.g_ctx (x:ROutput):x.enc[1]? = some (x.ctx.v):=rfl
theorem ROutput.s_ctx (x:ROutput) (y:SV):x.enc.set 1 (y.v) = { x with ctx:=y }.enc:=(congrArg (List.cons _) rfl)
theorem ROutput.g_tables (x:ROutput):x.enc[2]? = some (x.tables.v):=rfl
theorem ROutput.s_tables (x:ROutput) (y:SV):x.enc.set 2 (y.v) = { x with tables:=y }.enc:=(congrArg (List.cons _) (congrArg (List.cons _) rfl))
theorem ROutput.g_sent (x:ROutput):x.enc[3]? = some (x.sent.v):=rfl
theorem ROutput.s_sent (x:ROutput) (y:SV):x.enc.set 3 (y.v) = { x with sent:=y }.enc:=(congrArg (List.cons _) (congrArg (List.cons _) (congrArg (List.cons _) rfl)))
structure RWriter where
  b:SV
deriving DecidableEq
def RWriter.enc (x:RWriter):List Value:=[x.b.v]
theorem RWriter.len (x:RWriter):x.enc.length = 1:=rfl
theorem RWriter.one (x:RWriter):∀ u ∈ x.enc,u.oneCell' = true:=(List.forall_mem_cons.2 ⟨rfl,(fun _ h=>absurd h List.not_mem_nil)⟩)
instance:Enc RWriter:=⟨RWriter.enc,1,RWriter.len,RWriter.one,by decide⟩
theorem RWriter.s_b (x:RWriter) (y:SV):x.enc.set 0 (y.v) = { x with b:=y }.enc:=rfl
structure RReader where
  b:SV
  at_:Int
  place:Int
  e:Int
deriving DecidableEq
def RReader.enc (x:RReader):List Value:=[x.b.v,.int .i64 x.at_,.int .i64 x.place,.int .i64 x.e]
theorem RReader.len (x:RReader):x.enc.length = 4:=rfl
theorem RReader.one (x:RReader):∀ u ∈ x.enc,u.oneCell' = true:=(List.forall_mem_cons.2 ⟨rfl,(List.forall_mem_cons.2 ⟨rfl,(List.forall_mem_cons.2 ⟨rfl,(List.forall_mem_cons.2 ⟨rfl,(fun _ h=>absurd h List.not_mem_nil)⟩)⟩)⟩)⟩)
instance:Enc RReader:=⟨RReader.enc,4,RReader.len,RReader.one,by decide⟩
theorem RReader.s_b (x:RReader) (y:SV):x.enc.set 0 (y.v) = { x with b:=y }.enc:=rfl
theorem RReader.g_at_ (x:RReader):x.enc[1]? = some (.int .i64 x.at_):=rfl
theorem RReader.s_at_ (x:RReader) (y:Int):x.enc.set 1 (.int .i64 y) = { x with at_:=y }.enc:=(congrArg (List.cons _) rfl)
structure RCursor where
  b:SV
  at_:Int
  place:Int
  e:Int
deriving DecidableEq
def RCursor.enc (x:RCursor):List Value:=[x.b.v,.int .i64 x.at_,.int .i64 x.place,.int .i64 x.e]
theorem RCursor.len (x:RCursor):x.enc.length = 4:=rfl
theorem RCursor.one (x:RCursor):∀ u ∈ x.enc,u.oneCell' = true:=(List.forall_mem_cons.2 ⟨rfl,(List.forall_mem_cons.2 ⟨rfl,(List.forall_mem_cons.2 ⟨rfl,(List.forall_mem_cons.2 ⟨rfl,(fun _ h=>absurd h List.not_mem_nil)⟩)⟩)⟩)⟩)
instance:Enc RCursor:=⟨RCursor.enc,4,RCursor.len,RCursor.one,by decide⟩
theorem RCursor.s_b (x:RCursor) (y:SV):x.enc.set 0 (y.v) = { x with b:=y }.enc:=rfl
theorem RCursor.g_at_ (x:RCursor):x.enc[1]? = some (.int .i64 x.at_):=rfl
theorem RCursor.s_at_ (x:RCursor) (y:Int):x.enc.set 1 (.int .i64 y) = { x with at_:=y }.enc:=(congrArg (List.cons _) rfl)
structure RMemory where
  stack:Vec LSlot 32
  ctx:SV
  tables:SV
  data:SV
  sizes:SV
deriving DecidableEq
def RMemory.enc (x:RMemory):List Value:=encs x.stack.l ++ (x.ctx.v :: x.tables.v :: x.data.v :: [x.sizes.v])
theorem RMemory.len (x:RMemory):x.enc.length = 420:=by
  have h0:(encs x.stack.l).length = 416:=bS x.stack
  simp [RMemory.enc,h0]
theorem RMemory.one (x:RMemory):∀ u ∈ x.enc,u.oneCell' = true:=(List.forall_mem_append.2 ⟨gG x.stack.l,(List.forall_mem_cons.2 ⟨rfl,(List.forall_mem_cons.2 ⟨rfl,(List.forall_mem_cons.2 ⟨rfl,(List.forall_mem_cons.2 ⟨rfl,(fun _ h=>absurd h List.not_mem_nil)⟩)⟩)⟩)⟩)⟩)
instance:Enc RMemory:=⟨RMemory.enc,420,RMemory.len,RMemory.one,by decide⟩
theorem RMemory.c_stack (x:RMemory):cut x.enc 0 416 = encs x.stack.l:=(fR (n:=416) (bS x.stack))
theorem RMemory.ci_stack (x:RMemory) (i:Nat) (y:LSlot) (h:x.stack.l[i]? = some y):cut x.enc (0 + i * 13) 13 = y.enc:=(pN (kV h) (jL h))
theorem RMemory.pi_stack (x:RMemory) (i:Nat) (y:LSlot) (h:i < 32):put x.enc (0 + i * 13) (y.enc) = { x with stack:=x.stack.set i y }.enc:=(mW (kW (v:=x.stack) h) (Enc.len y) (jM (v:=x.stack) h))
theorem RMemory.g_ctx (x:RMemory):x.enc[416]? = some (x.ctx.v):=(cW (m:=416) (o:=0) (bS x.stack) rfl)
theorem RMemory.s_ctx (x:RMemory) (y:SV):x.enc.set 416 (y.v) = { x with ctx:=y }.enc:=(cX (m:=416) (o:=0) (bS x.stack) rfl)
theorem RMemory.g_tables (x:RMemory):x.enc[417]? = some (x.tables.v):=(cW (m:=416) (o:=1) (bS x.stack) rfl)
theorem RMemory.s_tables (x:RMemory) (y:SV):x.enc.set 417 (y.v) = { x with tables:=y }.enc:=(cX (m:=416) (o:=1) (bS x.stack) (congrArg (List.cons _) rfl))
theorem RMemory.s_data (x:RMemory) (y:SV):x.enc.set 418 (y.v) = { x with data:=y }.enc:=(cX (m:=416) (o:=2) (bS x.stack) (congrArg (List.cons _) (congrArg (List.cons _) rfl)))
theorem RMemory.s_sizes (x:RMemory) (y:SV):x.enc.set 419 (y.v) = { x with sizes:=y }.enc:=(cX (m:=416) (o:=3) (bS x.stack) (congrArg (List.cons _) (congrArg (List.cons _) (congrArg (List.cons _) rfl))))
structure RMachine where
  memory:RMemory
  code:SV
  units:SV
  begin_:Option Nat
  regs:Vec LVal 11
  sent:SV
  at_:Int
  steps:Int
  done:Bool
deriving DecidableEq
def RMachine.enc (x:RMachine):List Value:=RMemory.enc x.memory ++ (x.code.v :: x.units.v :: .map x.begin_ :: encs x.regs.l ++ (x.sent.v :: .int .i64 x.at_ :: .int .i64 x.steps :: [.bool x.done]))
theorem RMachine.len (x:RMachine):x.enc.length = 471:=by
  have h0:(RMemory.enc x.memory).length = 420:=RMemory.len x.memory
  have h1:(encs x.regs.l).length = 44:=bS x.regs
  simp [RMachine.enc,h0,h1]
theorem RMachine.one (x:RMachine):∀ u ∈ x.enc,u.oneCell' = true:=(List.forall_mem_append.2 ⟨RMemory.one x.memory,(List.forall_mem_cons.2 ⟨rfl,(List.forall_mem_cons.2 ⟨rfl,(List.forall_mem_cons.2 ⟨rfl,(List.forall_mem_append.2 ⟨gG x.regs.l,(List.forall_mem_cons.2 ⟨rfl,(List.forall_mem_cons.2 ⟨rfl,(List.forall_mem_cons.2 ⟨rfl,(List.forall_mem_cons.2 ⟨rfl,(fun _ h=>absurd h List.not_mem_nil)⟩)⟩)⟩)⟩)⟩)⟩)⟩)⟩)⟩)
instance:Enc RMachine:=⟨RMachine.enc,471,RMachine.len,RMachine.one,by decide⟩
theorem RMachine.s_code (x:RMachine) (y:SV):x.enc.set 420 (y.v) = { x with code:=y }.enc:=(cX (m:=420) (o:=0) (RMemory.len x.memory) rfl)
theorem RMachine.s_units (x:RMachine) (y:SV):x.enc.set 421 (y.v) = { x with units:=y }.enc:=(cX (m:=420) (o:=1) (RMemory.len x.memory) (congrArg (List.cons _) rfl))
theorem RMachine.c_regs (x:RMachine):cut x.enc 423 44 = encs x.regs.l:=(iQ (m:=420) (o:=3) (RMemory.len x.memory) (gQ (o:=2) (gQ (o:=1) (gQ (o:=0) (fR (n:=44) (bS x.regs))))))
theorem RMachine.ci_regs (x:RMachine) (i:Nat) (y:LVal) (h:x.regs.l[i]? = some y):cut x.enc (423 + i * 4) 4 = y.enc:=(kN (m:=420) (o:=3) (e:=i * 4) (RMemory.len x.memory) (lU (o:=2) (e:=i * 4) (lU (o:=1) (e:=i * 4) (lU (o:=0) (e:=i * 4) (pN (kV h) (jL h))))))
theorem RMachine.pi_regs (x:RMachine) (i:Nat) (y:LVal) (h:i < 11):put x.enc (423 + i * 4) (y.enc) = { x with regs:=x.regs.set i y }.enc:=(kR (m:=420) (o:=3) (e:=i * 4) (RMemory.len x.memory) (mB (o:=2) (e:=i * 4) (mB (o:=1) (e:=i * 4) (mB (o:=0) (e:=i * 4) (mW (kW (v:=x.regs) h) (Enc.len y) (jM (v:=x.regs) h))))))
theorem RMachine.g_sent (x:RMachine):x.enc[467]? = some (x.sent.v):=(cW (m:=420) (o:=47) (RMemory.len x.memory) (cW (m:=44) (o:=0) (bS x.regs) rfl))
theorem RMachine.s_sent (x:RMachine) (y:SV):x.enc.set 467 (y.v) = { x with sent:=y }.enc:=(cX (m:=420) (o:=47) (RMemory.len x.memory) (congrArg (List.cons _) (congrArg (List.cons _) (congrArg (List.cons _) (cX (m:=44) (o:=0) (bS x.regs) rfl)))))
theorem RMachine.g_at_ (x:RMachine):x.enc[468]? = some (.int .i64 x.at_):=(cW (m:=420) (o:=48) (RMemory.len x.memory) (cW (m:=44) (o:=1) (bS x.regs) rfl))
theorem RMachine.s_at_ (x:RMachine) (y:Int):x.enc.set 468 (.int .i64 y) = { x with at_:=y }.enc:=(cX (m:=420) (o:=48) (RMemory.len x.memory) (congrArg (List.cons _) (congrArg (List.cons _) (congrArg (List.cons _) (cX (m:=44) (o:=1) (bS x.regs) (congrArg (List.cons _) rfl))))))
theorem RMachine.g_steps (x:RMachine):x.enc[469]? = some (.int .i64 x.steps):=(cW (m:=420) (o:=49) (RMemory.len x.memory) (cW (m:=44) (o:=2) (bS x.regs) rfl))
theorem RMachine.s_steps (x:RMachine) (y:Int):x.enc.set 469 (.int .i64 y) = { x with steps:=y }.enc:=(cX (m:=420) (o:=49) (RMemory.len x.memory) (congrArg (List.cons _) (congrArg (List.cons _) (congrArg (List.cons _) (cX (m:=44) (o:=2) (bS x.regs) (congrArg (List.cons _) (congrArg (List.cons _) rfl)))))))
theorem RMachine.g_done (x:RMachine):x.enc[470]? = some (.bool x.done):=(cW (m:=420) (o:=50) (RMemory.len x.memory) (cW (m:=44) (o:=3) (bS x.regs) rfl))
theorem RMachine.s_done (x:RMachine) (y:Bool):x.enc.set 470 (.bool y) = { x with done:=y }.enc:=(cX (m:=420) (o:=50) (RMemory.len x.memory) (congrArg (List.cons _) (congrArg (List.cons _) (congrArg (List.cons _) (cX (m:=44) (o:=3) (bS x.regs) (congrArg (List.cons _) (congrArg (List.cons _) (congrArg (List.cons _) rfl))))))))
structure LCl where
  written:Bool
  byte:UInt8
  ptr:Int
  pos:Int
deriving DecidableEq
def LCl.enc (x:LCl):List Value:=[.bool x.written,.int .u8 (x.byte.toNat:Int),.int .i64 x.ptr,.int .i64 x.pos]
theorem LCl.len (x:LCl):x.enc.length = 4:=rfl
theorem LCl.one (x:LCl):∀ u ∈ x.enc,u.oneCell' = true:=(List.forall_mem_cons.2 ⟨rfl,(List.forall_mem_cons.2 ⟨rfl,(List.forall_mem_cons.2 ⟨rfl,(List.forall_mem_cons.2 ⟨rfl,(fun _ h=>absurd h List.not_mem_nil)⟩)⟩)⟩)⟩)
instance:Enc LCl:=⟨LCl.enc,4,LCl.len,LCl.one,by decide⟩
structure RM where
  p:RProgram
  units:SV
  regs:Vec LVal 11
  cells:Vec LCl 256
  ptrs:SV
  ctx:SV
  tables:SV
  sent:SV
  at_:Int
  steps:Int
  done:Bool
deriving DecidableEq
def RM.enc (x:RM):List Value:=RProgram.enc x.p ++ (x.units.v :: encs x.regs.l ++ (encs x.cells.l ++ (x.ptrs.v :: x.ctx.v :: x.tables.v :: x.sent.v :: .int .i64 x.at_ :: .int .i64 x.steps :: [.bool x.done])))
theorem RM.len (x:RM):x.enc.length = 1081:=by
  have h0:(RProgram.enc x.p).length = 5:=RProgram.len x.p
  have h1:(encs x.regs.l).length = 44:=bS x.regs
  have h2:(encs x.cells.l).length = 1024:=bS x.cells
  simp [RM.enc,h0,h1,h2]
theorem RM.one (x:RM):∀ u ∈ x.enc,u.oneCell' = true:=(List.forall_mem_append.2 ⟨RProgram.one x.p,(List.forall_mem_cons.2 ⟨rfl,(List.forall_mem_append.2 ⟨gG x.regs.l,(List.forall_mem_append.2 ⟨gG x.cells.l,(List.forall_mem_cons.2 ⟨rfl,(List.forall_mem_cons.2 ⟨rfl,(List.forall_mem_cons.2 ⟨rfl,(List.forall_mem_cons.2 ⟨rfl,(List.forall_mem_cons.2 ⟨rfl,(List.forall_mem_cons.2 ⟨rfl,(List.forall_mem_cons.2 ⟨rfl,(fun _ h=>absurd h List.not_mem_nil)⟩)⟩)⟩)⟩)⟩)⟩)⟩)⟩)⟩)⟩)⟩)
instance:Enc RM:=⟨RM.enc,1081,RM.len,RM.one,by decide⟩
theorem RM.s_units (x:RM) (y:SV):x.enc.set 5 (y.v) = { x with units:=y }.enc:=(cX (m:=5) (o:=0) (RProgram.len x.p) rfl)
theorem RM.c_regs (x:RM):cut x.enc 6 44 = encs x.regs.l:=(iQ (m:=5) (o:=1) (RProgram.len x.p) (gQ (o:=0) (fR (n:=44) (bS x.regs))))
theorem RM.ci_regs (x:RM) (i:Nat) (y:LVal) (h:x.regs.l[i]? = some y):cut x.enc (6 + i * 4) 4 = y.enc:=(kN (m:=5) (o:=1) (e:=i * 4) (RProgram.len x.p) (lU (o:=0) (e:=i * 4) (pN (kV h) (jL h))))
theorem RM.pi_regs (x:RM) (i:Nat) (y:LVal) (h:i < 11):put x.enc (6 + i * 4) (y.enc) = { x with regs:=x.regs.set i y }.enc:=(kR (m:=5) (o:=1) (e:=i * 4) (RProgram.len x.p) (mB (o:=0) (e:=i * 4) (mW (kW (v:=x.regs) h) (Enc.len y) (jM (v:=x.regs) h))))
theorem RM.s_ptrs (x:RM) (y:SV):x.enc.set 1074 (y.v) = { x with ptrs:=y }.enc:=(cX (m:=5) (o:=1069) (RProgram.len x.p) (congrArg (List.cons _) (cX (m:=44) (o:=1024) (bS x.regs) (cX (m:=1024) (o:=0) (bS x.cells) rfl))))
theorem RM.g_ctx (x:RM):x.enc[1075]? = some (x.ctx.v):=(cW (m:=5) (o:=1070) (RProgram.len x.p) (cW (m:=44) (o:=1025) (bS x.regs) (cW (m:=1024) (o:=1) (bS x.cells) rfl)))
theorem RM.s_ctx (x:RM) (y:SV):x.enc.set 1075 (y.v) = { x with ctx:=y }.enc:=(cX (m:=5) (o:=1070) (RProgram.len x.p) (congrArg (List.cons _) (cX (m:=44) (o:=1025) (bS x.regs) (cX (m:=1024) (o:=1) (bS x.cells) (congrArg (List.cons _) rfl)))))
theorem RM.g_tables (x:RM):x.enc[1076]? = some (x.tables.v):=(cW (m:=5) (o:=1071) (RProgram.len x.p) (cW (m:=44) (o:=1026) (bS x.regs) (cW (m:=1024) (o:=2) (bS x.cells) rfl)))
theorem RM.s_tables (x:RM) (y:SV):x.enc.set 1076 (y.v) = { x with tables:=y }.enc:=(cX (m:=5) (o:=1071) (RProgram.len x.p) (congrArg (List.cons _) (cX (m:=44) (o:=1026) (bS x.regs) (cX (m:=1024) (o:=2) (bS x.cells) (congrArg (List.cons _) (congrArg (List.cons _) rfl))))))
theorem RM.g_sent (x:RM):x.enc[1077]? = some (x.sent.v):=(cW (m:=5) (o:=1072) (RProgram.len x.p) (cW (m:=44) (o:=1027) (bS x.regs) (cW (m:=1024) (o:=3) (bS x.cells) rfl)))
theorem RM.s_sent (x:RM) (y:SV):x.enc.set 1077 (y.v) = { x with sent:=y }.enc:=(cX (m:=5) (o:=1072) (RProgram.len x.p) (congrArg (List.cons _) (cX (m:=44) (o:=1027) (bS x.regs) (cX (m:=1024) (o:=3) (bS x.cells) (congrArg (List.cons _) (congrArg (List.cons _) (congrArg (List.cons _) rfl)))))))
theorem RM.g_at_ (x:RM):x.enc[1078]? = some (.int .i64 x.at_):=(cW (m:=5) (o:=1073) (RProgram.len x.p) (cW (m:=44) (o:=1028) (bS x.regs) (cW (m:=1024) (o:=4) (bS x.cells) rfl)))
theorem RM.s_at_ (x:RM) (y:Int):x.enc.set 1078 (.int .i64 y) = { x with at_:=y }.enc:=(cX (m:=5) (o:=1073) (RProgram.len x.p) (congrArg (List.cons _) (cX (m:=44) (o:=1028) (bS x.regs) (cX (m:=1024) (o:=4) (bS x.cells) (congrArg (List.cons _) (congrArg (List.cons _) (congrArg (List.cons _) (congrArg (List.cons _) rfl))))))))
theorem RM.g_steps (x:RM):x.enc[1079]? = some (.int .i64 x.steps):=(cW (m:=5) (o:=1074) (RProgram.len x.p) (cW (m:=44) (o:=1029) (bS x.regs) (cW (m:=1024) (o:=5) (bS x.cells) rfl)))
theorem RM.s_steps (x:RM) (y:Int):x.enc.set 1079 (.int .i64 y) = { x with steps:=y }.enc:=(cX (m:=5) (o:=1074) (RProgram.len x.p) (congrArg (List.cons _) (cX (m:=44) (o:=1029) (bS x.regs) (cX (m:=1024) (o:=5) (bS x.cells) (congrArg (List.cons _) (congrArg (List.cons _) (congrArg (List.cons _) (congrArg (List.cons _) (congrArg (List.cons _) rfl)))))))))
theorem RM.g_done (x:RM):x.enc[1080]? = some (.bool x.done):=(cW (m:=5) (o:=1075) (RProgram.len x.p) (cW (m:=44) (o:=1030) (bS x.regs) (cW (m:=1024) (o:=6) (bS x.cells) rfl)))
theorem RM.s_done (x:RM) (y:Bool):x.enc.set 1080 (.bool y) = { x with done:=y }.enc:=(cX (m:=5) (o:=1075) (RProgram.len x.p) (congrArg (List.cons _) (cX (m:=44) (o:=1030) (bS x.regs) (cX (m:=1024) (o:=6) (bS x.cells) (congrArg (List.cons _) (congrArg (List.cons _) (congrArg (List.cons _) (congrArg (List.cons _) (congrArg (List.cons _) (congrArg (List.cons _) rfl))))))))))
structure LRw where
  code:Int
  op:Int
  size:Int
  narrow:Bool
  reg:Bool
  dst:Int
  src:Int
  off:Int
  imm:Int
  second:Int
  writes:Bool
deriving DecidableEq
def LRw.enc (x:LRw):List Value:=[.int .i64 x.code,.int .i64 x.op,.int .i64 x.size,.bool x.narrow,.bool x.reg,.int .i64 x.dst,.int .i64 x.src,.int .i64 x.off,.int .i64 x.imm,.int .i64 x.second,.bool x.writes]
theorem LRw.len (x:LRw):x.enc.length = 11:=rfl
theorem LRw.one (x:LRw):∀ u ∈ x.enc,u.oneCell' = true:=(List.forall_mem_cons.2 ⟨rfl,(List.forall_mem_cons.2 ⟨rfl,(List.forall_mem_cons.2 ⟨rfl,(List.forall_mem_cons.2 ⟨rfl,(List.forall_mem_cons.2 ⟨rfl,(List.forall_mem_cons.2 ⟨rfl,(List.forall_mem_cons.2 ⟨rfl,(List.forall_mem_cons.2 ⟨rfl,(List.forall_mem_cons.2 ⟨rfl,(List.forall_mem_cons.2 ⟨rfl,(List.forall_mem_cons.2 ⟨rfl,(fun _ h=>absurd h List.not_mem_nil)⟩)⟩)⟩)⟩)⟩)⟩)⟩)⟩)⟩)⟩)⟩)
instance:Enc LRw:=⟨LRw.enc,11,LRw.len,LRw.one,by decide⟩
theorem LRw.s_code (x:LRw) (y:Int):x.enc.set 0 (.int .i64 y) = { x with code:=y }.enc:=rfl
theorem LRw.g_reg (x:LRw):x.enc[4]? = some (.bool x.reg):=rfl
theorem LRw.s_reg (x:LRw) (y:Bool):x.enc.set 4 (.bool y) = { x with reg:=y }.enc:=(congrArg (List.cons _) (congrArg (List.cons _) (congrArg (List.cons _) (congrArg (List.cons _) rfl))))
structure LSpan where
  lo:Int
  hi:Int
  noLo:Bool
  noHi:Bool
deriving DecidableEq
def LSpan.enc (x:LSpan):List Value:=[.int .i64 x.lo,.int .i64 x.hi,.bool x.noLo,.bool x.noHi]
theorem LSpan.len (x:LSpan):x.enc.length = 4:=rfl
theorem LSpan.one (x:LSpan):∀ u ∈ x.enc,u.oneCell' = true:=(List.forall_mem_cons.2 ⟨rfl,(List.forall_mem_cons.2 ⟨rfl,(List.forall_mem_cons.2 ⟨rfl,(List.forall_mem_cons.2 ⟨rfl,(fun _ h=>absurd h List.not_mem_nil)⟩)⟩)⟩)⟩)
instance:Enc LSpan:=⟨LSpan.enc,4,LSpan.len,LSpan.one,by decide⟩
structure RSig where
  args:SV
  ret:LSpan
deriving DecidableEq
def RSig.enc (x:RSig):List Value:=x.args.v :: LSpan.enc x.ret
theorem RSig.len (x:RSig):x.enc.length = 5:=by
  have h0:(LSpan.enc x.ret).length = 4:=LSpan.len x.ret
  simp [RSig.enc,h0]
theorem RSig.one (x:RSig):∀ u ∈ x.enc,u.oneCell' = true:=(List.forall_mem_cons.2 ⟨rfl,(LSpan.one x.ret)⟩)
instance:Enc RSig:=⟨RSig.enc,5,RSig.len,RSig.one,by decide⟩
theorem RSig.s_args (x:RSig) (y:SV):x.enc.set 0 (y.v) = { x with args:=y }.enc:=rfl
theorem RSig.c_ret (x:RSig):cut x.enc 1 4 = x.ret.enc:=(gQ (o:=0) (aY (n:=4) (LSpan.len x.ret)))
structure RLender where
  room:SV
deriving DecidableEq
def RLender.enc (x:RLender):List Value:=[x.room.v]
theorem RLender.len (x:RLender):x.enc.length = 1:=rfl
theorem RLender.one (x:RLender):∀ u ∈ x.enc,u.oneCell' = true:=(List.forall_mem_cons.2 ⟨rfl,(fun _ h=>absurd h List.not_mem_nil)⟩)
instance:Enc RLender:=⟨RLender.enc,1,RLender.len,RLender.one,by decide⟩
theorem RLender.s_room (x:RLender) (y:SV):x.enc.set 0 (y.v) = { x with room:=y }.enc:=rfl
structure LOrdU where
  a:Int
  b:Int
deriving DecidableEq
def LOrdU.enc (x:LOrdU):List Value:=[.int .u64 x.a,.int .u64 x.b]
theorem LOrdU.len (x:LOrdU):x.enc.length = 2:=rfl
theorem LOrdU.one (x:LOrdU):∀ u ∈ x.enc,u.oneCell' = true:=(List.forall_mem_cons.2 ⟨rfl,(List.forall_mem_cons.2 ⟨rfl,(fun _ h=>absurd h List.not_mem_nil)⟩)⟩)
instance:Enc LOrdU:=⟨LOrdU.enc,2,LOrdU.len,LOrdU.one,by decide⟩
theorem LOrdU.s_b (x:LOrdU) (y:Int):x.enc.set 1 (.int .u64 y) = { x with b:=y }.enc:=(congrArg (List.cons _) rfl)
structure LOrdI where
  a:Int
  b:Int
deriving DecidableEq
def LOrdI.enc (x:LOrdI):List Value:=[.int .i64 x.a,.int .i64 x.b]
theorem LOrdI.len (x:LOrdI):x.enc.length = 2:=rfl
theorem LOrdI.one (x:LOrdI):∀ u ∈ x.enc,u.oneCell' = true:=(List.forall_mem_cons.2 ⟨rfl,(List.forall_mem_cons.2 ⟨rfl,(fun _ h=>absurd h List.not_mem_nil)⟩)⟩)
instance:Enc LOrdI:=⟨LOrdI.enc,2,LOrdI.len,LOrdI.one,by decide⟩
theorem LOrdI.s_b (x:LOrdI) (y:Int):x.enc.set 1 (.int .i64 y) = { x with b:=y }.enc:=(congrArg (List.cons _) rfl)
end Go.Fw
end
section
namespace Go.Fw
def EqSpec (P:Program) (t:TypeId) {X:Type} [DecidableEq X] (v:X → Value):Prop :=
  ∀ (d:Nat) (x y:X) (w:World),1 ≤ d → (Op.equalIn d t (v x) (v y)).run P w = .ok (decide (x = y)) w
theorem EqSpec.int {P:Program} {t:TypeId} {k k':IntKind} (ht:P.underlying t = some (.int k')):EqSpec P t (fun x:Int=>.int k x):=by
  intro d x y w hd
  obtain ⟨d,rfl⟩ : ∃ d',d = d' + 1:=⟨d - 1,by omega⟩
  rw [run_equalIn_int w d t k k' x y ht]; rfl
theorem EqSpec.u8 {P:Program} {t:TypeId} {k':IntKind} (ht:P.underlying t = some (.int k')):EqSpec P t (fun x:UInt8=>.int .u8 (x.toNat:Int)):=by
  intro d x y w hd
  obtain ⟨d,rfl⟩ : ∃ d',d = d' + 1:=⟨d - 1,by omega⟩
  rw [run_equalIn_int w d t .u8 k' _ _ ht]
  have:((x.toNat:Int) == (y.toNat:Int)) = decide (x = y):=by
    rw [Bool.eq_iff_iff]
    simp only [beq_iff_eq,decide_eq_true_eq]
    constructor
    · intro h; exact UInt8.toNat_inj.1 (by omega)
    · intro h; rw [h]
  rw [this]
theorem EqSpec.bool {P:Program} {t:TypeId} (ht:P.underlying t = some .bool):EqSpec P t (fun x:Bool=>.bool x):=by
  intro d x y w hd
  obtain ⟨d,rfl⟩ : ∃ d',d = d' + 1:=⟨d - 1,by omega⟩
  exact run_equalIn_bool d ht
def Op.eqElems (d:Nat) (e n:Nat) (xs ys:Array Value):List Nat → Sem Bool
  | []=>pure true
  | i :: is=>do
    let a ← part e xs (i * n)
    let b ← part e ys (i * n)
    let r ← Op.equalIn d e a b
    if (!r) = true then pure false else Op.eqElems d e n xs ys is
theorem run_equalIn_array {P:Program} (w:World) (d:Nat) {t e n len:Nat} (xs ys:Array Value) (ht:P.underlying t = some (.array len e)) (hn:∀ w,(sizeOf e).run P w = .ok n w) :
    (Op.equalIn (d + 1) t (.agg xs) (.agg ys)).run P w = (Op.eqElems d e n xs ys (List.range len)).run P w:=by
  simp only [Op.equalIn,Sem.run_bind,run_underlying ht,Result.andThen_ok,hn]
  rw [Std.Legacy.Range.forIn_eq_forIn_range']
  have hr:List.range' 0 (Std.Legacy.Range.size { start:=0,stop:=len,step:=1,step_pos:=by decide }) 1 = List.range len:=by
    simp [Std.Legacy.Range.size,List.range_eq_range']
  simp only [hr]
  generalize List.range len = is
  induction is generalizing w with
  | nil=>simp [Op.eqElems]
  | cons i is ih =>
    simp only [List.forIn_cons,Op.eqElems,Sem.run_bind]
    generalize (part e xs (i * n)).run P w = r1
    cases r1 with
    | halt x w1=>simp [Result.andThen]
    | ok a w1 =>
      simp only [Result.andThen_ok]
      generalize (part e ys (i * n)).run P w1 = r2
      cases r2 with
      | halt x w2=>simp [Result.andThen]
      | ok b w2 =>
        simp only [Result.andThen_ok]
        generalize (Op.equalIn d e a b).run P w2 = r3
        cases r3 with
        | halt x w3=>simp [Result.andThen]
        | ok r w3 =>
          cases r
          · simp
          · simpa using ih w3
theorem fL {P:Program} (w:World) {t sz off:Nat} {cs vs:List Value} (ha:∀ w,(isAgg t).run P w = .ok true w) (hs:∀ w,(sizeOf t).run P w = .ok sz w) (hc:cut cs off sz = vs) :
    (part t cs.toArray off).run P w = .ok (.agg vs.toArray) w:=by
  subst hc
  simp [part,ha,hs,cut]
theorem fM {P:Program} (w:World) {t off:Nat} {cs:List Value} {v:Value} (ha:∀ w,(isAgg t).run P w = .ok false w) (hc:cs[off]? = some v):(part t cs.toArray off).run P w = .ok v w:=by
  simp [part,ha,hc]
theorem EqSpec.vecAgg {P:Program} {t e len:Nat} {X:Type} [Enc X] [DecidableEq X] (ht:P.underlying t = some (.array len e)) (hn:∀ w,(sizeOf e).run P w = .ok (Enc.sz X) w) (ha:∀ w,(isAgg e).run P w = .ok true w)
    (he:∀ (d:Nat) (x y:X) (w:World),8 ≤ d → (Op.equalIn d e (.agg (Enc.enc x).toArray) (.agg (Enc.enc y).toArray)).run P w = .ok (decide (x = y)) w) :
    ∀ (d:Nat) (x y:Vec X len) (w:World),9 ≤ d → (Op.equalIn d t (.agg (encs x.l).toArray) (.agg (encs y.l).toArray)).run P w = .ok (decide (x = y)) w:=by
  intro d x y w hd
  obtain ⟨d,rfl⟩ : ∃ d',d = d' + 1:=⟨d - 1,by omega⟩
  rw [run_equalIn_array w d _ _ ht hn]
  have key:∀ (k s:Nat),s + k = len → (Op.eqElems d e (Enc.sz X) (encs x.l).toArray (encs y.l).toArray (List.range' s k)).run P w = .ok (decide (x.l.drop s = y.l.drop s)) w:=by
    intro k
    induction k with
    | zero =>
      intro s hs
      rw [List.drop_eq_nil_of_le (by rw [x.len]; omega),List.drop_eq_nil_of_le (by rw [y.len]; omega)]
      simp [Op.eqElems]
    | succ k ih =>
      intro s hs
      obtain ⟨a,hxa⟩:=x.get (i:=s) (by omega)
      obtain ⟨b,hyb⟩:=y.get (i:=s) (by omega)
      simp only [List.range'_succ,Op.eqElems,Sem.run_bind,fL w ha hn (iS x.l s a hxa),fL w ha hn (iS y.l s b hyb),Result.andThen_ok,he d a b w (by omega)]
      have hx:x.l.drop s = a :: x.l.drop (s + 1):=by
        obtain ⟨h1,h2⟩:=List.getElem?_eq_some_iff.1 hxa
        rw [← h2]; exact List.drop_eq_getElem_cons h1
      have hy:y.l.drop s = b :: y.l.drop (s + 1):=by
        obtain ⟨h1,h2⟩:=List.getElem?_eq_some_iff.1 hyb
        rw [← h2]; exact List.drop_eq_getElem_cons h1
      rw [hx,hy]
      by_cases hab:a = b
      · subst hab
        simp only [decide_true,Bool.not_true,Bool.false_eq_true,if_false,ih (s + 1) (by omega),List.cons.injEq,true_and]
      · simp [hab]
  have:=key len 0 (by omega)
  rw [List.range_eq_range',this]
  simp only [List.drop_zero]
  congr 1
  rw [decide_eq_decide]
  exact ⟨fun h=>Vec.ext h,fun h=>by rw [h]⟩
theorem EqSpec.vecOne {P:Program} {t e len n:Nat} {X:Type} [Enc X] [DecidableEq X] {v:X → Value} (ht:P.underlying t = some (.array len e)) (hn:∀ w,(sizeOf e).run P w = .ok n w) (hn1:n = Enc.sz X) (ha:∀ w,(isAgg e).run P w = .ok false w)
    (hv:∀ x,Enc.enc x = [v x]) (he:EqSpec P e v) :
    ∀ (d:Nat) (x y:Vec X len) (w:World),2 ≤ d → (Op.equalIn d t (.agg (encs x.l).toArray) (.agg (encs y.l).toArray)).run P w = .ok (decide (x = y)) w:=by
  intro d x y w hd
  subst hn1
  obtain ⟨d,rfl⟩ : ∃ d',d = d' + 1:=⟨d - 1,by omega⟩
  rw [run_equalIn_array w d _ _ ht hn]
  have key:∀ (k s:Nat),s + k = len → (Op.eqElems d e (Enc.sz X) (encs x.l).toArray (encs y.l).toArray (List.range' s k)).run P w = .ok (decide (x.l.drop s = y.l.drop s)) w:=by
    intro k
    induction k with
    | zero =>
      intro s hs
      rw [List.drop_eq_nil_of_le (by rw [x.len]; omega),List.drop_eq_nil_of_le (by rw [y.len]; omega)]
      simp [Op.eqElems]
    | succ k ih =>
      intro s hs
      obtain ⟨a,hxa⟩:=x.get (i:=s) (by omega)
      obtain ⟨b,hyb⟩:=y.get (i:=s) (by omega)
      have ga:(encs x.l)[s * Enc.sz X]? = some (v a):=by
        have:=(lH (encs x.l) (s * Enc.sz X) (Enc.sz X) 0 (v a) (by rw [iS x.l s a hxa,hv]; rfl)).2
        simpa using this
      have gb:(encs y.l)[s * Enc.sz X]? = some (v b):=by
        have:=(lH (encs y.l) (s * Enc.sz X) (Enc.sz X) 0 (v b) (by rw [iS y.l s b hyb,hv]; rfl)).2
        simpa using this
      simp only [List.range'_succ,Op.eqElems,Sem.run_bind,fM w ha ga,fM w ha gb,Result.andThen_ok,he d a b w (by omega)]
      have hx:x.l.drop s = a :: x.l.drop (s + 1):=by
        obtain ⟨h1,h2⟩:=List.getElem?_eq_some_iff.1 hxa
        rw [← h2]; exact List.drop_eq_getElem_cons h1
      have hy:y.l.drop s = b :: y.l.drop (s + 1):=by
        obtain ⟨h1,h2⟩:=List.getElem?_eq_some_iff.1 hyb
        rw [← h2]; exact List.drop_eq_getElem_cons h1
      rw [hx,hy]
      by_cases hab:a = b
      · subst hab
        simp only [decide_true,Bool.not_true,Bool.false_eq_true,if_false,ih (s + 1) (by omega),List.cons.injEq,true_and]
      · simp [hab]
  have:=key len 0 (by omega)
  rw [List.range_eq_range',this]
  simp only [List.drop_zero]
  congr 1
  rw [decide_eq_decide]
  exact ⟨fun h=>Vec.ext h,fun h=>by rw [h]⟩
theorem gX {P:Program} {w:World} {d:Nat} {cx cy ux uy:List Value} {f:Field} {fs:List Field} {sz:Nat} {r:Bool} (hn:f.name ≠ "_") (ha:∀ w,(isAgg f.type).run P w = .ok true w) (hs:∀ w,(sizeOf f.type).run P w = .ok sz w)
    (hx:cut cx f.offset sz = ux) (hy:cut cy f.offset sz = uy) (he:(Op.equalIn d f.type (.agg ux.toArray) (.agg uy.toArray)).run P w = .ok r w) :
    (Op.eqFields d cx.toArray cy.toArray (f :: fs)).run P w = if r then (Op.eqFields d cx.toArray cy.toArray fs).run P w else .ok false w:=by
  simp only [Op.eqFields,if_pos hn,Sem.run_bind,fL w ha hs hx,fL w ha hs hy,Result.andThen_ok,he]
  cases r <;> simp
theorem dS {P:Program} {w:World} {d:Nat} {cx cy:List Value} {ux uy:Value} {f:Field} {fs:List Field} {r:Bool} (hn:f.name ≠ "_") (ha:∀ w,(isAgg f.type).run P w = .ok false w)
    (hx:cx[f.offset]? = some ux) (hy:cy[f.offset]? = some uy) (he:(Op.equalIn d f.type ux uy).run P w = .ok r w) :
    (Op.eqFields d cx.toArray cy.toArray (f :: fs)).run P w = if r then (Op.eqFields d cx.toArray cy.toArray fs).run P w else .ok false w:=by
  simp only [Op.eqFields,if_pos hn,Sem.run_bind,fM w ha hx,fM w ha hy,Result.andThen_ok,he]
  cases r <;> simp
theorem fZ {P:Program} {w:World} {d:Nat} {cx cy:Array Value}:(Op.eqFields d cx cy []).run P w = .ok true w:=by simp [Op.eqFields]
section
variable {P:Program} {n:Nat} {F:List (Nat × Value)} {a:Act} {dd:List Deferred} {w:World} {o:Oper}
theorem jP {t yt:TypeId} {x y:Operand} {cx cy:List Value} {r:Bool} (hg:P.eqGuardType P.depth t = false) (he:(Op.equalIn 10000 t (.agg cx.toArray) (.agg cy.toArray)).run P w = .ok r w)
    (hF:Fr n F a dd) (ho:o.op = .binOp .eql t x y yt) (hx:ev F x = some (.agg cx.toArray)) (hy:ev F y = some (.agg cy.toArray)):(execOp a.eval o).run P w = .ok (.value (.bool r)) w:=by
  simp only [execOp,ho,hF.eval hx,hF.eval hy,Sem.run_bind,run_eqGuard_agg w .eql t x y _ _ hg,Result.andThen_ok,run_eql_struct,he,Sem.run_pure]
theorem jQ {t yt:TypeId} {x y:Operand} {cx cy:List Value} {r:Bool} (hg:P.eqGuardType P.depth t = false) (he:(Op.equalIn 10000 t (.agg cx.toArray) (.agg cy.toArray)).run P w = .ok r w)
    (hF:Fr n F a dd) (ho:o.op = .binOp .neq t x y yt) (hx:ev F x = some (.agg cx.toArray)) (hy:ev F y = some (.agg cy.toArray)):(execOp a.eval o).run P w = .ok (.value (.bool (!r))) w:=by
  simp only [execOp,ho,hF.eval hx,hF.eval hy,Sem.run_bind,run_eqGuard_agg w .neq t x y _ _ hg,Result.andThen_ok,run_neq_struct,he,Sem.run_pure]
end
end Go.Fw
end
section
namespace Go.Fw
section
variable {P:Program} {n:Nat} {F:List (Nat × Value)} {a:Act} {dd:List Deferred} {w:World} {o:Oper}
def byteOf (x:Int):UInt8:=UInt8.ofNat (x % 256).toNat
theorem wY (x:Int):((byteOf x).toNat:Int) = x % 256:=by
  unfold byteOf
  rw [UInt8.toNat_ofNat']
  omega
theorem wrap_u8 (x:Int):IntKind.u8.wrap x = ((byteOf x).toNat:Int):=by
  rw [wY,IntKind.wrap_u8]
theorem lW (vs:List Value):∀ (k off:Nat) (cs:List Value),off + k + vs.length ≤ cs.length → (vs.zipIdx k).foldl (fun (acc:Array Value) (p:Value × Nat)=>acc.setIfInBounds (off + p.2) p.1) cs.toArray = (put cs (off + k) vs).toArray:=by
  induction vs with
  | nil=>intro k off cs _; simp [put]
  | cons v vs ih =>
    intro k off cs h
    simp only [List.length_cons] at h
    simp only [List.zipIdx_cons,List.foldl_cons,List.setIfInBounds_toArray]
    rw [ih (k + 1) off (cs.set (off + k) v) (by simp; omega)]
    congr 1
    unfold put
    rw [List.set_eq_take_append_cons_drop,if_pos (by omega)]
    have h1:(cs.take (off + k)).length = off + k:=by simp; omega
    simp only [List.length_cons]
    rw [show off + (k + 1) = off + k + 1 by omega]
    rw [List.take_append,List.drop_append,h1]
    simp only [show off + k + 1 - (off + k) = 1 by omega,show off + k + 1 + vs.length - (off + k) = vs.length + 1 by omega,List.take_succ_cons,List.take_zero,List.drop_succ_cons]
    rw [List.take_of_length_le (by rw [h1]; omega),List.drop_eq_nil_of_le (by rw [h1]; omega)]
    simp
    congr 1
    omega
theorem cN {place:Nat → Option (Nat × Nat)} {cs:List Value}:Instr.fill place cs.toArray [] = some cs.toArray:=rfl
theorem fS {place:Nat → Option (Nat × Nat)} {cs cs' vs:List Value} {i off sz:Nat} {rest:List (Nat × Value)} {r:Array Value} (hp:place i = some (off,sz)) (hl:vs.length = sz) (hle:off + vs.length ≤ cs.length) (hput:put cs off vs = cs') (h:Instr.fill place cs'.toArray rest = some r) :
    Instr.fill place cs.toArray ((i,.agg vs.toArray) :: rest) = some r:=by
  subst hput hl
  have hf:=lW vs 0 off cs (by omega)
  simp only [Nat.add_zero] at hf
  simp only [Instr.fill,hp,Value.cells,List.size_toArray,ne_eq,not_true_eq_false,decide_false,Bool.false_or,decide_eq_true_eq]
  rw [if_neg (by omega),← Array.foldl_toList,Array.toList_zipIdx]
  simp only [hf]
  exact h
theorem cJ {place:Nat → Option (Nat × Nat)} {cs cs':List Value} {v:Value} {i off:Nat} {rest:List (Nat × Value)} {r:Array Value} (hp:place i = some (off,1)) (hv:v.oneCell' = true) (hle:off < cs.length) (hput:cs.set off v = cs') (h:Instr.fill place cs'.toArray rest = some r) :
    Instr.fill place cs.toArray ((i,v) :: rest) = some r:=by
  subst hput
  have hc:v.cells = [v].toArray:=by cases v <;> first | rfl | cases hv
  have hf:=lW [v] 0 off cs (by simp; omega)
  simp only [Nat.add_zero] at hf
  simp only [Instr.fill,hp,hc,List.size_toArray,List.length_cons,List.length_nil,Nat.zero_add,ne_eq,not_true_eq_false,decide_false,Bool.false_or,decide_eq_true_eq]
  rw [if_neg (by omega),← Array.foldl_toList,Array.toList_zipIdx]
  simp only [hf]
  rw [List.set_eq_take_append_cons_drop,if_pos hle] at h
  simpa [put] using h
def plc (P:Program) (t:TypeId):Sem (Array (Nat × Nat)):=(P.fieldsOf t).mapM fun f=>do pure (f.offset,← sizeOf f.type)
theorem cB {t:TypeId} {fs:Array Field} {pl:Array (Nat × Nat)} {zs cs:List Value} {parts:List (Nat × Operand)} {vps:List (Nat × Value)} (hz:∀ w,(zeroValue t).run P w = .ok (.agg zs.toArray) w) (hu:P.underlying t = some (.struct fs))
    (hp:∀ w,(plc P t).run P w = .ok pl w) (hF:Fr n F a dd) (ho:o.op = .build t parts.toArray) (hx:evps F parts = some vps) (hfill:Instr.fill (pl[·]?) zs.toArray vps = some cs.toArray) :
    (execOp a.eval o).run P w = .ok (.value (.agg cs.toArray)) w:=by
  have hps:(parts.toArray.map fun (i,x)=>(i,a.eval x)).toList = vps:=by
    simp only [List.map_toArray]
    exact hF.evalps hx
  simp only [plc,Program.fieldsOf,hu] at hp
  simp only [execOp,ho,Instr.build,Sem.run_bind,hz,Result.andThen_ok,Value.cells,run_underlying hu,hp,hps,hfill,Sem.run_pure]
end
theorem bG {G:Prop} {n:Nat} {F:List (Nat × Value)} {a:Act} {dd:List Deferred} {b:Bool} (t:Nat) (_hF:Fr n F a dd) (_h:look F t = some (.bool b)) (h1:b = true → G) (h2:b = false → G):G:=by
  cases b
  · exact h2 rfl
  · exact h1 rfl
theorem aKc {b:Bool} (h:b = true):(!b) = false:=by rw [h]; rfl
theorem aKb {b:Bool} (h:b = false):(!b) = true:=by rw [h]; rfl
section
variable {r:Option Nat} {P:Program} {Q:Exit → Act → World → Prop} {a:Act} {dd:List Deferred} {w:World} {n:Nat} {F:List (Nat × Value)} {L:List Res}
theorem Fr.first {G:List (Nat × Value)} {ks:List Nat} (h:Fr n F a dd) (hG:allIn F G):Fr n (G ++ keepF F ks) a dd :=
  h.head G ks (mO hG)
theorem MemL.tail {r:Res} (h:MemL w (r :: L)):MemL w L:=by
  constructor
  · intro i s hi; exact h.hold (i + 1) s hi
  · intro i j s t hi hj hij; exact h.apart (i + 1) (j + 1) s t hi hj (by omega)
theorem aB1 {c:Operand} {x y:Code} {b:Bool} (hF:Fr n F a dd) (hc:ev F c = some (.bool b)) (hb:b = true) (h:Wp r P x Q a w):Wp r P (.cond c x y) Q a w:=wpIn_cond_true (by rw [hF.eval hc,hb]) h
theorem aG1 {c:Operand} {x y:Code} {b:Bool} (hF:Fr n F a dd) (hc:ev F c = some (.bool b)) (hb:b = false) (h:Wp r P y Q a w):Wp r P (.cond c x y) Q a w:=wpIn_cond_false (by rw [hF.eval hc,hb]) h
theorem aAn {ops:Array Oper} {o:Oper} {g t:Nat} {want:Bool} (hF:Fr n F a dd) (hg:o.guard = some (g,want)) (ht:(ops[g]?).bind (·.dst) = some t) (hc:look F t = some undef) :
    Region.wanted o (yielded ops a.tmps) = false:=by
  have:=hF.get t _ hc
  simp [Region.wanted,hg,yielded,ht,this,undef]
theorem fH {ops:Array Oper} {o:Oper} {rest:List Oper} {d:Nat} {g t:Nat} {want:Bool} (hF:Fr n F a dd) (hg:o.guard = some (g,want)) (ht:(ops[g]?).bind (·.dst) = some t) (hc:look F t = some undef)
    (hd:o.dst = some d) (hn:Nat.blt d n = true)
    (next:∀ a',Fr n ((d,undef) :: F) a' dd → wpL r P ops Q rest a' w):wpL r P ops Q (o :: rest) a w :=
  wpListIn_step fun _ hK=>by
    rw [if_neg (by rw [aAn hF hg ht hc]; exact Bool.false_ne_true)]
    exact ⟨fun _ _=>trivial,hK _ _ (by rw [hd]; exact next _ (hF.put hn))⟩
variable {ops:Array Oper} {T:List Nat} {C:World → Prop} {Ls:List Res} {o:Oper} {d:Nat} {v:Value}
theorem aK (hF:Fr n F a dd) (hc:chk ops = true) (i:Nat) (ho:ops[i]? = some o) (hok:okq ops T i = true) (hg:o.guard = none) (hd:o.dst = some d) (hn:Nat.blt d n = true)
    (hr:∀ w,MemL w Ls → (execOp a.eval o).run P w = .ok (.value v) w) (next:∀ a',Fr n ((d,v) :: F) a' dd → DW r P ops Q (i :: T) (MemL · Ls) C a'):DW r P ops Q T (MemL · Ls) C a :=
  aDa hc ho hok (fun w hw=>.inl ⟨by simp [Region.wanted,hg],hr w hw⟩) (by rw [hd]; exact next _ (hF.put hn))
theorem bR {g t:Nat} {want c:Bool} (hF:Fr n F a dd) (hc:chk ops = true) (i:Nat) (ho:ops[i]? = some o) (hok:okq ops T i = true) (hg:o.guard = some (g,want)) (ht:(ops[g]?).bind (·.dst) = some t) (hb:look F t = some (.bool c)) (hw:c = want) (hd:o.dst = some d) (hn:Nat.blt d n = true)
    (hr:∀ w,MemL w Ls → (execOp a.eval o).run P w = .ok (.value v) w) (next:∀ a',Fr n ((d,v) :: F) a' dd → DW r P ops Q (i :: T) (MemL · Ls) C a'):DW r P ops Q T (MemL · Ls) C a :=
  aDa hc ho hok (fun w hx=>.inl ⟨nD hF hg ht hb hw,hr w hx⟩) (by rw [hd]; exact next _ (hF.put hn))
theorem bA {g t:Nat} {want c:Bool} (hF:Fr n F a dd) (hc:chk ops = true) (i:Nat) (ho:ops[i]? = some o) (hok:okq ops T i = true) (hg:o.guard = some (g,want)) (ht:(ops[g]?).bind (·.dst) = some t) (hb:look F t = some (.bool c)) (hw:c = !want) (hd:o.dst = some d) (hn:Nat.blt d n = true)
    (next:∀ a',Fr n ((d,undef) :: F) a' dd → DW r P ops Q (i :: T) (MemL · Ls) C a'):DW r P ops Q T (MemL · Ls) C a :=
  aDa hc ho hok (fun _ _=>.inr ⟨wU hF hg ht hb hw,rfl⟩) (by rw [hd]; exact next _ (hF.put hn))
theorem cC {g t:Nat} {want:Bool} (hF:Fr n F a dd) (hc:chk ops = true) (i:Nat) (ho:ops[i]? = some o) (hok:okq ops T i = true) (hg:o.guard = some (g,want)) (ht:(ops[g]?).bind (·.dst) = some t) (hb:look F t = some undef) (hd:o.dst = some d) (hn:Nat.blt d n = true)
    (next:∀ a',Fr n ((d,undef) :: F) a' dd → DW r P ops Q (i :: T) (MemL · Ls) C a'):DW r P ops Q T (MemL · Ls) C a :=
  aDa hc ho hok (fun _ _=>.inr ⟨aAn hF hg ht hb,rfl⟩) (by rw [hd]; exact next _ (hF.put hn))
theorem bY (hF:Fr n F a dd) (e:Nat) (ho:ops[e]? = some o) (hns:noSel o = true) (hg:o.guard = none) (hd:o.dst = some d) (hn:Nat.blt d n = true)
    (hy:∀ w,MemL w Ls → MemL w L → Yd P o a.eval w (fun v w'=>∃ Ls' L',MemL w' Ls' ∧ MemL w' L' ∧ ((∀ x,MemL x Ls' → MemL x Ls) ∨ sync ops T e = true) ∧ ∀ a',Fr n ((d,v) :: F) a' dd → DW r P ops Q (e :: T) (MemL · Ls') (MemL · L') a')) :
    Ex r P ops Q T (MemL · Ls) (MemL · L) a e :=
  ⟨o,ho,by simp [Region.wanted,hg],hns,fun w h1 h2=>(hy w h1 h2).mono fun v w' ⟨Ls',L',h3,h4,h5,h6⟩=>⟨_,_,h3,h4,h5.imp id aBu,by rw [hd]; exact h6 _ (hF.put hn)⟩⟩
theorem yW {g t:Nat} {want c:Bool} (hF:Fr n F a dd) (e:Nat) (ho:ops[e]? = some o) (hns:noSel o = true) (hg:o.guard = some (g,want)) (ht:(ops[g]?).bind (·.dst) = some t) (hb:look F t = some (.bool c)) (hw:c = want) (hd:o.dst = some d) (hn:Nat.blt d n = true)
    (hy:∀ w,MemL w Ls → MemL w L → Yd P o a.eval w (fun v w'=>∃ Ls' L',MemL w' Ls' ∧ MemL w' L' ∧ ((∀ x,MemL x Ls' → MemL x Ls) ∨ sync ops T e = true) ∧ ∀ a',Fr n ((d,v) :: F) a' dd → DW r P ops Q (e :: T) (MemL · Ls') (MemL · L') a')) :
    Ex r P ops Q T (MemL · Ls) (MemL · L) a e :=
  ⟨o,ho,nD hF hg ht hb hw,hns,fun w h1 h2=>(hy w h1 h2).mono fun v w' ⟨Ls',L',h3,h4,h5,h6⟩=>⟨_,_,h3,h4,h5.imp id aBu,by rw [hd]; exact h6 _ (hF.put hn)⟩⟩
theorem cV (e:Nat) (ho:ops[e]? = some o) (hns:noSel o = true) (hg:o.guard = none) (hd:o.dst = none)
    (hy:∀ w,MemL w Ls → MemL w L → Yd P o a.eval w (fun _ w'=>∃ Ls' L',MemL w' Ls' ∧ MemL w' L' ∧ ((∀ x,MemL x Ls' → MemL x Ls) ∨ sync ops T e = true) ∧ DW r P ops Q (e :: T) (MemL · Ls') (MemL · L') a)) :
    Ex r P ops Q T (MemL · Ls) (MemL · L) a e :=
  ⟨o,ho,by simp [Region.wanted,hg],hns,fun w h1 h2=>(hy w h1 h2).mono fun v w' ⟨Ls',L',h3,h4,h5,h6⟩=>⟨_,_,h3,h4,h5.imp id aBu,by rw [hd]; exact h6⟩⟩
theorem bF {Cs:World → Prop} (hc:chk ops = true) (e:Nat) (hb:blk ops T [e] = true) (hl:Nat.blt e ops.size = true) (hT:memN e T = false) (h:Ex r P ops Q T Cs C a e):DW r P ops Q T Cs C a :=
  aHg hc [e] hb ⟨e,by simp,Nat.le_of_ble_eq_true hl,hT⟩ ⟨h,trivial⟩
theorem hO {Cs:World → Prop} (hc:chk ops = true) (e f:Nat) (hb:blk ops T [e,f] = true) (hl:Nat.blt e ops.size = true) (hT:memN e T = false) (h:Ex r P ops Q T Cs C a e) (h':Ex r P ops Q T Cs C a f):DW r P ops Q T Cs C a :=
  aHg hc [e,f] hb ⟨e,by simp,Nat.le_of_ble_eq_true hl,hT⟩ ⟨h,h',trivial⟩
theorem bV {Cs:World → Prop} (hc:chk ops = true) (hall:allDone ops T = true) (h:∀ w,MemL w L → Q .normal a w):DW r P ops Q T Cs (MemL · L) a:=aEm hc hall h
end
end Go.Fw
end
section
namespace Go.Fw
abbrev rowL {X:Type} [Enc X] (lo:Nat) (s:SV) (e:TypeId) (l:List X):Res:=.row lo s.v e (Enc.sz X) l.length (encs l)
abbrev Own {X:Type} [Enc X] (lo:Nat) (w:World) (e:TypeId) (s:SV) (l:List X):Prop:=w.ownsRow lo e (Enc.sz X) s.v l.length (encs l)
theorem Own.nil {X:Type} [Enc X] (lo:Nat) (w:World) (e:TypeId):Own lo w e SV.nil ([]:List X):=World.ownsRow_nil w lo e (Enc.sz X)
theorem Own.len {X:Type} [Enc X] {lo e:Nat} {w:World} {s:SV} {l:List X} (h:Own lo w e s l):s.len = l.length:=by
  rcases h.2 with ⟨h1,h2⟩ | ⟨g,cap,cur,h1,_⟩
  · obtain ⟨a,b,c⟩:=s; cases h1; exact h2.symm
  · obtain ⟨a,b,c⟩:=s; cases h1; rfl
theorem Own.slice {X:Type} [Enc X] {lo e:Nat} {w:World} {s:SV} {l:List X} (h:Own lo w e s l):SliceOf lo w s l:=by
  refine ⟨h.len,?_,?_⟩
  · rcases h.2 with ⟨h1,h2⟩ | ⟨g,cap,cur,h1,h3,h4,h5,h6,h7,h8⟩
    · obtain ⟨a,b,c⟩:=s; cases h1; exact Nat.le_refl _
    · obtain ⟨a,b,c⟩:=s; cases h1; exact h5
  rcases h.2 with ⟨h1,h2⟩ | ⟨g,cap,cur,h1,h3,h4,h5,h6,h7,h8⟩
  · obtain ⟨a,b,c⟩:=s; cases h1
    exact ⟨List.eq_nil_of_length_eq_zero h2,rfl⟩
  · obtain ⟨a,b,c⟩:=s; cases h1
    refine ⟨.inr rfl,h3,fun j v hv=>?_⟩
    rw [← h8,List.getElem?_take] at hv
    split at hv
    · simp only [Nat.zero_add,World.cell?,h4]
      simpa using hv
    · cases hv
theorem Own.now {X:Type} [Enc X] {lo lo' e:Nat} {S:List Nat} {w1 w:World} {s:SV} {l:List X} (h:Own lo w1 e s l) (hs:Same lo' S w1 w) (hlo:lo' ≤ lo) (hS:∀ b ∈ S,b < lo):Own lo w e s l:=by
  refine ⟨h.1,?_⟩
  rcases h.2 with h1 | ⟨g,cap,cur,h1,h3,h4,r⟩
  · exact .inl h1
  · refine .inr ⟨g,cap,cur,h1,h3,?_,r⟩
    rw [hs.block g (by omega) (Array.getElem?_eq_some_iff.1 h4).1 (fun hm=>by have:=hS g hm; omega)]
    exact h4
theorem Own.keep {X:Type} [Enc X] {lo e:Nat} {w w':World} {s:SV} {l:List X} (h:Own lo w e s l) (k:Keeps [] w w'):Own lo w' e s l :=
  h.now (lo':=0) (S:=[]) ⟨k.size,fun j _ hj _=>k.block j hj (by simp)⟩ (Nat.zero_le _) (by simp)
theorem Own.mono {X:Type} [Enc X] {lo lo' e:Nat} {w:World} {s:SV} {l:List X} (h:Own lo w e s l) (hl:lo' ≤ lo):Own lo' w e s l:=by
  refine ⟨h.1,?_⟩
  rcases h.2 with h1 | ⟨g,cap,cur,h1,h3,r⟩
  · exact .inl h1
  · exact .inr ⟨g,cap,cur,h1,by omega,r⟩
section
variable {w w':World} {L:List Res}
theorem MemL.rowNil (h:MemL w L) {X:Type} [Enc X] (lo e:Nat):MemL w (rowL lo SV.nil e ([]:List X) :: L) :=
  h.add (Keeps.refl w) (Own.nil lo w e) fun j hj=>by simp [Res.fp,Value.ownBlock] at hj
theorem MemL.own (h:MemL w L) {X:Type} [Enc X] {i lo e:Nat} {s:SV} {l:List X} (hi:L[i]? = some (rowL lo s e l)):Own lo w e s l:=h.row hi
theorem MemL.rowS (h:MemL w L) {X:Type} [Enc X] {i lo e:Nat} {s:SV} {l:List X} (hi:L[i]? = some (rowL lo s e l)):SliceOf lo w s l:=Own.slice (h.own hi)
theorem MemL.ptS (h:MemL w L) {X:Type} [Enc X] {i b e n c:Nat} {l:List X} {cs:List Value} (hi:L[i]? = some (pt b cs e)) (hc:cs = encs l) (hn:n = l.length) (hcap:n ≤ c):SliceOf b w ⟨some ⟨b,0,none⟩,n,c⟩ l:=by
  subst hc hn
  exact ⟨rfl,hcap,.inr rfl,Nat.le_refl _,fun j v hv=>sY (h.obj hi) (by rw [Nat.zero_add]; exact hv)⟩
end
section
variable {P:Program} {n:Nat} {F:List (Nat × Value)} {a:Act} {dd:List Deferred} {w:World} {o:Oper} {J:Value → World → Prop}
theorem wS {X:Type} [Enc X] {x y:Operand} {t e lo lo' bytes:Nat} {s sx:SV} {xs l:List X} {i:TypeInfo} {z:Value} (ht:P.underlying t = some (.slice e)) (hi:P.info? e = some i) (hz:i.zero = some z)
    (hsize:i.size = Enc.sz X) (hby:i.bytes = bytes) (hzs:z.cells.size = Enc.sz X)
    (hF:Fr n F a dd) (ho:o.op = .call { callee:=.builtin .append,args:=#[x,y],argTypes:=#[t,t] }) (hx:ev F x = some s.v) (hy:ev F y = some sx.v)
    (hown:Own lo w e s xs) (hsx:SliceOf lo' w sx l) (hb:(xs.length + l.length) * bytes ≤ 140737488355328 ∧ xs.length + l.length ≤ 4611686018427387904) (hlo:lo ≤ w.heap.size)
    (next:∀ (s':SV) w',Upd (rowL lo s e xs) (rowL lo s' e (xs ++ l)) w w' → s'.len = (xs ++ l).length → J s'.v w'):Yd P o a.eval w J:=by
  refine aGj ht hi hz hsize hby hzs hF ho hx hy hown hsx (by simp only [maxLen]; omega) hb.1 hlo fun s' w' hU hl=>next s' w' ?_ (by rw [hl,List.length_append])
  rw [← List.length_append,← eI] at hU
  exact hU
theorem cR {X:Type} [Enc X] {t e:Nat} {x:Operand} {y:X} {v:Value} {ie:TypeInfo} {z:Value} (hu:P.underlying t = some (.slice e)) (hie:P.info? e = some ie) (hz:ie.zero = some z) (hs:ie.size = Enc.sz X) (hzs:z.cells.size = Enc.sz X)
    (hsm:Nat.ble (1 * Enc.sz X) 16777216 = true) (hF:Fr n F a dd) (ho:o.op = .buildSlice t 1 #[(0,x)]) (hx:ev F x = some v) (hv:v.cells = (Enc.enc y).toArray)
    (next:∀ b w',w.heap.size = b → Added (pt b (encs [y]) e) w w' → J (SV.v ⟨some ⟨b,0,none⟩,1,1⟩) w'):Yd P o a.eval w J:=by
  have hpos:=Enc.pos (X:=X)
  refine rB (parts:=[(0,x)]) (vps:=[(0,v)]) (cs:=encs [y]) hu hie hz hs hF ho (by simp [evps,hx]) hsm (by cases h:Enc.sz X with | zero=>omega | succ k=>rw [Nat.one_mul]; rfl) ?_ next
  have hlen:(Enc.enc y).length = Enc.sz X:=Enc.len y
  have hz0:((Array.range (1 * Enc.sz X)).map (z.cells[· % z.cells.size]!)) = (((Array.range (1 * Enc.sz X)).map (z.cells[· % z.cells.size]!)).toList).toArray:=(Array.toArray_toList).symm
  rw [hz0]
  generalize hL:((Array.range (1 * Enc.sz X)).map (z.cells[· % z.cells.size]!)).toList = zl
  have hzl:zl.length = Enc.sz X:=by rw [← hL]; simp
  have hfill:Instr.fill (fun i=>some (i * Enc.sz X,Enc.sz X)) zl.toArray ((0,v) :: []) = some ((Enc.enc y)).toArray:=by
    have hf:=lW (Enc.enc y) 0 0 zl (by omega)
    simp only [Nat.add_zero] at hf
    simp only [Instr.fill,hv,List.size_toArray,hlen,ne_eq,not_true_eq_false,decide_false,Bool.false_or,Nat.zero_mul,Nat.zero_add,hzl,Nat.lt_irrefl,gt_iff_lt,Bool.false_eq_true,if_false]
    rw [← Array.foldl_toList,Array.toList_zipIdx]
    simp only [Nat.zero_add] at hf
    simp only [hf,bE (hzl.trans hlen.symm)]
  rw [hfill,qF]
end
end Go.Fw
end
section
namespace Go.Fw
structure Each {A B:Type} (R:A → B → Prop) (hs:List A) (l:List B):Prop where
  len:hs.length = l.length
  at_:∀ (i:Nat) h p,hs[i]? = some h → l[i]? = some p → R h p
theorem Each.nil {A B:Type} {R:A → B → Prop}:Each R ([]:List A) ([]:List B):=⟨rfl,fun i h p hh=>by simp at hh⟩
theorem Each.mono {A B:Type} {R R':A → B → Prop} {hs:List A} {l:List B} (h:Each R hs l) (k:∀ x y,R x y → R' x y):Each R' hs l:=⟨h.len,fun i x y hx hy=>k x y (h.at_ i x y hx hy)⟩
theorem Each.snoc {A B:Type} {R:A → B → Prop} {hs:List A} {l:List B} {x:A} {y:B} (h:Each R hs l) (k:R x y):Each R (hs ++ [x]) (l ++ [y]):=by
  refine ⟨by simp [h.len],fun i a b ha hb=>?_⟩
  by_cases hi:i < hs.length
  · rw [List.getElem?_append_left hi] at ha
    rw [List.getElem?_append_left (by rw [← h.len]; exact hi)] at hb
    exact h.at_ i a b ha hb
  · rw [List.getElem?_append_right (by omega)] at ha
    rw [List.getElem?_append_right (by rw [← h.len]; omega)] at hb
    have hi0:i - hs.length = 0:=by
      have:=(List.getElem?_eq_some_iff.1 ha).1
      simp at this; omega
    rw [← h.len] at hb
    rw [hi0] at ha hb
    simp at ha hb
    subst ha hb
    exact k
theorem Each.append {A B:Type} {R:A → B → Prop} {hs hs':List A} {l l':List B} (h:Each R hs l) (k:Each R hs' l'):Each R (hs ++ hs') (l ++ l'):=by
  refine ⟨by simp [h.len,k.len],fun i a b ha hb=>?_⟩
  by_cases hi:i < hs.length
  · rw [List.getElem?_append_left hi] at ha
    rw [List.getElem?_append_left (by rw [← h.len]; exact hi)] at hb
    exact h.at_ i a b ha hb
  · rw [List.getElem?_append_right (by omega)] at ha
    rw [List.getElem?_append_right (by rw [← h.len]; omega)] at hb
    rw [← h.len] at hb
    exact k.at_ _ a b ha hb
theorem Each.get {A B:Type} {R:A → B → Prop} {hs:List A} {l:List B} (h:Each R hs l) {i:Nat} (hi:i < l.length):∃ x y,hs[i]? = some x ∧ l[i]? = some y ∧ R x y:=by
  have h1:=List.getElem?_eq_getElem (l:=hs) (i:=i) (by rw [h.len]; exact hi)
  have h2:=List.getElem?_eq_getElem (l:=l) (i:=i) hi
  exact ⟨_,_,h1,h2,h.at_ i _ _ h1 h2⟩
theorem Each.take {A B:Type} {R:A → B → Prop} {hs:List A} {l:List B} (h:Each R hs l) (n:Nat):Each R (hs.take n) (l.take n):=by
  refine ⟨by simp [h.len],fun i a b ha hb=>?_⟩
  rw [List.getElem?_take] at ha hb
  split at ha
  · rename_i hi; rw [if_pos hi] at hb; exact h.at_ i a b ha hb
  · cases ha
theorem Each.set {A B:Type} {R:A → B → Prop} {hs:List A} {l:List B} {x:A} {y:B} (h:Each R hs l) (i:Nat) (k:R x y):Each R (hs.set i x) (l.set i y):=by
  refine ⟨by simp [h.len],fun j a b ha hb=>?_⟩
  by_cases hij:i = j
  · subst hij
    rw [List.getElem?_set_self'] at ha hb
    cases h1:hs[i]? with
    | none=>simp [h1] at ha
    | some _=>cases h2:l[i]? with
      | none=>simp [h2] at hb
      | some _=>simp [h1] at ha; simp [h2] at hb; subst ha hb; exact k
  · rw [List.getElem?_set_ne hij] at ha hb; exact h.at_ j a b ha hb
structure LAt {X:Type} [Enc X] (lo:Nat) (w:World) (s:SV) (l:List X):Prop where
  sl:SliceOf lo w s l
  big:l.length ≤ 4294967296
structure LsAt {X Y:Type} [Enc X] (R:Nat → World → X → Y → Prop) (lo:Nat) (w:World) (s:SV) (hs:List X) (l:List Y):Prop where
  sl:SliceOf lo w s hs
  big:l.length ≤ 4294967296
  each:Each (R lo w) hs l
abbrev BsAt:=LsAt (X:=SV) (Y:=List UInt8) LAt
structure PIn where
  ctx:List UInt8
  tabs:List (List UInt8)
deriving DecidableEq
structure PState where
  regs:Vec LVal 11
  stack:Vec LSlot 32
  ctx:List UInt8
  tabs:List (List UInt8)
  sent:List Int
  at_:Int
  steps:Int
  done:Bool
deriving DecidableEq
structure PPiece where
  table:Int
  from_:Int
  old:List UInt8
  new:List UInt8
deriving DecidableEq
structure PMark where
  at_:Int
  next:Int
  done:Bool
  regs:List LTurn
  slots:List LCell
  pieces:List PPiece
  sent:List Int
deriving DecidableEq
structure PRec where
  inp:PIn
  marks:List PMark
  end_:Int
deriving DecidableEq
structure InAt (lo:Nat) (w:World) (x:RInput) (p:PIn):Prop where
  ctx:LAt lo w x.ctx p.ctx
  tabs:∃ hs,BsAt lo w x.tables hs p.tabs
structure PieceAt (lo:Nat) (w:World) (x:RPiece) (p:PPiece):Prop where
  table:x.table = p.table
  from_:x.from_ = p.from_
  old:LAt lo w x.old p.old
  new:LAt lo w x.new p.new
structure StAt (lo:Nat) (w:World) (x:RState) (p:PState):Prop where
  regs:x.regs = p.regs
  stack:x.stack = p.stack
  ctx:LAt lo w x.ctx p.ctx
  tabs:∃ hs,BsAt lo w x.tables hs p.tabs
  sent:LAt lo w x.sent p.sent
  at_:x.at_ = p.at_
  steps:x.steps = p.steps
  done:x.done = p.done
structure MarkAt (lo:Nat) (w:World) (x:RMark) (p:PMark):Prop where
  at_:x.at_ = p.at_
  next:x.next = p.next
  done:x.done = p.done
  regs:LAt lo w x.regs p.regs
  slots:LAt lo w x.slots p.slots
  pieces:∃ hs,LsAt PieceAt lo w x.pieces hs p.pieces
  sent:LAt lo w x.sent p.sent
structure RecAt (lo:Nat) (w:World) (x:RRecord) (p:PRec):Prop where
  inp:InAt lo w x.in_ p.inp
  marks:∃ hs,LsAt MarkAt lo w x.marks hs p.marks
  end_:x.end_ = p.end_
section
variable {lo lo':Nat} {S:List Nat} {w1 w w':World}
theorem LAt.nil {X:Type} [Enc X] (lo:Nat) (w:World):LAt lo w SV.nil ([]:List X):=⟨SliceOf.nil lo w,by simp⟩
theorem LAt.now {X:Type} [Enc X] {s:SV} {l:List X} (h:LAt lo w1 s l) (hs:Same lo' S w1 w) (hlo:lo' ≤ lo) (hS:∀ b ∈ S,b < lo):LAt lo w s l:=⟨h.sl.now hs hlo hS,h.big⟩
theorem LsAt.now {X Y:Type} [Enc X] {R:Nat → World → X → Y → Prop} (hR:∀ x y,R lo w1 x y → R lo w x y) {s:SV} {hs:List X} {l:List Y} (h:LsAt R lo w1 s hs l) (hsm:Same lo' S w1 w) (hlo:lo' ≤ lo) (hS:∀ b ∈ S,b < lo):LsAt R lo w s hs l :=
  ⟨h.sl.now hsm hlo hS,h.big,h.each.mono hR⟩
theorem InAt.now {x:RInput} {p:PIn} (h:InAt lo w1 x p) (hs:Same lo' S w1 w) (hlo:lo' ≤ lo) (hS:∀ b ∈ S,b < lo):InAt lo w x p :=
  ⟨h.ctx.now hs hlo hS,h.tabs.imp fun _ k=>k.now (fun _ _ q=>q.now hs hlo hS) hs hlo hS⟩
theorem PieceAt.now {x:RPiece} {p:PPiece} (h:PieceAt lo w1 x p) (hs:Same lo' S w1 w) (hlo:lo' ≤ lo) (hS:∀ b ∈ S,b < lo):PieceAt lo w x p :=
  ⟨h.table,h.from_,h.old.now hs hlo hS,h.new.now hs hlo hS⟩
theorem StAt.now {x:RState} {p:PState} (h:StAt lo w1 x p) (hs:Same lo' S w1 w) (hlo:lo' ≤ lo) (hS:∀ b ∈ S,b < lo):StAt lo w x p :=
  ⟨h.regs,h.stack,h.ctx.now hs hlo hS,h.tabs.imp fun _ k=>k.now (fun _ _ q=>q.now hs hlo hS) hs hlo hS,h.sent.now hs hlo hS,h.at_,h.steps,h.done⟩
theorem MarkAt.now {x:RMark} {p:PMark} (h:MarkAt lo w1 x p) (hs:Same lo' S w1 w) (hlo:lo' ≤ lo) (hS:∀ b ∈ S,b < lo):MarkAt lo w x p :=
  ⟨h.at_,h.next,h.done,h.regs.now hs hlo hS,h.slots.now hs hlo hS,h.pieces.imp fun _ k=>k.now (fun _ _ q=>q.now hs hlo hS) hs hlo hS,h.sent.now hs hlo hS⟩
theorem RecAt.now {x:RRecord} {p:PRec} (h:RecAt lo w1 x p) (hs:Same lo' S w1 w) (hlo:lo' ≤ lo) (hS:∀ b ∈ S,b < lo):RecAt lo w x p :=
  ⟨h.inp.now hs hlo hS,h.marks.imp fun _ k=>k.now (fun _ _ q=>q.now hs hlo hS) hs hlo hS,h.end_⟩
theorem LAt.mono {X:Type} [Enc X] {s:SV} {l:List X} (h:LAt lo w s l) (hl:lo' ≤ lo):LAt lo' w s l:=⟨h.sl.mono hl,h.big⟩
theorem LsAt.mono {X Y:Type} [Enc X] {R:Nat → World → X → Y → Prop} (hR:∀ x y,R lo w x y → R lo' w x y) {s:SV} {hs:List X} {l:List Y} (h:LsAt R lo w s hs l) (hl:lo' ≤ lo):LsAt R lo' w s hs l:=⟨h.sl.mono hl,h.big,h.each.mono hR⟩
theorem InAt.mono {x:RInput} {p:PIn} (h:InAt lo w x p) (hl:lo' ≤ lo):InAt lo' w x p:=⟨h.ctx.mono hl,h.tabs.imp fun _ k=>k.mono (fun _ _ q=>q.mono hl) hl⟩
theorem PieceAt.mono {x:RPiece} {p:PPiece} (h:PieceAt lo w x p) (hl:lo' ≤ lo):PieceAt lo' w x p:=⟨h.table,h.from_,h.old.mono hl,h.new.mono hl⟩
theorem StAt.mono {x:RState} {p:PState} (h:StAt lo w x p) (hl:lo' ≤ lo):StAt lo' w x p :=
  ⟨h.regs,h.stack,h.ctx.mono hl,h.tabs.imp fun _ k=>k.mono (fun _ _ q=>q.mono hl) hl,h.sent.mono hl,h.at_,h.steps,h.done⟩
theorem MarkAt.mono {x:RMark} {p:PMark} (h:MarkAt lo w x p) (hl:lo' ≤ lo):MarkAt lo' w x p :=
  ⟨h.at_,h.next,h.done,h.regs.mono hl,h.slots.mono hl,h.pieces.imp fun _ k=>k.mono (fun _ _ q=>q.mono hl) hl,h.sent.mono hl⟩
theorem RecAt.mono {x:RRecord} {p:PRec} (h:RecAt lo w x p) (hl:lo' ≤ lo):RecAt lo' w x p:=⟨h.inp.mono hl,h.marks.imp fun _ k=>k.mono (fun _ _ q=>q.mono hl) hl,h.end_⟩
theorem Keeps.same (k:Keeps [] w w'):Same 0 [] w w':=⟨k.size,fun j _ hj _=>k.block j hj (by simp)⟩
theorem LAt.keep {X:Type} [Enc X] {s:SV} {l:List X} (h:LAt lo w s l) (k:Keeps [] w w'):LAt lo w' s l:=h.now k.same (Nat.zero_le _) (by simp)
theorem LsAt.keep {X Y:Type} [Enc X] {R:Nat → World → X → Y → Prop} (hR:∀ x y,R lo w x y → R lo w' x y) {s:SV} {hs:List X} {l:List Y} (h:LsAt R lo w s hs l) (k:Keeps [] w w'):LsAt R lo w' s hs l:=h.now hR k.same (Nat.zero_le _) (by simp)
theorem InAt.keep {x:RInput} {p:PIn} (h:InAt lo w x p) (k:Keeps [] w w'):InAt lo w' x p:=h.now k.same (Nat.zero_le _) (by simp)
theorem PieceAt.keep {x:RPiece} {p:PPiece} (h:PieceAt lo w x p) (k:Keeps [] w w'):PieceAt lo w' x p:=h.now k.same (Nat.zero_le _) (by simp)
theorem StAt.keep {x:RState} {p:PState} (h:StAt lo w x p) (k:Keeps [] w w'):StAt lo w' x p:=h.now k.same (Nat.zero_le _) (by simp)
theorem MarkAt.keep {x:RMark} {p:PMark} (h:MarkAt lo w x p) (k:Keeps [] w w'):MarkAt lo w' x p:=h.now k.same (Nat.zero_le _) (by simp)
theorem RecAt.keep {x:RRecord} {p:PRec} (h:RecAt lo w x p) (k:Keeps [] w w'):RecAt lo w' x p:=h.now k.same (Nat.zero_le _) (by simp)
end
end Go.Fw
end
