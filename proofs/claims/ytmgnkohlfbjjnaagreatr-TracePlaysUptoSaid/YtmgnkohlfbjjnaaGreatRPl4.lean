/- Ground for this claim: The call of TracePlays returns true. Condition: the arguments are of bulk at most 1048576. -/
import Derived.RangeFuncRecord
import Derived.RangeFuncIn
import Derived.Test.YtmgnkohlfbjjnaaGreatRPl3
set_option linter.unusedVariables false
set_option linter.unusedSimpArgs false
section
namespace Go.Ev
open Go.Fw
theorem Upd.putObj {w:World} {b:Nat} {o o':Obj} (hb:w.heap[b]? = some o):Upd (.obj b o) (.obj b o') w (w.putObj b o'):=by
  have hlt:b < w.heap.size:=(Array.getElem?_eq_some_iff.1 hb).1
  refine ⟨⟨rfl,rfl,rfl⟩,by simp [World.putObj],fun k _ hf=>?_,?_,fun _ hk=>.inl hk⟩
  · exact World.putObj_heap_other (fun e=>hf e)
  · exact World.putObj_heap_same hlt
section
variable {I:Ip} {env:Env} {n:Nat} {w0 w:World} {s s':St} {F:Fm} {a:Act} {dd:List Deferred} {P:Program}
theorem yJ (h:SR I env w0 s w) (hF:FR I s.nx n F a dd) {call:CallT} {o:Oper} {t:Nat} {m k x:Operand} {v:AV} (ho:o.op = .mapUpdate t m k x) (hh:aact (tabOf P) call s F o.op = some (v,s')):Yd P o a.eval w (Left I env w0 s s' v):=by
  rw [ho] at hh
  simp only [aact,Option.bind_eq_bind,Option.bind_eq_some_iff] at hh
  obtain ⟨d,(hd:P.underlying t = some d),um,hm,hh⟩:=hh
  obtain ⟨h1,h2⟩:=hF.eval hm
  split at hh
  · rename_i kt et b
    rw [Option.bind_eq_some_iff] at hh
    obtain ⟨dk,(hdk:P.underlying kt = some dk),hh⟩:=hh
    split at hh
    · rename_i kd es c hb
      rw [Option.bind_eq_some_iff] at hh
      obtain ⟨uk,hk,hh⟩:=hh
      rw [Option.bind_eq_some_iff] at hh
      obtain ⟨ux,hx,hh⟩:=hh
      rw [Option.bind_eq_some_iff] at hh
      obtain ⟨⟨es',c'⟩,hp,hh⟩:=hh
      simp only [Option.some.injEq,Prod.mk.injEq] at hh
      obtain ⟨rfl,rfl⟩:=hh
      obtain ⟨h3,h4⟩:=hF.eval hk
      obtain ⟨h5,h6⟩:=hF.eval hx
      simp only [mapPut] at hp
      split at hp
      · rename_i q y hfind
        simp only [Option.some.injEq,Prod.mk.injEq,sW] at hp
        obtain ⟨rfl,rfl⟩:=hp
        obtain ⟨r',hf,hv⟩:=uB (I:=I) kd 0 hfind ⟨q,y,rfl⟩
        have hr':r' = none:=by cases r' <;> simp at hv ⊢
        subst hr'
        have hfk:(Instr.findKey kt (I.g (.i q y)) (es.map fun e=>(⟨I.g e.1,I.g e.2.1,e.2.2⟩ : MapEntry))).run P w = .ok none w:=by
          simp [Instr.findKey,run_underlying hdk,hf]
        have hck:∀ b,(Instr.checkKey b 10000 kt (I.g (.i q y))).run P w = .ok () w:=fun b=>mE hdk b q y
        have hobj:=h.holds _ _ hb
        have hobj':w.heap[(I.sv b).blk]? = some (.map (es.map fun e=>(⟨I.g e.1,I.g e.2.1,e.2.2⟩ : MapEntry)).toArray c):=hobj
        have hset:∀ ob,(setObj (I.sv b).blk ob).run P w = .ok () (w.putObj (I.sv b).blk ob):=fun ob=>by simp [setObj,Sem.run,hobj',World.putObj]
        have hU:=Upd.putObj (o':=.map ((es ++ [(AV.i q y,ux,c)]).map fun e=>(⟨I.g e.1,I.g e.2.1,e.2.2⟩ : MapEntry)).toArray (c + 1)) hobj'
        refine Yd.skip' (w':=w.putObj (I.sv b).blk (.map ((es ++ [(AV.i q y,ux,c)]).map fun e=>(⟨I.g e.1,I.g e.2.1,e.2.2⟩ : MapEntry)).toArray (c + 1))) ?_
          (h.left (v:=.und) (o':=.map (es ++ [(AV.i q y,ux,c)]) (c + 1)) hb (fun e he=>?_) hU trivial)
        · have hmv:I.g (.mp b) = .map (some (I.sv b).blk):=by simp [gam]
          simp only [execOp,ho,h1,h3,h5,hmv,Instr.mapUpdate,Sem.run_bind,run_underlying hd,Result.andThen_ok,MapKept.run_getObj_map hobj',hck,hfk,hset,Sem.run_pure]
          simp
        · rcases List.mem_append.1 he with he | he
          · exact (h.ok _ _ hb).2 e he
          · simp only [List.mem_singleton] at he; subst he; exact ⟨h4,h6⟩
      · cases hp
    · cases hh
  · cases hh
theorem aCu (h:SR I env w0 s w) (hF:FR I s.nx n F a dd) {call:CallT} {o:Oper} {t t':Nat} {x:Operand} {v:AV} (ho:o.op = .convert t t' x) (hh:aact (tabOf P) call s F o.op = some (v,s')):Yd P o a.eval w (Left I env w0 s s' v):=by
  rw [ho] at hh
  simp only [aact,Option.bind_eq_bind] at hh
  split at hh
  · cases hh
  · rename_i htt
    simp only [ne_eq,Decidable.not_not] at htt
    subst htt
    rw [Option.bind_eq_some_iff] at hh
    obtain ⟨d,(hd:P.underlying t = some d),hh⟩:=hh
    rw [Option.bind_eq_some_iff] at hh
    obtain ⟨u,hu,hh⟩:=hh
    obtain ⟨h1,h2⟩:=hF.eval hu
    split at hh
    · rename_i e m off len cap
      rw [Option.bind_eq_some_iff] at hh
      obtain ⟨de,(hde:P.underlying e = some de),hh⟩:=hh
      split at hh
      · rename_i N l q hm
        simp only [Option.some.injEq,Prod.mk.injEq] at hh
        obtain ⟨rfl,rfl⟩:=hh
        obtain ⟨hk,hok⟩:=h.ok m _ hm
        have hN:l.length = N:=hok.1
        have hb:w.heap[(I.sv m).blk]? = some (.cells (l.map I.g).toArray q (0,0)):=h.holds _ _ hm
        have hlt:=(Array.getElem?_eq_some_iff.1 hb).1
        have hsh:w.shape? (I.sv m).blk = some (q,N):=by simp [World.shape?,hb,hN]
        have hU:Upd (res I env w0.heap.size m (.pt N l q)) (res I env w0.heap.size m (.fz N l q)) w (w.freeze ⟨(I.sv m).blk,N,none⟩ 1):=by
          refine ⟨⟨rfl,rfl,rfl⟩,by simp [World.freeze],fun j _ hf=>?_,?_,fun _ hk=>.inl hk⟩
          · simp only [World.freeze]
            rw [if_neg (by decide)]
            simp only [Array.getElem?_modify]
            rw [if_neg (fun e=>hf (by simp only [res,Res.fp]; exact e.symm))]
          · show (w.freeze ⟨(I.sv m).blk,N,none⟩ 1).heap[(I.sv m).blk]? = _
            simp only [World.freeze]
            rw [if_neg (by decide)]
            simp only [Array.getElem?_modify,if_true,hb,Option.map_some]
            rfl
        refine Yd.ok' (w':=w.freeze ⟨(I.sv m).blk,N,none⟩ 1) ?_ (h.left (v:=.sl m off len cap) (o':=.fz N l q) hm hok hU h2)
        simp only [execOp,ho,h1,Sem.run_bind]
        have:(convert t t (I.g (.sl m off len cap))).run P w = .ok (I.g (.sl m off len cap)) (w.freeze ⟨(I.sv m).blk,N,none⟩ 1):=by
          simp [gam,convert,run_underlying hd,run_underlying hde,markStringish,shape,freeze,Sem.run,hsh]
        rw [this]; rfl
      · cases hh
    · cases hh
theorem aB0 {e lo m k z:Nat} {sv sy:SV} {xs ys:List Value} {t ty:Nat} {i:TypeInfo} {zv:Value} (ht:P.underlying t = some (.slice e)) (hi:P.info? e = some i) (hz:i.zero = some zv)
    (hsize:i.size = z) (hzs:zv.cells.size = z) (hpos:0 < z) (hown:w.ownsRow lo e z sv.v m xs) (hy:SlU w sy k z ys) (h1:∀ u ∈ ys,u.oneCell' = true)
    (h63:m + k ≤ maxLen) (hbytes:(m + k) * i.bytes ≤ 140737488355328) (hlo:lo ≤ w.heap.size) :
    ∃ (s':SV) (w':World),(Builtin.append_ #[t,t] ty #[sv.v,sy.v]).run P w = .ok s'.v w' ∧ Upd (.row lo sv.v e z m xs) (.row lo s'.v e z (m + k) (xs ++ ys)) w w':=by
  have fin:∀ v' w',(Builtin.append_ #[t,t] ty #[sv.v,sy.v]).run P w = .ok v' w' → w'.ownsRow lo e z v' (m + k) (xs ++ ys) → w.grownBy w' sv.v.ownBlock →
      (∀ j,v'.ownBlock = some j → sv.v.ownBlock = some j ∨ w.heap.size ≤ j) → ∃ (s':SV) (w':World),(Builtin.append_ #[t,t] ty #[sv.v,sy.v]).run P w = .ok s'.v w' ∧ Upd (.row lo sv.v e z m xs) (.row lo s'.v e z (m + k) (xs ++ ys)) w w':=by
    intro v' w' hr h2 h3 h4
    have hv:∃ s':SV,v' = s'.v:=by
      rcases h2.2 with ⟨rfl,h0⟩ | ⟨g,cap,cur,rfl,_⟩
      · exact ⟨SV.nil,rfl⟩
      · exact ⟨⟨some ⟨g,0,none⟩,_,cap⟩,rfl⟩
    obtain ⟨s',rfl⟩:=hv
    exact ⟨s',w',hr,⟨⟨h3.os,h3.tape,h3.output⟩,h3.size,fun k hk hf=>h3.block k hk fun e'=>hf (by simpa [Res.fp] using e'.symm),h2,h4⟩⟩
  have hc:=hy.cells
  have hln:=hy.len
  have hn:=hy.n
  obtain ⟨sa,sl,sc⟩:=sy
  cases sa with
  | some ad =>
    obtain ⟨h2,h3⟩:=hc
    obtain ⟨b,off,sp⟩:=ad
    simp only at h2 h3 hln
    subst h2 hln
    have hcell:∀ j u,ys[j]? = some u → w.cell? ((⟨b,off,none⟩ : Addr).add j) = some u:=fun j u hu=>by rw [eB]; exact h3 j u hu
    obtain ⟨v',w',hr,h4,h5,_⟩:=run_append_own (P:=P) w lo t ty e i zv z i.bytes ht hi hz hsize rfl hzs hpos sv.v m xs hown ⟨b,off,none⟩ sl sc ys hn hcell h1 h63 hbytes hlo
    exact fin v' w' hr h4 h5 (qA ht hi hz hsize rfl hown hn hcell h1 h63 hbytes hr)
  | none =>
    obtain ⟨h2,h3⟩:=hc
    simp only at h2 h3 hln
    subst h2 h3
    subst hln
    have hys:ys = []:=List.eq_nil_of_length_eq_zero (by simpa using hn)
    subst hys
    refine fin sv.v w ?_ (by simpa using hown) ⟨rfl,rfl,rfl,Nat.le_refl _,fun _ _ _=>rfl⟩ fun j hj=>.inl hj
    have hcap:sv.len ≤ sv.cap:=by
      rcases hown.2 with ⟨h,_⟩ | ⟨g,cap,cur,h,_,_,h',_⟩
      · obtain ⟨sa,sl,sc⟩:=sv; cases h; exact Nat.le_refl _
      · obtain ⟨sa,sl,sc⟩:=sv; cases h; exact h'
    obtain ⟨sa,sl,sc⟩:=sv
    have hcap':sl ≤ sc:=hcap
    cases sa <;> simp [Builtin.append_,run_underlying ht,sizeOf,typeInfo,hi,Builtin.lenOf,Builtin.firstCells,storeCells,hcap']
theorem app_grow {e lo k z b off len cap:Nat} {sy:SV} {xs ys:List Value} {t ty:Nat} {i:TypeInfo} {zv:Value} (ht:P.underlying t = some (.slice e)) (hi:P.info? e = some i) (hz:i.zero = some zv)
    (hsize:i.size = z) (hzs:zv.cells.size = z) (hx:SlU w ⟨some ⟨b,off,none⟩,len,cap⟩ len z xs) (hy:SlU w sy k z ys) (hg:cap < len + k)
    (h63:len + k ≤ maxLen) (hbytes:(len + k) * i.bytes ≤ 140737488355328) (hlo:lo ≤ w.heap.size) :
    ∃ (s':SV) (w':World),(Builtin.append_ #[t,t] ty #[.slice (some ⟨b,off,none⟩) len cap,sy.v]).run P w = .ok s'.v w' ∧ Added (.row lo s'.v e z (len + k) (xs ++ ys)) w w':=by
  subst hsize
  have hroom:=hx.room
  simp only at hroom
  have hc:=hy.cells
  have hln:=hy.len
  have hn:=hy.n
  obtain ⟨sa,sl,sc⟩:=sy
  cases sa with
  | none=>have:=hc.1; omega
  | some ad =>
    obtain ⟨h2,h3⟩:=hc
    obtain ⟨b',off',sp⟩:=ad
    simp only at h2 h3 hln
    subst h2 hln
    have hcell:∀ j u,ys[j]? = some u → w.cell? ((⟨b',off',none⟩ : Addr).add j) = some u:=fun j u hu=>by rw [eB]; exact h3 j u hu
    have hcellx:∀ j u,xs[j]? = some u → w.cell? ((⟨b,off,none⟩ : Addr).add j) = some u:=fun j u hu=>by rw [eB]; exact hx.cells.2 j u hu
    have hm:(len + sl:Nat) ≤ 9223372036854775807:=by simp only [maxLen] at h63; omega
    have hr:=run_append_grow (P:=P) w t ty e i zv ht hi hz ⟨b,off,none⟩ len cap xs hx.n hcellx ⟨b',off',none⟩ sl sc ys hn hcell hg (by omega) (growslice_fits (by omega) hbytes)
    have hge:=grownCap_ge w (len + sl) cap e
    have hcm:grownCap w (len + sl) cap e ≤ maxLen:=grownCap_le_maxLen w (len + sl) cap e h63
    have hlen:(xs ++ ys).length = (len + sl) * i.size:=by rw [List.length_append,hx.n,hn,Nat.add_mul]
    refine ⟨⟨some ⟨w.heap.size,0,none⟩,len + sl,grownCap w (len + sl) cap e⟩,_,hr,?_⟩
    refine ⟨⟨⟨rfl,rfl,rfl⟩,by simp,fun j hj _=>heap_alloc_old (w:=w.drew) _ hj⟩,⟨hlen,.inr ⟨w.heap.size,_,_,rfl,hlo,heap_alloc_new w.drew _,hge,hcm,?_,?_⟩⟩,fun j hj=>?_⟩
    · simp only [Array.size_append,List.size_toArray,size_zeroCells,hzs,hx.n,hn,← Nat.add_mul]
      congr 1
      omega
    · simp only [Array.toList_append,List.append_assoc]
      rw [← List.append_assoc,← hlen]
      exact List.take_left
    · simp [Res.fp,SV.v,Value.ownBlock] at hj; omega
end
end Go.Ev
end
section
namespace Go.Fw
structure Full (e lo:Nat) (s:SV) (l:List UInt8) (w:World):Prop where
  ex:∃ g fz,s = ⟨some ⟨g,0,none⟩,l.length,l.length⟩ ∧ lo ≤ g ∧ w.heap[g]? = some (.cells (encs l).toArray e fz)
structure Wr (T e lo wb:Nat) (c:Bool) (l:List UInt8) (fp:Nat → Prop) (w:World):Prop where
  ge:lo ≤ wb
  ex:∃ s:SV,w.heap[wb]? = some (.cells #[s.v] T (0,0)) ∧ (Own lo w e s l ∨ (c = false ∧ Full e lo s l w)) ∧ ∀ k,fp k ↔ (k = wb ∨ s.v.ownBlock = some k)
abbrev wrR (T e lo wb:Nat) (c:Bool) (l:List UInt8) (fp:Nat → Prop):Res:=.gen fp (Wr T e lo wb c l fp)
section
variable {T e lo wb:Nat} {c c':Bool} {l l':List UInt8} {fp fp':Nat → Prop} {w w' w0 wb0:World} {L:List Res}
theorem Wr.lt (h:Wr T e lo wb c l fp w) {k:Nat} (hk:fp k):lo ≤ k ∧ k < w.heap.size:=by
  obtain ⟨s,h1,h2,h3⟩:=h.ex
  rcases (h3 k).1 hk with rfl | h4
  · exact ⟨h.ge,(Array.getElem?_eq_some_iff.1 h1).1⟩
  · rcases h2 with h2 | ⟨_,⟨g,fz,rfl,hg,hh⟩⟩
    · exact World.ownsRow.lt h2 k h4
    · simp only [SV.v,Value.ownBlock,Option.some.injEq] at h4
      subst h4
      exact ⟨hg,(Array.getElem?_eq_some_iff.1 hh).1⟩
theorem Wr.keep (h:Wr T e lo wb c l fp w) (hio:Io w w') (hs:w.heap.size ≤ w'.heap.size) (hk:∀ k,fp k → w'.heap[k]? = w.heap[k]?):Wr T e lo wb c l fp w':=by
  obtain ⟨s,h1,h2,h3⟩:=h.ex
  refine ⟨h.ge,s,by rw [hk wb ((h3 wb).2 (.inl rfl))]; exact h1,?_,h3⟩
  rcases h2 with h2 | ⟨hc,⟨g,fz,rfl,hg,hh⟩⟩
  · exact .inl (Res.keep (r:=.row lo s.v e (Enc.sz UInt8) l.length (encs l)) h2 hio hs fun k hk'=>hk k ((h3 k).2 (.inr hk')))
  · exact .inr ⟨hc,⟨g,fz,rfl,hg,by rw [hk g ((h3 g).2 (.inr rfl))]; exact hh⟩⟩
theorem Wr.holds (h:Wr T e lo wb c l fp w):(wrR T e lo wb c l fp).holds w:=⟨fun k hk=>(h.lt hk).2,fun w' a b d=>h.keep a b d⟩
end
end Go.Fw
end
section
namespace Go.Fx
open Go Go.Fw
def Ext (e:Nat) (s:SV) (l:List UInt8) (w:World):Prop:=Own 0 w e s l ∨ Full e 0 s l w
abbrev fowL (e:Nat) (s:SV) (l:List UInt8):Res:=.gen (fun k=>s.v.ownBlock = some k) (Ext e s l)
section
variable {e:Nat} {s:SV} {l:List UInt8} {w w':World} {L:List Res}
theorem aA4 (h:Full e 0 s l w):SliceOf 0 w s l:=by
  obtain ⟨g,fz,rfl,_,hh⟩:=h.ex
  exact ⟨rfl,Nat.le_refl _,.inr rfl,Nat.zero_le _,lS (n:=(encs l).length) hh (aY rfl)⟩
theorem aDd (h:Full e 0 s l w) (hk:∀ k,s.v.ownBlock = some k → w'.heap[k]? = w.heap[k]?):Full e 0 s l w':=by
  obtain ⟨g,fz,rfl,h0,hh⟩:=h.ex
  exact ⟨g,fz,rfl,h0,by rw [hk g rfl]; exact hh⟩
theorem Ext.slice (h:Ext e s l w):SliceOf 0 w s l:=h.elim Own.slice aA4
theorem Ext.holds (h:Ext e s l w):(fowL e s l).holds w:=by
  refine ⟨fun k hk=>?_,fun w' hio hs hk=>?_⟩
  · rcases h with h | h
    · exact (World.ownsRow.lt h k hk).2
    · obtain ⟨g,fz,rfl,_,hh⟩:=h.ex
      simp only [SV.v,Value.ownBlock,Option.some.injEq] at hk; subst hk
      exact (Array.getElem?_eq_some_iff.1 hh).1
  · rcases h with h | h
    · exact .inl (Res.keep (r:=.row 0 s.v e (Enc.sz UInt8) l.length (encs l)) h hio hs hk)
    · exact .inr (aDd h hk)
end
section
variable {P:Program} {n:Nat} {F:List (Nat × Value)} {a:Act} {dd:List Deferred} {w:World} {o:Oper} {J:Value → World → Prop}
inductive PartsE {X:Type} [Enc X]:Nat → List (Nat × Value) → List X → Prop
  | nil {k:Nat}:PartsE k [] []
  | cons {k:Nat} {v:Value} {y:X} {vps:List (Nat × Value)} {ys:List X}:v.cells = (Enc.enc y).toArray → PartsE (k + 1) vps ys → PartsE k ((k,v) :: vps) (y :: ys)
theorem aI4 {place:Nat → Option (Nat × Nat)} {cs cs' vs:List Value} {v:Value} {i off sz:Nat} {rest:List (Nat × Value)} {r:Array Value} (hp:place i = some (off,sz)) (hv:v.cells = vs.toArray) (hl:vs.length = sz) (hle:off + vs.length ≤ cs.length) (hput:put cs off vs = cs') (h:Instr.fill place cs'.toArray rest = some r) :
    Instr.fill place cs.toArray ((i,v) :: rest) = some r:=by
  subst hput hl
  have hf:=lW vs 0 off cs (by omega)
  simp only [Nat.add_zero] at hf
  simp only [Instr.fill,hp,hv,List.size_toArray,ne_eq,not_true_eq_false,decide_false,Bool.false_or,decide_eq_true_eq]
  rw [if_neg (by omega),← Array.foldl_toList,Array.toList_zipIdx]
  simp only [hf]
  exact h
theorem aA2 {X:Type} [Enc X] {k:Nat} {vps:List (Nat × Value)} {ys:List X} (h:PartsE k vps ys):∀ (done:List X) (zs:List Value),done.length = k → zs.length = ys.length * Enc.sz X →
    Instr.fill (fun i=>some (i * Enc.sz X,Enc.sz X)) (encs done ++ zs).toArray vps = some (encs (done ++ ys)).toArray:=by
  induction h with
  | nil =>
    intro done zs hd hz
    simp at hz
    subst hz
    simp [Instr.fill]
  | @cons k v y vps ys hv _ ih =>
    intro done zs hd hz
    subst hd
    have hsz:zs.length = Enc.sz X + ys.length * Enc.sz X:=by rw [hz,List.length_cons,Nat.add_mul]; omega
    have hel:(encs done).length = done.length * Enc.sz X:=dW done
    refine aI4 (off:=done.length * Enc.sz X) (sz:=Enc.sz X) (cs':=encs (done ++ [y]) ++ zs.drop (Enc.sz X)) rfl hv (Enc.len y) (by rw [Enc.len]; simp; omega) ?_ ?_
    · unfold put
      rw [Enc.len,eI,qF,List.take_left' hel,← hel,List.drop_length_add_append]
    · have:=ih (done ++ [y]) (zs.drop (Enc.sz X)) (by simp) (by simp; omega)
      rw [this,List.append_assoc]; rfl
theorem eX {X:Type} [Enc X] {t e m:Nat} {ys:List X} {parts:List (Nat × Operand)} {vps:List (Nat × Value)} {ie:TypeInfo} {z:Value} (hu:P.underlying t = some (.slice e)) (hie:P.info? e = some ie) (hz:ie.zero = some z) (hs:ie.size = Enc.sz X) (hzs:z.cells.size = Enc.sz X)
    (hn:ys.length = m) (hsm:Nat.ble (m * Enc.sz X) 16777216 = true) (hpos:0 < m) (hF:Fr n F a dd) (ho:o.op = .buildSlice t m parts.toArray) (hp:evps F parts = some vps) (hv:PartsE 0 vps ys)
    (next:∀ b w',w.heap.size = b → Added (pt b (encs ys) e) w w' → J (SV.v ⟨some ⟨b,0,none⟩,m,m⟩) w'):Yd P o a.eval w J:=by
  have hX:=Enc.pos (X:=X)
  refine rB (parts:=parts) (vps:=vps) (cs:=encs ys) hu hie hz hs hF ho hp hsm ?_ ?_ next
  · cases hq:Nat.beq (m * Enc.sz X) 0 with
    | false=>rfl
    | true =>
      have:=Nat.eq_of_beq_eq_true hq
      rcases Nat.mul_eq_zero.1 this with h | h <;> omega
  · have hz0:((Array.range (m * Enc.sz X)).map (z.cells[· % z.cells.size]!)) = (((Array.range (m * Enc.sz X)).map (z.cells[· % z.cells.size]!)).toList).toArray:=(Array.toArray_toList).symm
    rw [hz0]
    have:=aA2 hv [] ((Array.range (m * Enc.sz X)).map (z.cells[· % z.cells.size]!)).toList rfl (by simp [hn])
    simpa [hZ] using this
end
end Go.Fx
end
section
namespace Go.Proofs
open Go.Fw
set_option maxRecDepth 20000
def LVal.zero:LVal:=⟨0,0,0,0⟩
def LSlot.zero:LSlot:=⟨LVal.zero,⟨List.replicate 8 0,rfl⟩,0⟩
def LTurn.zero:LTurn:=⟨0,LVal.zero,LVal.zero⟩
def LCell.zero:LCell:=⟨0,LSlot.zero,LSlot.zero⟩
def RPiece.zero:RPiece:=⟨0,0,SV.nil,SV.nil⟩
def RMark.zero:RMark:=⟨0,0,false,SV.nil,SV.nil,SV.nil,SV.nil⟩
def RInput.zero:RInput:=⟨SV.nil,SV.nil⟩
def RRecord.zero:RRecord:=⟨RInput.zero,SV.nil,0⟩
def LTbl.zero:LTbl:=⟨0,0⟩
def LIns.zero:LIns:=⟨0,false,false,0,0,0,0,0⟩
def RProgram.zero:RProgram:=⟨0,0,SV.nil,SV.nil,SV.nil⟩
def RState.zero:RState:=⟨⟨List.replicate 11 LVal.zero,rfl⟩,⟨List.replicate 32 LSlot.zero,rfl⟩,SV.nil,SV.nil,SV.nil,0,0,false⟩
def ROutput.zero:ROutput:=⟨0,SV.nil,SV.nil,SV.nil⟩
def RWriter.zero:RWriter:=⟨SV.nil⟩
def RReader.zero:RReader:=⟨SV.nil,0,0,0⟩
def RCursor.zero:RCursor:=⟨SV.nil,0,0,0⟩
def RMemory.zero:RMemory:=⟨⟨List.replicate 32 LSlot.zero,rfl⟩,SV.nil,SV.nil,SV.nil,SV.nil⟩
def RMachine.zero:RMachine:=⟨RMemory.zero,SV.nil,SV.nil,none,⟨List.replicate 11 LVal.zero,rfl⟩,SV.nil,0,0,false⟩
def LCl.zero:LCl:=⟨false,0,0,0⟩
def RM.zero:RM:=⟨RProgram.zero,SV.nil,⟨List.replicate 11 LVal.zero,rfl⟩,⟨List.replicate 256 LCl.zero,rfl⟩,SV.nil,SV.nil,SV.nil,SV.nil,0,0,false⟩
def LRw.zero:LRw:=⟨0,0,0,false,false,0,0,0,0,0,false⟩
def LSpan.zero:LSpan:=⟨0,0,false,false⟩
def RSig.zero:RSig:=⟨SV.nil,LSpan.zero⟩
def RLender.zero:RLender:=⟨SV.nil⟩
def LOrdU.zero:LOrdU:=⟨0,0⟩
def LOrdI.zero:LOrdI:=⟨0,0⟩
end Go.Proofs
end
section
namespace Go.Fx
open Go Go.Fw
structure QPiece where
  table:Int
  from_:Int
  old:List UInt8
  new:List UInt8
deriving DecidableEq
def QPieceIn (L:World → Prop) (x:RPiece) (p:QPiece):Prop:=∃ (s_old:SV) (s_new:SV),x = (RPiece.mk p.table p.from_ s_old s_new) ∧ LIn L s_old p.old ∧ LIn L s_new p.new
theorem QPieceIn.mono {L L':World → Prop} {x:RPiece} {p:QPiece} (h:QPieceIn L x p) (k:∀ w,L' w → L w):QPieceIn L' x p:=by
  obtain ⟨s_old,s_new,e,h0,h1⟩:=h
  exact ⟨s_old,s_new,e,h0.mono k,h1.mono k⟩
structure QMark where
  at_:Int
  next:Int
  done:Bool
  regs:List LTurn
  slots:List LCell
  pieces:List QPiece
  sent:List Int
deriving DecidableEq
def QMarkIn (L:World → Prop) (x:RMark) (p:QMark):Prop:=∃ (s_regs:SV) (s_slots:SV) (s_pieces:SV) (h_pieces:List RPiece) (s_sent:SV),x = (RMark.mk p.at_ p.next p.done s_regs s_slots s_pieces s_sent) ∧ LIn L s_regs p.regs ∧ LIn L s_slots p.slots ∧ LIn L s_pieces h_pieces ∧ Each (QPieceIn L) h_pieces p.pieces ∧ LIn L s_sent p.sent
theorem QMarkIn.mono {L L':World → Prop} {x:RMark} {p:QMark} (h:QMarkIn L x p) (k:∀ w,L' w → L w):QMarkIn L' x p:=by
  obtain ⟨s_regs,s_slots,s_pieces,h_pieces,s_sent,e,h0,h1,h2,h3,h4⟩:=h
  exact ⟨s_regs,s_slots,s_pieces,h_pieces,s_sent,e,h0.mono k,h1.mono k,h2.mono k,h3.mono fun _ _ q=>q.mono k,h4.mono k⟩
structure QInput where
  ctx:List UInt8
  tables:List (List UInt8)
deriving DecidableEq
def QInputIn (L:World → Prop) (x:RInput) (p:QInput):Prop:=∃ (s_ctx:SV) (s_tables:SV) (h_tables:List SV),x = (RInput.mk s_ctx s_tables) ∧ LIn L s_ctx p.ctx ∧ LIn L s_tables h_tables ∧ Each (LIn (X:=UInt8) L) h_tables p.tables
theorem QInputIn.mono {L L':World → Prop} {x:RInput} {p:QInput} (h:QInputIn L x p) (k:∀ w,L' w → L w):QInputIn L' x p:=by
  obtain ⟨s_ctx,s_tables,h_tables,e,h0,h1,h2⟩:=h
  exact ⟨s_ctx,s_tables,h_tables,e,h0.mono k,h1.mono k,h2.mono fun _ _ q=>q.mono k⟩
structure QRecord where
  in_:QInput
  marks:List QMark
  end_:Int
deriving DecidableEq
def QRecordIn (L:World → Prop) (x:RRecord) (p:QRecord):Prop:=∃ (s_in__ctx:SV) (s_in__tables:SV) (h_in__tables:List SV) (s_marks:SV) (h_marks:List RMark),x = (RRecord.mk (RInput.mk s_in__ctx s_in__tables) s_marks p.end_) ∧ LIn L s_in__ctx p.in_.ctx ∧ LIn L s_in__tables h_in__tables ∧ Each (LIn (X:=UInt8) L) h_in__tables p.in_.tables ∧ LIn L s_marks h_marks ∧ Each (QMarkIn L) h_marks p.marks
theorem QRecordIn.mono {L L':World → Prop} {x:RRecord} {p:QRecord} (h:QRecordIn L x p) (k:∀ w,L' w → L w):QRecordIn L' x p:=by
  obtain ⟨s_in__ctx,s_in__tables,h_in__tables,s_marks,h_marks,e,h0,h1,h2,h3,h4⟩:=h
  exact ⟨s_in__ctx,s_in__tables,h_in__tables,s_marks,h_marks,e,h0.mono k,h1.mono k,h2.mono fun _ _ q=>q.mono k,h3.mono k,h4.mono fun _ _ q=>q.mono k⟩
structure QProgram where
  lo:Int
  hi:Int
  data:List UInt8
  tables:List LTbl
  code:List LIns
deriving DecidableEq
def QProgramIn (L:World → Prop) (x:RProgram) (p:QProgram):Prop:=∃ (s_data:SV) (s_tables:SV) (s_code:SV),x = (RProgram.mk p.lo p.hi s_data s_tables s_code) ∧ LIn L s_data p.data ∧ LIn L s_tables p.tables ∧ LIn L s_code p.code
theorem QProgramIn.mono {L L':World → Prop} {x:RProgram} {p:QProgram} (h:QProgramIn L x p) (k:∀ w,L' w → L w):QProgramIn L' x p:=by
  obtain ⟨s_data,s_tables,s_code,e,h0,h1,h2⟩:=h
  exact ⟨s_data,s_tables,s_code,e,h0.mono k,h1.mono k,h2.mono k⟩
structure QState where
  regs:Vec LVal 11
  stack:Vec LSlot 32
  ctx:List UInt8
  tables:List (List UInt8)
  sent:List Int
  at_:Int
  steps:Int
  done:Bool
deriving DecidableEq
def QStateIn (L:World → Prop) (x:RState) (p:QState):Prop:=∃ (s_ctx:SV) (s_tables:SV) (h_tables:List SV) (s_sent:SV),x = (RState.mk p.regs p.stack s_ctx s_tables s_sent p.at_ p.steps p.done) ∧ LIn L s_ctx p.ctx ∧ LIn L s_tables h_tables ∧ Each (LIn (X:=UInt8) L) h_tables p.tables ∧ LIn L s_sent p.sent
theorem QStateIn.mono {L L':World → Prop} {x:RState} {p:QState} (h:QStateIn L x p) (k:∀ w,L' w → L w):QStateIn L' x p:=by
  obtain ⟨s_ctx,s_tables,h_tables,s_sent,e,h0,h1,h2,h3⟩:=h
  exact ⟨s_ctx,s_tables,h_tables,s_sent,e,h0.mono k,h1.mono k,h2.mono fun _ _ q=>q.mono k,h3.mono k⟩
structure QOutput where
  r0:Int
  ctx:List UInt8
  tables:List (List UInt8)
  sent:List Int
deriving DecidableEq
def QOutputIn (L:World → Prop) (x:ROutput) (p:QOutput):Prop:=∃ (s_ctx:SV) (s_tables:SV) (h_tables:List SV) (s_sent:SV),x = (ROutput.mk p.r0 s_ctx s_tables s_sent) ∧ LIn L s_ctx p.ctx ∧ LIn L s_tables h_tables ∧ Each (LIn (X:=UInt8) L) h_tables p.tables ∧ LIn L s_sent p.sent
theorem QOutputIn.mono {L L':World → Prop} {x:ROutput} {p:QOutput} (h:QOutputIn L x p) (k:∀ w,L' w → L w):QOutputIn L' x p:=by
  obtain ⟨s_ctx,s_tables,h_tables,s_sent,e,h0,h1,h2,h3⟩:=h
  exact ⟨s_ctx,s_tables,h_tables,s_sent,e,h0.mono k,h1.mono k,h2.mono fun _ _ q=>q.mono k,h3.mono k⟩
structure QWriter where
  b:List UInt8
deriving DecidableEq
def QWriterIn (L:World → Prop) (x:RWriter) (p:QWriter):Prop:=∃ (s_b:SV),x = (RWriter.mk s_b) ∧ LIn L s_b p.b
theorem QWriterIn.mono {L L':World → Prop} {x:RWriter} {p:QWriter} (h:QWriterIn L x p) (k:∀ w,L' w → L w):QWriterIn L' x p:=by
  obtain ⟨s_b,e,h0⟩:=h
  exact ⟨s_b,e,h0.mono k⟩
structure QReader where
  b:List UInt8
  at_:Int
  place:Int
  e:Int
deriving DecidableEq
def QReaderIn (L:World → Prop) (x:RReader) (p:QReader):Prop:=∃ (s_b:SV),x = (RReader.mk s_b p.at_ p.place p.e) ∧ LIn L s_b p.b
theorem QReaderIn.mono {L L':World → Prop} {x:RReader} {p:QReader} (h:QReaderIn L x p) (k:∀ w,L' w → L w):QReaderIn L' x p:=by
  obtain ⟨s_b,e,h0⟩:=h
  exact ⟨s_b,e,h0.mono k⟩
structure QCursor where
  b:List UInt8
  at_:Int
  place:Int
  e:Int
deriving DecidableEq
def QCursorIn (L:World → Prop) (x:RCursor) (p:QCursor):Prop:=∃ (s_b:SV),x = (RCursor.mk s_b p.at_ p.place p.e) ∧ LIn L s_b p.b
theorem QCursorIn.mono {L L':World → Prop} {x:RCursor} {p:QCursor} (h:QCursorIn L x p) (k:∀ w,L' w → L w):QCursorIn L' x p:=by
  obtain ⟨s_b,e,h0⟩:=h
  exact ⟨s_b,e,h0.mono k⟩
structure QMemory where
  stack:Vec LSlot 32
  ctx:List UInt8
  tables:List (List UInt8)
  data:List UInt8
  sizes:List LTbl
deriving DecidableEq
def QMemoryIn (L:World → Prop) (x:RMemory) (p:QMemory):Prop:=∃ (s_ctx:SV) (s_tables:SV) (h_tables:List SV) (s_data:SV) (s_sizes:SV),x = (RMemory.mk p.stack s_ctx s_tables s_data s_sizes) ∧ LIn L s_ctx p.ctx ∧ LIn L s_tables h_tables ∧ Each (LIn (X:=UInt8) L) h_tables p.tables ∧ LIn L s_data p.data ∧ LIn L s_sizes p.sizes
theorem QMemoryIn.mono {L L':World → Prop} {x:RMemory} {p:QMemory} (h:QMemoryIn L x p) (k:∀ w,L' w → L w):QMemoryIn L' x p:=by
  obtain ⟨s_ctx,s_tables,h_tables,s_data,s_sizes,e,h0,h1,h2,h3,h4⟩:=h
  exact ⟨s_ctx,s_tables,h_tables,s_data,s_sizes,e,h0.mono k,h1.mono k,h2.mono fun _ _ q=>q.mono k,h3.mono k,h4.mono k⟩
structure QM where
  p:QProgram
  units:List Int
  regs:Vec LVal 11
  cells:Vec LCl 256
  ptrs:List LVal
  ctx:List UInt8
  tables:List (List UInt8)
  sent:List Int
  at_:Int
  steps:Int
  done:Bool
deriving DecidableEq
def QMIn (L:World → Prop) (x:RM) (p:QM):Prop:=∃ (s_p_data:SV) (s_p_tables:SV) (s_p_code:SV) (s_units:SV) (s_ptrs:SV) (s_ctx:SV) (s_tables:SV) (h_tables:List SV) (s_sent:SV),x = (RM.mk (RProgram.mk p.p.lo p.p.hi s_p_data s_p_tables s_p_code) s_units p.regs p.cells s_ptrs s_ctx s_tables s_sent p.at_ p.steps p.done) ∧ LIn L s_p_data p.p.data ∧ LIn L s_p_tables p.p.tables ∧ LIn L s_p_code p.p.code ∧ LIn L s_units p.units ∧ LIn L s_ptrs p.ptrs ∧ LIn L s_ctx p.ctx ∧ LIn L s_tables h_tables ∧ Each (LIn (X:=UInt8) L) h_tables p.tables ∧ LIn L s_sent p.sent
theorem QMIn.mono {L L':World → Prop} {x:RM} {p:QM} (h:QMIn L x p) (k:∀ w,L' w → L w):QMIn L' x p:=by
  obtain ⟨s_p_data,s_p_tables,s_p_code,s_units,s_ptrs,s_ctx,s_tables,h_tables,s_sent,e,h0,h1,h2,h3,h4,h5,h6,h7,h8⟩:=h
  exact ⟨s_p_data,s_p_tables,s_p_code,s_units,s_ptrs,s_ctx,s_tables,h_tables,s_sent,e,h0.mono k,h1.mono k,h2.mono k,h3.mono k,h4.mono k,h5.mono k,h6.mono k,h7.mono fun _ _ q=>q.mono k,h8.mono k⟩
structure QSig where
  args:List Int
  ret:LSpan
deriving DecidableEq
def QSigIn (L:World → Prop) (x:RSig) (p:QSig):Prop:=∃ (s_args:SV),x = (RSig.mk s_args p.ret) ∧ LIn L s_args p.args
theorem QSigIn.mono {L L':World → Prop} {x:RSig} {p:QSig} (h:QSigIn L x p) (k:∀ w,L' w → L w):QSigIn L' x p:=by
  obtain ⟨s_args,e,h0⟩:=h
  exact ⟨s_args,e,h0.mono k⟩
structure QLender where
  room:List UInt8
deriving DecidableEq
def QLenderIn (L:World → Prop) (x:RLender) (p:QLender):Prop:=∃ (s_room:SV),x = (RLender.mk s_room) ∧ LIn L s_room p.room
theorem QLenderIn.mono {L L':World → Prop} {x:RLender} {p:QLender} (h:QLenderIn L x p) (k:∀ w,L' w → L w):QLenderIn L' x p:=by
  obtain ⟨s_room,e,h0⟩:=h
  exact ⟨s_room,e,h0.mono k⟩
end Go.Fx
end
noncomputable section
namespace Go.Proofs
open Go Go.Fw Go.Fx
set_option maxRecDepth 10000
def Sh.cN:Option Bool:=some true
def Sh.eB (x0:List UInt8):Option (List UInt8):=Fx.app 1 [] x0
def Sh.eA (x0:List Int):Option (List Int):=Fx.app 8 [] x0
def Sh.eS (x0:List (List UInt8)):Option (List (List UInt8)):=Fx.app 24 [] x0
def Sh.cT (x0:List LTurn):Option (List LTurn):=Fx.app 72 [] x0
def Sh.cS (x0:List LCell):Option (List LCell):=Fx.app 104 [] x0
def Sh.cG (x0:List QPiece):Option (List QPiece):=Fx.app 64 [] x0
end Go.Proofs
end
noncomputable section
namespace Go.Proofs
open Go Go.Fw Go.Fx
set_option maxRecDepth 10000
def Sh.aB (x0:QReader) (x1:Int) (x2:Int):Option QReader :=
 (bif (decide (x0.e = 0)) then (some (QReader.mk x0.b x0.at_ x1 x2)) else (some x0))
def Sh.cE (x1:Int) (v40:QReader):Option ((List UInt8 × QReader)) :=
 (bif (!decide (v40.e = 0)) then (some ([],v40)) else ((Fx.slc v40.b (IntKind.i64.wrap ((IntKind.i64.wrap (v40.at_ + x1)) - x1)) (IntKind.i64.wrap (v40.at_ + x1))).bind fun x52=>(some (x52,(QReader.mk v40.b (IntKind.i64.wrap (v40.at_ + x1)) v40.place v40.e)))))
def Sh.aU (x0:QReader) (x1:Int):Option ((List UInt8 × QReader)) :=
 (Fx.seq (bif (decide ((IntKind.i64.wrap ((x0.b.length:Int) - x0.at_)) < x1)) then ((Sh.aB x0 (x0.b.length:Int) 236).bind fun y45=>(some (Sum.inl y45))) else (some (Sum.inl x0))) fun v40=>Sh.cE x1 v40)
def Sh.eK (c1:(List UInt8 × QReader)) (c0:Int) (c2:Int):Option (((Int × Int) ⊕ ((QReader × Int) ⊕ (Int × QReader)))) :=
 (bif (decide (c0 < (c1.1.length:Int))) then ((Fx.get c1.1 c0).bind fun c3=>(Fx.must (decide (0 ≤ (IntKind.i64.wrap (8 * c0)))) (some (Sum.inl ((IntKind.i64.wrap (c0 + 1)),(bor .i64 c2 (shl .i64 (c3.toNat:Int) ((IntKind.i64.wrap (8 * c0))).toNat))))))) else (some (Sum.inr (Sum.inl (c1.2,c2)))))
def Sh.mR (c0:QReader) (c1:Int):Option ((Int × QReader)) :=
 (some (c1,c0))
def Sh.aA (x0:QReader) (x1:Int):Option ((Int × QReader)) :=
 (Fx.seq ((Sh.aU x0 x1).bind fun c4=>(Fx.loop (fun (c2,c3)=>Sh.eK c4 c2 c3) (0,0))) fun (c0,c1)=>Sh.mR c0 c1)
end Go.Proofs
end
noncomputable section
namespace Go.Proofs
open Go Go.Fw Go.Fx
set_option maxRecDepth 10000
def Sh.pM (v7:Bool):Option Bool :=
 (some v7)
def Sh.bG (x0:Int) (x1:Int) (x2:Int):Option Bool :=
 (Fx.seq (bif (decide (x1 ≤ x0)) then (some (Sum.inl (decide (x0 ≤ x2)))) else (some (Sum.inl false))) fun v7=>Sh.pM v7)
def Sh.cA (c0:Int) (c1:List Int):Option (((List Int × Int) ⊕ (List Int ⊕ List Int))) :=
 (some (Sum.inl (c1,(IntKind.i64.wrap (c0 + 1)))))
def Sh.aT (x0:List UInt8) (x1:List UInt8) (c1:List Int) (c0:Int):Option (((List Int × Int) ⊕ (List Int ⊕ List Int))) :=
 (bif (decide (c0 < (x0.length:Int))) then (Fx.seq ((Fx.get x0 c0).bind fun c3=>((Fx.get x1 c0).bind fun c4=>(bif (!decide ((c3.toNat:Int) = (c4.toNat:Int))) then ((Fx.app 8 c1 [c0]).bind fun c5=>(some (Sum.inl c5))) else (some (Sum.inl c1))))) fun c2=>Sh.cA c0 c2) else (some (Sum.inr (Sum.inl c1))))
def Sh.nO (c0:List Int):Option (List Int) :=
 (some c0)
def Sh.cH (x0:List UInt8) (x1:List UInt8):Option (List Int) :=
 (Fx.seq (Fx.loop (fun (c1,c2)=>Sh.aT x0 x1 c1 c2) ([],0)) fun c0=>Sh.nO c0)
def Sh.aW (c1:Int) (c0:QPiece) (c2:Int) (c3:Bool):Option (((Int × Int × Int) ⊕ (Unit ⊕ Bool))) :=
 (bif c3 then (some (Sum.inr (Sum.inr false))) else (some (Sum.inl ((IntKind.i64.wrap (c1 + 1)),c2,(IntKind.i64.wrap ((IntKind.i64.wrap (c0.from_ + (c0.old.length:Int))) + 1))))))
def Sh.cC (c1:Int) (c0:QPiece) (c2:Int) (c3:Int):Option (((Int × Int × Int) ⊕ (Unit ⊕ Bool))) :=
 (Fx.seq (bif (decide ((c0.old.length:Int) = 0)) then (some (Sum.inl true)) else (bif (!decide ((c0.new.length:Int) = (c0.old.length:Int))) then (some (Sum.inl true)) else (bif (decide (65535 < (c0.old.length:Int))) then (some (Sum.inl true)) else ((Sh.bG c0.from_ c3 (IntKind.i64.wrap (65535 - (c0.old.length:Int)))).bind fun c5=>(bif (!c5) then (some (Sum.inl true)) else ((Sh.cH c0.old c0.new).bind fun c6=>(some (Sum.inl (decide ((c6.length:Int) < (c0.old.length:Int))))))))))) fun c4=>Sh.aW c1 c0 c2 c4)
def Sh.aK (x0:List QPiece) (c1:Int) (c2:Int) (c3:Int):Option (((Int × Int × Int) ⊕ (Unit ⊕ Bool))) :=
 (bif (decide (c1 < (x0.length:Int))) then ((Fx.get x0 c1).bind fun c0=>(Fx.seq ((Sh.bG c0.table c2 7).bind fun c6=>(bif (!c6) then (some (Sum.inr (Sum.inr (Sum.inr false)))) else (bif (decide (c2 < c0.table)) then (some (Sum.inl (c0.table,0))) else (some (Sum.inl (c2,c3)))))) fun (c4,c5)=>Sh.cC c1 c0 c4 c5)) else (some (Sum.inr (Sum.inl ()))))
def Sh.kQ:Option Bool :=
 (some true)
def Sh.dX (x0:List QPiece):Option Bool :=
 (Fx.seq (Fx.loop (fun (c0,c1,c2)=>Sh.aK x0 c0 c1 c2) (0,(-1),0)) fun _=>Sh.kQ)
def Sh.nR (c0:Int) (c2:LTurn) (c1:Bool):Option (((Int × Int) ⊕ (Unit ⊕ Bool))) :=
 (bif c1 then (some (Sum.inr (Sum.inr false))) else (some (Sum.inl ((IntKind.i64.wrap (c0 + 1)),c2.reg))))
def Sh.bI (x0:QMark) (c1:Int) (c2:Int):Option (((Int × Int) ⊕ (Unit ⊕ Bool))) :=
 (bif (decide (c1 < (x0.regs.length:Int))) then ((Fx.get x0.regs c1).bind fun c0=>(Fx.seq ((Sh.bG c0.reg (IntKind.i64.wrap (c2 + 1)) 10).bind fun c4=>(bif (!c4) then (some (Sum.inl true)) else (some (Sum.inl (decide (c0.old = c0.new)))))) fun c3=>Sh.nR c1 c0 c3)) else (some (Sum.inr (Sum.inl ()))))
def Sh.nS (c0:Int) (c2:LCell) (c1:Bool):Option (((Int × Int) ⊕ (Unit ⊕ Bool))) :=
 (bif c1 then (some (Sum.inr (Sum.inr false))) else (some (Sum.inl (c2.slot,(IntKind.i64.wrap (c0 + 1))))))
def Sh.bJ (x0:QMark) (c2:Int) (c1:Int):Option (((Int × Int) ⊕ (Unit ⊕ Bool))) :=
 (bif (decide (c1 < (x0.slots.length:Int))) then ((Fx.get x0.slots c1).bind fun c0=>(Fx.seq ((Sh.bG c0.slot (IntKind.i64.wrap (c2 + 1)) 31).bind fun c4=>(bif (!c4) then (some (Sum.inl true)) else (some (Sum.inl (decide (c0.old = c0.new)))))) fun c3=>Sh.nS c1 c0 c3)) else (some (Sum.inr (Sum.inl ()))))
def Sh.cX (x0:QMark):Option Bool :=
 ((Sh.dX x0.pieces).bind fun c0=>(some c0))
def Sh.cW (x0:QMark):Option Bool :=
 (Fx.seq (Fx.loop (fun (c0,c1)=>Sh.bJ x0 c0 c1) ((-1),0)) fun _=>Sh.cX x0)
def Sh.cV (x0:QMark) (c0:Bool):Option Bool :=
 (bif c0 then (some false) else (Fx.seq (Fx.loop (fun (c1,c2)=>Sh.bI x0 c1 c2) (0,(-1))) fun _=>Sh.cW x0))
def Sh.cI (x0:QMark):Option Bool :=
 (Fx.seq ((Sh.bG x0.at_ 0 4095).bind fun c1=>(bif (!c1) then (some (Sum.inl true)) else ((Sh.bG x0.next 0 4095).bind fun c2=>(bif (!c2) then (some (Sum.inl true)) else (some (Sum.inl (decide (1 < (x0.sent.length:Int))))))))) fun c0=>Sh.cV x0 c0)
def Sh.lZ (c0:Int) (c1:Bool):Option ((Int ⊕ (Unit ⊕ (Int ⊕ (Bool ⊕ (Bool ⊕ (Bool ⊕ (Bool ⊕ Bool)))))))) :=
 (bif c1 then (some (Sum.inr (Sum.inr (Sum.inl c0)))) else (some (Sum.inl (IntKind.i64.wrap (c0 + 1)))))
def Sh.eP (x0:QState) (c0:Int):Option ((Int ⊕ (Unit ⊕ (Int ⊕ (Bool ⊕ (Bool ⊕ (Bool ⊕ (Bool ⊕ Bool)))))))) :=
 (bif (decide (c0 < (x0.tables.length:Int))) then ((Fx.get x0.tables c0).bind fun c2=>(Fx.seq (some (Sum.inl (decide (65535 < (c2.length:Int))))) fun c1=>Sh.lZ c0 c1)) else (some (Sum.inr (Sum.inl ()))))
def Sh.oV:Option ((Int ⊕ (Bool ⊕ (Bool ⊕ (Bool ⊕ (Bool ⊕ Bool)))))) :=
 (some (Sum.inl (-1)))
def Sh.lY (c0:Int):Option ((Bool ⊕ (Bool ⊕ (Bool ⊕ (Bool ⊕ Bool))))) :=
 (some (Sum.inl (decide (0 ≤ c0))))
def Sh.lX (c0:Bool):Option ((Bool ⊕ (Bool ⊕ (Bool ⊕ Bool)))) :=
 (some (Sum.inl (!c0)))
def Sh.gI (x0:QState) (c0:Bool):Option ((Bool ⊕ (Bool ⊕ (Bool ⊕ Bool)))) :=
 (bif (!c0) then (bif (decide ((x0.tables.length:Int) ≤ 8)) then (Fx.seq (Fx.seq (Fx.seq (Fx.loop (fun c3=>Sh.eP x0 c3) 0) fun _=>Sh.oV) fun c2=>Sh.lY c2) fun c1=>Sh.lX c1) else (some (Sum.inl false))) else (some (Sum.inl false)))
def Sh.gK (c0:Bool):Option ((Bool ⊕ (Bool ⊕ Bool))) :=
 (some (Sum.inl c0))
def Sh.gH (c0:Bool):Option ((Bool ⊕ Bool)) :=
 (some (Sum.inl c0))
def Sh.gJ (c0:Bool):Option Bool :=
 (some c0)
def Sh.gR (x0:QState):Option Bool :=
 (Fx.seq ((Sh.bG x0.at_ 0 4095).bind fun c4=>(bif c4 then ((Sh.bG x0.steps 0 4294967296).bind fun c5=>(bif c5 then (Fx.seq (Fx.seq (Fx.seq (some (Sum.inl (decide (65535 < (x0.ctx.length:Int))))) fun c2=>Sh.gI x0 c2) fun c1=>Sh.gK c1) fun c0=>Sh.gH c0) else (some (Sum.inl false)))) else (some (Sum.inl false)))) fun c3=>Sh.gJ c3)
def Sh.nP (x0:QState) (x1:Int):Option ((List UInt8 × Bool)) :=
 (bif (decide (x1 < 0)) then (some (x0.ctx,true)) else (bif (decide (x1 < (x0.tables.length:Int))) then ((Fx.get x0.tables x1).bind fun x22=>(some (x22,true))) else (some ([],false))))
def Sh.mC (x0:QState) (x1:QMark) (c0:Int):Option ((Int ⊕ (Unit ⊕ Bool))) :=
 (bif (decide (c0 < (x1.regs.length:Int))) then ((Fx.get x1.regs c0).bind fun c1=>((Fx.get x0.regs.l c1.reg).bind fun c2=>(bif (!(decide (c2 = c1.old))) then (some (Sum.inr (Sum.inr false))) else (some (Sum.inl (IntKind.i64.wrap (c0 + 1))))))) else (some (Sum.inr (Sum.inl ()))))
def Sh.mD (x0:QState) (x1:QMark) (c0:Int):Option ((Int ⊕ (Unit ⊕ Bool))) :=
 (bif (decide (c0 < (x1.slots.length:Int))) then ((Fx.get x1.slots c0).bind fun c1=>((Fx.get x0.stack.l c1.slot).bind fun c2=>(bif (!(decide (c2 = c1.old))) then (some (Sum.inr (Sum.inr false))) else (some (Sum.inl (IntKind.i64.wrap (c0 + 1))))))) else (some (Sum.inr (Sum.inl ()))))
def Sh.rX (c0:Bool):Option ((Bool ⊕ (Int ⊕ (Unit ⊕ Bool)))) :=
 (some (Sum.inl (!c0)))
def Sh.oK (c0:Int) (c1:Bool):Option ((Int ⊕ (Unit ⊕ Bool))) :=
 (bif c1 then (some (Sum.inr (Sum.inr false))) else (some (Sum.inl (IntKind.i64.wrap (c0 + 1)))))
def Sh.mE (x0:QState) (x1:QMark) (c1:Int):Option ((Int ⊕ (Unit ⊕ Bool))) :=
 (bif (decide (c1 < (x1.pieces.length:Int))) then ((Fx.get x1.pieces c1).bind fun c0=>((Sh.nP x0 c0.table).bind fun c2=>(Fx.seq (bif (!c2.2) then (some (Sum.inl true)) else (bif (decide ((c2.1.length:Int) < (IntKind.i64.wrap (c0.from_ + (c0.old.length:Int))))) then (some (Sum.inl true)) else ((Fx.slc c2.1 c0.from_ (IntKind.i64.wrap (c0.from_ + (c0.old.length:Int)))).bind fun c5=>(Fx.seq (some (Sum.inl (decide (c5 = c0.old)))) fun c4=>Sh.rX c4)))) fun c3=>Sh.oK c1 c3))) else (some (Sum.inr (Sum.inl ()))))
def Sh.sA (x0:QState) (x1:QMark):Option Bool :=
 (some (decide (x0.at_ = x1.at_)))
def Sh.rZ (x0:QState) (x1:QMark):Option Bool :=
 (Fx.seq (Fx.loop (fun c0=>Sh.mE x0 x1 c0) 0) fun _=>Sh.sA x0 x1)
def Sh.rY (x0:QState) (x1:QMark):Option Bool :=
 (Fx.seq (Fx.loop (fun c0=>Sh.mD x0 x1 c0) 0) fun _=>Sh.rZ x0 x1)
def Sh.qK (x0:QState) (x1:QMark):Option Bool :=
 (Fx.seq (Fx.loop (fun c0=>Sh.mC x0 x1 c0) 0) fun _=>Sh.rY x0 x1)
end Go.Proofs
end
noncomputable section
namespace Go.Proofs
open Go Go.Fw Go.Fx
set_option maxRecDepth 10000
def Sh.aL (x0:QCursor) (x1:Int) (x2:Int):Option QCursor :=
 (bif (decide (x0.e = 0)) then (some (QCursor.mk x0.b x0.at_ x1 x2)) else (some x0))
def Sh.dH (x0:QCursor) (c0:Bool):Option ((QCursor ⊕ (Int × QCursor))) :=
 (bif c0 then ((Sh.aL x0 (x0.b.length:Int) 236).bind fun c1=>(some (Sum.inl c1))) else (some (Sum.inl x0)))
def Sh.eJ (c1:QCursor) (c2:Int) (c0:Int):Option (((Int × Int) ⊕ (Int ⊕ (Int × QCursor)))) :=
 (bif (decide (0 ≤ c0)) then ((Fx.get c1.b (IntKind.i64.wrap (c1.at_ + c0))).bind fun c3=>(some (Sum.inl ((IntKind.u64.wrap ((IntKind.u64.wrap (c2 * 256)) + (c3.toNat:Int))),(IntKind.i64.wrap (c0 - 1)))))) else (some (Sum.inr (Sum.inl c2))))
def Sh.iT (x1:Int) (c0:QCursor) (c1:Int):Option ((Int × QCursor)) :=
 (some ((IntKind.i64.wrap c1),(QCursor.mk c0.b (IntKind.i64.wrap (c0.at_ + x1)) c0.place c0.e)))
def Sh.dG (x1:Int) (c0:QCursor):Option ((Int × QCursor)) :=
 (bif (!decide (c0.e = 0)) then (some (0,c0)) else (Fx.seq (Fx.loop (fun (c2,c3)=>Sh.eJ c0 c2 c3) (0,(IntKind.i64.wrap (x1 - 1)))) fun c1=>Sh.iT x1 c0 c1))
def Sh.aC (x0:QCursor) (x1:Int):Option ((Int × QCursor)) :=
 (Fx.seq (Fx.seq (bif (decide (x0.e = 0)) then (some (Sum.inl (decide ((x0.b.length:Int) < (IntKind.i64.wrap (x0.at_ + x1)))))) else (some (Sum.inl false))) fun c1=>Sh.dH x0 c1) fun c0=>Sh.dG x1 c0)
end Go.Proofs
end
noncomputable section
namespace Go.Proofs
open Go Go.Fw Go.Fx
set_option maxRecDepth 10000
def Sh.pC (v7:Bool):Option Bool :=
 (some v7)
def Sh.bV (x0:Int) (x1:Int) (x2:Int):Option Bool :=
 (Fx.seq (bif (decide (x1 ≤ x0)) then (some (Sum.inl (decide (x0 ≤ x2)))) else (some (Sum.inl false))) fun v7=>Sh.pC v7)
def Sh.eO (x0:QInput) (c0:Int):Option ((Int ⊕ (Unit ⊕ Bool))) :=
 (bif (decide (c0 < (x0.tables.length:Int))) then ((Fx.get x0.tables c0).bind fun c1=>(bif (decide (65535 < (c1.length:Int))) then (some (Sum.inr (Sum.inr false))) else (some (Sum.inl (IntKind.i64.wrap (c0 + 1)))))) else (some (Sum.inr (Sum.inl ()))))
def Sh.oU:Option Bool :=
 (some true)
def Sh.gG (x0:QInput) (v84:Bool):Option Bool :=
 (bif v84 then (some false) else (Fx.seq (Fx.loop (fun c0=>Sh.eO x0 c0) 0) fun _=>Sh.oU))
def Sh.gQ (x0:QInput):Option Bool :=
 (Fx.seq (bif (decide (65535 < (x0.ctx.length:Int))) then (some (Sum.inl true)) else (some (Sum.inl (decide (8 < (x0.tables.length:Int)))))) fun v84=>Sh.gG x0 v84)
def Sh.lW (v50:Bool):Option Bool :=
 (some v50)
def Sh.fG (x0:QState):Option Bool :=
 (Fx.seq ((Sh.bV x0.at_ 0 4095).bind fun y52=>(bif y52 then ((Sh.bV x0.steps 0 4294967296).bind fun y55=>(bif y55 then ((Sh.gQ (QInput.mk x0.ctx x0.tables)).bind fun y58=>(some (Sum.inl y58))) else (some (Sum.inl false)))) else (some (Sum.inl false)))) fun v50=>Sh.lW v50)
def Sh.gE (c1:QPiece) (c0:Int):Option ((Int ⊕ (Unit ⊕ (Unit ⊕ (Int ⊕ (Unit ⊕ Bool)))))) :=
 (bif (decide (c0 < (c1.old.length:Int))) then ((Fx.get c1.old c0).bind fun c2=>((Fx.get c1.new c0).bind fun c3=>(bif (decide ((c2.toNat:Int) = (c3.toNat:Int))) then (some (Sum.inr (Sum.inr (Sum.inr (Sum.inr (Sum.inr false)))))) else (some (Sum.inl (IntKind.i64.wrap (c0 + 1))))))) else (some (Sum.inr (Sum.inl ()))))
def Sh.hN (c0:Bool):Option ((Unit ⊕ (Int ⊕ (Unit ⊕ Bool)))) :=
 (bif c0 then (some (Sum.inr (Sum.inr (Sum.inr false)))) else (some (Sum.inl ())))
def Sh.mJ (x0:List QPiece) (c2:Int) (c1:QPiece):Option ((Unit ⊕ (Int ⊕ (Unit ⊕ Bool)))) :=
 (bif (decide (c2 = 0)) then (some (Sum.inl ())) else ((Fx.get x0 (IntKind.i64.wrap (c2 - 1))).bind fun c0=>(Fx.seq (bif (decide (c1.table < c0.table)) then (some (Sum.inl true)) else (bif (decide (c1.table = c0.table)) then (some (Sum.inl (decide (c1.from_ ≤ (IntKind.i64.wrap (c0.from_ + (c0.old.length:Int))))))) else (some (Sum.inl false)))) fun c3=>Sh.hN c3)))
def Sh.bL (x0:List QPiece) (c3:Int) (c0:QPiece) (c1:Bool):Option ((Unit ⊕ (Int ⊕ (Unit ⊕ Bool)))) :=
 (bif c1 then (some (Sum.inr (Sum.inr (Sum.inr false)))) else (Fx.seq (Fx.loop (fun c2=>Sh.gE c0 c2) 0) fun _=>Sh.mJ x0 c3 c0))
def Sh.gD (c0:Int):Option ((Int ⊕ (Unit ⊕ Bool))) :=
 (some (Sum.inl (IntKind.i64.wrap (c0 + 1))))
def Sh.eR (x0:List QPiece) (c1:Int):Option ((Int ⊕ (Unit ⊕ Bool))) :=
 (bif (decide (c1 < (x0.length:Int))) then (Fx.seq ((Fx.get x0 c1).bind fun c0=>(Fx.seq ((Sh.bV c0.table (-1) 7).bind fun c3=>(bif (!c3) then (some (Sum.inl true)) else ((Sh.bV c0.from_ 0 65535).bind fun c4=>(bif (!c4) then (some (Sum.inl true)) else (bif (!decide ((c0.old.length:Int) = (c0.new.length:Int))) then (some (Sum.inl true)) else (bif (decide ((c0.old.length:Int) = 0)) then (some (Sum.inl true)) else (some (Sum.inl (decide (65535 < (IntKind.i64.wrap (c0.from_ + (c0.old.length:Int))))))))))))) fun c2=>Sh.bL x0 c1 c0 c2)) fun _=>Sh.gD c1) else (some (Sum.inr (Sum.inl ()))))
def Sh.sQ:Option Bool :=
 (some true)
def Sh.pO (x0:List QPiece):Option Bool :=
 (Fx.seq (Fx.loop (fun c0=>Sh.eR x0 c0) 0) fun _=>Sh.sQ)
def Sh.pX (c0:Int) (c1:Bool):Option ((Int ⊕ (Unit ⊕ Bool))) :=
 (bif c1 then (some (Sum.inr (Sum.inr false))) else (some (Sum.inl (IntKind.i64.wrap (c0 + 1)))))
def Sh.fL (x0:QMark) (c0:Int):Option ((Int ⊕ (Unit ⊕ Bool))) :=
 (bif (decide (c0 < (x0.regs.length:Int))) then ((Fx.get x0.regs c0).bind fun c1=>(Fx.seq ((Sh.bV c1.reg 0 10).bind fun c4=>(bif (!c4) then (some (Sum.inl true)) else (bif (decide (c1.old = c1.new)) then (some (Sum.inl true)) else (bif (decide (0 < c0)) then ((Fx.get x0.regs (IntKind.i64.wrap (c0 - 1))).bind fun c3=>(some (Sum.inl (decide (c1.reg ≤ c3.reg))))) else (some (Sum.inl false)))))) fun c2=>Sh.pX c0 c2)) else (some (Sum.inr (Sum.inl ()))))
def Sh.pY (c0:Int) (c1:Bool):Option ((Int ⊕ (Unit ⊕ Bool))) :=
 (bif c1 then (some (Sum.inr (Sum.inr false))) else (some (Sum.inl (IntKind.i64.wrap (c0 + 1)))))
def Sh.fM (x0:QMark) (c0:Int):Option ((Int ⊕ (Unit ⊕ Bool))) :=
 (bif (decide (c0 < (x0.slots.length:Int))) then ((Fx.get x0.slots c0).bind fun c1=>(Fx.seq ((Sh.bV c1.slot 0 31).bind fun c4=>(bif (!c4) then (some (Sum.inl true)) else (bif (decide (c1.old = c1.new)) then (some (Sum.inl true)) else (bif (decide (0 < c0)) then ((Fx.get x0.slots (IntKind.i64.wrap (c0 - 1))).bind fun c3=>(some (Sum.inl (decide (c1.slot ≤ c3.slot))))) else (some (Sum.inl false)))))) fun c2=>Sh.pY c0 c2)) else (some (Sum.inr (Sum.inl ()))))
def Sh.nC (x0:QMark):Option Bool :=
 ((Sh.pO x0.pieces).bind fun c0=>(some c0))
def Sh.nB (x0:QMark):Option Bool :=
 (Fx.seq (Fx.loop (fun c0=>Sh.fM x0 c0) 0) fun _=>Sh.nC x0)
def Sh.nA (x0:QMark) (c1:Bool):Option Bool :=
 (bif c1 then (some false) else (Fx.seq (Fx.loop (fun c0=>Sh.fL x0 c0) 0) fun _=>Sh.nB x0))
def Sh.iR (x0:QMark):Option Bool :=
 (Fx.seq ((Sh.bV x0.at_ 0 4095).bind fun c1=>(bif (!c1) then (some (Sum.inl true)) else ((Sh.bV x0.next 0 4095).bind fun c2=>(bif (!c2) then (some (Sum.inl true)) else (some (Sum.inl (decide (1 < (x0.sent.length:Int))))))))) fun c0=>Sh.nA x0 c0)
end Go.Proofs
end
noncomputable section
namespace Go.Proofs
open Go Go.Fw Go.Fx
set_option maxRecDepth 10000
def Sh.aV (x0:List UInt8) (x1:List UInt8):Option Bool :=
 (some (decide (x0 = x1)))
def Sh.dP (x0:List Int) (x1:List Int) (c0:Int):Option ((Int ⊕ (Unit ⊕ Bool))) :=
 (bif (decide (c0 < (x0.length:Int))) then ((Fx.get x0 c0).bind fun c1=>((Fx.get x1 c0).bind fun c2=>(bif (!decide (c1 = c2)) then (some (Sum.inr (Sum.inr false))) else (some (Sum.inl (IntKind.i64.wrap (c0 + 1))))))) else (some (Sum.inr (Sum.inl ()))))
def Sh.mT:Option Bool :=
 (some true)
def Sh.gT (x0:List Int) (x1:List Int):Option Bool :=
 (bif (!decide ((x0.length:Int) = (x1.length:Int))) then (some false) else (Fx.seq (Fx.loop (fun c0=>Sh.dP x0 x1 c0) 0) fun _=>Sh.mT))
def Sh.bA (x0:List UInt8):Option (List UInt8) :=
 ((Fx.app 1 [] x0).bind fun x10=>(some x10))
def Sh.fK (x0:List Int):Option (List Int) :=
 ((Fx.app 8 [] x0).bind fun x10=>(some x10))
def Sh.dQ (x0:List (List UInt8)) (x1:List (List UInt8)) (c0:Int):Option ((Int ⊕ (Unit ⊕ Bool))) :=
 (bif (decide (c0 < (x0.length:Int))) then ((Fx.get x0 c0).bind fun c1=>((Fx.get x1 c0).bind fun c2=>((Sh.aV c1 c2).bind fun c3=>(bif (!c3) then (some (Sum.inr (Sum.inr false))) else (some (Sum.inl (IntKind.i64.wrap (c0 + 1)))))))) else (some (Sum.inr (Sum.inl ()))))
def Sh.mU:Option Bool :=
 (some true)
def Sh.gU (x0:List (List UInt8)) (x1:List (List UInt8)):Option Bool :=
 (bif (!decide ((x0.length:Int) = (x1.length:Int))) then (some false) else (Fx.seq (Fx.loop (fun c0=>Sh.dQ x0 x1 c0) 0) fun _=>Sh.mU))
def Sh.gS (v39:Bool):Option Bool :=
 (some v39)
def Sh.hG (x0:QInput) (x1:QInput):Option Bool :=
 (Fx.seq ((Sh.aV x0.ctx x1.ctx).bind fun y41=>(bif y41 then ((Sh.gU x0.tables x1.tables).bind fun y44=>(some (Sum.inl y44))) else (some (Sum.inl false)))) fun v39=>Sh.gS v39)
def Sh.mG (v83:Bool):Option Bool :=
 (some v83)
def Sh.bE (x0:QState) (x1:QState):Option Bool :=
 (Fx.seq (bif (decide (x0.regs = x1.regs)) then (bif (decide (x0.stack = x1.stack)) then ((Sh.aV x0.ctx x1.ctx).bind fun y87=>(bif y87 then ((Sh.gU x0.tables x1.tables).bind fun y90=>(bif y90 then ((Sh.gT x0.sent x1.sent).bind fun y93=>(bif y93 then (bif (decide (x0.at_ = x1.at_)) then (bif (decide (x0.steps = x1.steps)) then (some (Sum.inl (decide (x0.done = x1.done)))) else (some (Sum.inl false))) else (some (Sum.inl false))) else (some (Sum.inl false)))) else (some (Sum.inl false)))) else (some (Sum.inl false)))) else (some (Sum.inl false))) else (some (Sum.inl false))) fun v83=>Sh.mG v83)
def Sh.dS (x0:QMark) (x1:QMark) (c0:Int):Option ((Int ⊕ (Unit ⊕ Bool))) :=
 (bif (decide (c0 < (x0.regs.length:Int))) then ((Fx.get x0.regs c0).bind fun c1=>((Fx.get x1.regs c0).bind fun c2=>(bif (!(decide (c1 = c2))) then (some (Sum.inr (Sum.inr false))) else (some (Sum.inl (IntKind.i64.wrap (c0 + 1))))))) else (some (Sum.inr (Sum.inl ()))))
def Sh.dT (x0:QMark) (x1:QMark) (c0:Int):Option ((Int ⊕ (Unit ⊕ Bool))) :=
 (bif (decide (c0 < (x0.slots.length:Int))) then ((Fx.get x0.slots c0).bind fun c1=>((Fx.get x1.slots c0).bind fun c2=>(bif (!(decide (c1 = c2))) then (some (Sum.inr (Sum.inr false))) else (some (Sum.inl (IntKind.i64.wrap (c0 + 1))))))) else (some (Sum.inr (Sum.inl ()))))
def Sh.dR (c0:Int) (c1:Bool):Option ((Int ⊕ (Unit ⊕ Bool))) :=
 (bif c1 then (some (Sum.inr (Sum.inr false))) else (some (Sum.inl (IntKind.i64.wrap (c0 + 1)))))
def Sh.dU (x0:QMark) (x1:QMark) (c0:Int):Option ((Int ⊕ (Unit ⊕ Bool))) :=
 (bif (decide (c0 < (x0.pieces.length:Int))) then ((Fx.get x0.pieces c0).bind fun c1=>((Fx.get x1.pieces c0).bind fun c2=>(Fx.seq (bif (!decide (c1.table = c2.table)) then (some (Sum.inl true)) else (bif (!decide (c1.from_ = c2.from_)) then (some (Sum.inl true)) else ((Sh.aV c1.old c2.old).bind fun c4=>(bif (!c4) then (some (Sum.inl true)) else ((Sh.aV c1.new c2.new).bind fun c5=>(some (Sum.inl (!c5)))))))) fun c3=>Sh.dR c0 c3))) else (some (Sum.inr (Sum.inl ()))))
def Sh.qU:Option Bool :=
 (some true)
def Sh.hW (x0:QMark) (x1:QMark):Option Bool :=
 (Fx.seq (Fx.loop (fun c0=>Sh.dU x0 x1 c0) 0) fun _=>Sh.qU)
def Sh.hV (x0:QMark) (x1:QMark):Option Bool :=
 (Fx.seq (Fx.loop (fun c0=>Sh.dT x0 x1 c0) 0) fun _=>Sh.hW x0 x1)
def Sh.bH (x0:QMark) (x1:QMark) (c1:Bool):Option Bool :=
 (bif c1 then (some false) else (Fx.seq (Fx.loop (fun c0=>Sh.dS x0 x1 c0) 0) fun _=>Sh.hV x0 x1))
def Sh.cK (x0:QMark) (x1:QMark):Option Bool :=
 (Fx.seq (bif (!decide (x0.at_ = x1.at_)) then (some (Sum.inl true)) else (bif (!decide (x0.next = x1.next)) then (some (Sum.inl true)) else (bif (!(decide (x0.done = x1.done))) then (some (Sum.inl true)) else (bif (!decide ((x0.regs.length:Int) = (x1.regs.length:Int))) then (some (Sum.inl true)) else (bif (!decide ((x0.slots.length:Int) = (x1.slots.length:Int))) then (some (Sum.inl true)) else (bif (!decide ((x0.pieces.length:Int) = (x1.pieces.length:Int))) then (some (Sum.inl true)) else ((Sh.gT x0.sent x1.sent).bind fun c0=>(some (Sum.inl (!c0)))))))))) fun c1=>Sh.bH x0 x1 c1)
def Sh.cM (x0:QRecord) (x1:QRecord) (c0:Int):Option ((Int ⊕ (Unit ⊕ Bool))) :=
 (bif (decide (c0 < (x0.marks.length:Int))) then ((Fx.get x0.marks c0).bind fun c1=>((Fx.get x1.marks c0).bind fun c2=>((Sh.cK c1 c2).bind fun c3=>(bif (!c3) then (some (Sum.inr (Sum.inr false))) else (some (Sum.inl (IntKind.i64.wrap (c0 + 1)))))))) else (some (Sum.inr (Sum.inl ()))))
def Sh.oT:Option Bool :=
 (some true)
def Sh.cL (x0:QRecord) (x1:QRecord) (c1:Bool):Option Bool :=
 (bif c1 then (some false) else (Fx.seq (Fx.loop (fun c0=>Sh.cM x0 x1 c0) 0) fun _=>Sh.oT))
def Sh.bO (x0:QRecord) (x1:QRecord):Option Bool :=
 (Fx.seq (bif (!decide (x0.end_ = x1.end_)) then (some (Sum.inl true)) else (bif (!decide ((x0.marks.length:Int) = (x1.marks.length:Int))) then (some (Sum.inl true)) else ((Sh.hG x0.in_ x1.in_).bind fun c1=>(some (Sum.inl (!c1)))))) fun c0=>Sh.cL x0 x1 c0)
end Go.Proofs
end
noncomputable section
namespace Go.Proofs
open Go Go.Fw Go.Fx
set_option maxRecDepth 10000
def Sh.iV (c0:Int) (c1:Bool):Option ((Int ⊕ (Unit ⊕ (Int ⊕ (Bool ⊕ (Bool ⊕ Bool)))))) :=
 (bif c1 then (some (Sum.inr (Sum.inr (Sum.inl c0)))) else (some (Sum.inl (IntKind.i64.wrap (c0 + 1)))))
def Sh.bW (x0:QInput) (c0:Int):Option ((Int ⊕ (Unit ⊕ (Int ⊕ (Bool ⊕ (Bool ⊕ Bool)))))) :=
 (bif (decide (c0 < (x0.tables.length:Int))) then ((Fx.get x0.tables c0).bind fun c2=>(Fx.seq (some (Sum.inl (decide (65535 < (c2.length:Int))))) fun c1=>Sh.iV c0 c1)) else (some (Sum.inr (Sum.inl ()))))
def Sh.pR:Option ((Int ⊕ (Bool ⊕ (Bool ⊕ Bool)))) :=
 (some (Sum.inl (-1)))
def Sh.mP (c0:Int):Option ((Bool ⊕ (Bool ⊕ Bool))) :=
 (some (Sum.inl (decide (0 ≤ c0))))
def Sh.mO (c0:Bool):Option ((Bool ⊕ Bool)) :=
 (some (Sum.inl (!c0)))
def Sh.fH (x0:QInput) (c0:Bool):Option ((Bool ⊕ Bool)) :=
 (bif (!c0) then (bif (decide ((x0.tables.length:Int) ≤ 8)) then (Fx.seq (Fx.seq (Fx.seq (Fx.loop (fun c3=>Sh.bW x0 c3) 0) fun _=>Sh.pR) fun c2=>Sh.mP c2) fun c1=>Sh.mO c1) else (some (Sum.inl false))) else (some (Sum.inl false)))
def Sh.hB (c0:Bool):Option Bool :=
 (some c0)
def Sh.gF (x0:QInput):Option Bool :=
 (Fx.seq (Fx.seq (some (Sum.inl (decide (65535 < (x0.ctx.length:Int))))) fun c1=>Sh.fH x0 c1) fun c0=>Sh.hB c0)
end Go.Proofs
end
section
namespace Go.Ev
open Go.Fw
def CallOK (P:Program) (w0:World) (env:Env) (call:CallT):Prop :=
  ∀ (I:Ip) (s s':St) (w:World) (g:AV) (vs:List AV) (v:AV),call g vs s = some (v,s') → SR I env w0 s w → okV s.nx g → (∀ u ∈ vs,okV s.nx u) →
    match g with
    | .f f fs cs=>(∀ args w,(callFunc f args).run P w = .ok (.enter f args) w) ∧ Calls P f ((fs ++ vs ++ cs).map I.g).toArray w (Ret (Left I env w0 s s' v))
    | .y l=>∃ f tmps as bd,(Instr.yield (I.sv l).blk (vs.map I.g).toArray).run P w = .ok (.round (I.sv l).blk f tmps as bd) w ∧ RoundIn (Wd none) 0 P (I.sv l).blk f tmps as bd w (Ret (Left I env w0 s s' v))
    | _=>False
section
variable {I:Ip} {env:Env} {n:Nat} {w0 w:World} {s s':St} {F:Fm} {a:Act} {dd:List Deferred} {P:Program}
theorem aF8 {e z:Nat} (h:(tabOf P).small e = true) (hz:(tabOf P).sz e = some z):∃ i zv,P.info? e = some i ∧ i.bytes ≤ 1000000 ∧ i.zero = some zv ∧ zv.cells.size = z ∧ i.size = z:=by
  simp only [tabOf] at h hz
  obtain ⟨i,hi,rfl⟩:=Option.map_eq_some_iff.1 hz
  rw [hi] at h
  simp only [smallI,Bool.and_eq_true] at h
  obtain ⟨h1,h2⟩:=h
  cases hzv:i.zero with
  | none=>simp [hzv] at h2
  | some zv =>
    simp only [hzv] at h2
    exact ⟨i,zv,hi,Nat.le_of_ble_eq_true h1,hzv,Nat.eq_of_beq_eq_true h2,rfl⟩
theorem SR.newRow (h:SR I env w0 s w) {m e z k:Nat} {l:List AV} {sv:SV} {w':World} (hf:fresh s (.row e z k l) = some (m,s')) (hr:Row s.nx (k * z) l) (hz:0 < z) (hA:Added (.row w0.heap.size sv.v e z k (l.map I.g)) w w') :
    Left I env w0 s s' (.row m []) sv.v w':=by
  have hst:=Step.fresh hf
  obtain ⟨e1,e2⟩:=fT hf
  refine ⟨I.with s.nx sv #[],Agree.with _ _ _ _,h.add hf sv ⟨hr.n,hz,hr.one,fun v hv=>gU (Nat.le_succ _) v (hr.ok v hv)⟩ ?_,?_,by rw [e2,e1]; exact Nat.lt_succ_self _,hst,by rw [e2]⟩
  · simp only [res]
    rw [(Agree.with I s.nx _ _).map hr.ok,jW]
    exact hA
  · simp only [Ip.g,gam,List.foldl_nil,e1,jW]
theorem aD5 (h:SR I env w0 s w) (hF:FR I s.nx n F a dd) {call:CallT} {o:Oper} {xs:Array Operand} {ts:Array TypeId} {v:AV} (ho:o.op = .call { callee:=.builtin .append,args:=xs,argTypes:=ts }) (hh:aact (tabOf P) call s F o.op = some (v,s')):Yd P o a.eval w (Left I env w0 s s' v):=by
  rw [ho] at hh
  simp only [aact,Option.bind_eq_bind] at hh
  rw [Option.bind_eq_some_iff] at hh
  obtain ⟨us,hus,hh⟩:=hh
  obtain ⟨h1,h2⟩:=hF.evals hus
  split at hh
  · rename_i x y t t' hts
    split at hh
    · cases hh
    · rename_i htt
      simp only [ne_eq,Decidable.not_not] at htt
      subst htt
      rw [Option.bind_eq_some_iff] at hh
      obtain ⟨d,(hd:P.underlying t = some d),hh⟩:=hh
      cases d <;> simp only at hh <;> try (cases hh; done)
      rename_i e
      rw [Option.bind_eq_some_iff] at hh
      obtain ⟨z,hz,hh⟩:=hh
      rw [Option.bind_eq_some_iff] at hh
      obtain ⟨q,hq,hh⟩:=hh
      split at hh
      · cases hh
      · rename_i hc
        simp only [not_or,Bool.not_eq_false] at hc
        obtain ⟨hc1,hc2,hc3⟩:=hc
        obtain ⟨i,zv,hi,hby,hzv,hzs,hsize⟩:=aF8 hc3 hz
        obtain ⟨sy,hsy,hy,y1,y2⟩:=jR h.gk hq
        have yones:∀ u ∈ q.2.map I.g,u.oneCell' = true:=by
          intro u hu
          obtain ⟨u',hu',rfl⟩:=List.mem_map.1 hu
          exact zL (y1 u' hu')
        have hpos:0 < z:=by omega
        have hxs:xs.map a.eval = #[I.g x,sy.v]:=by
          rw [← Array.toList_inj,Array.toList_map,h1]; simp [hsy]
        have hts':ts = #[t,t]:=by rw [← Array.toList_inj]; simpa using hts
        have fin:∀ {u:Value} {w':World},(Builtin.append_ #[t,t] o.type #[I.g x,sy.v]).run P w = .ok u w' → (execOp a.eval o).run P w = .ok (.value u) w':=by
          intro u w' e
          simp only [execOp,ho,resolve,invoke,builtin,Sem.run_bind,Sem.run_pure,Result.andThen_ok,hxs,hts',e]
        have hrow:∀ (m:Nat) (l:List AV),m ≤ 1000000 → Row s.nx (m * z) l → Row s.nx ((m + q.1) * z) (appR l q.2):=by
          intro m l _ hr
          rw [sW]
          refine ⟨by rw [List.length_append,hr.n,Nat.add_mul]; have:=hy.n; rw [List.length_map] at this; omega,fun u hu=>?_,fun u hu=>?_⟩
          · exact (List.mem_append.1 hu).elim (hr.one u) (y1 u)
          · exact (List.mem_append.1 hu).elim (hr.ok u) (y2 u)
        have hb1:∀ m,m ≤ 1000000 → m + q.1 ≤ maxLen ∧ (m + q.1) * i.bytes ≤ 140737488355328:=by
          intro m hm
          refine ⟨by simp only [maxLen]; omega,?_⟩
          have:(m + q.1) * i.bytes ≤ 2000000 * 1000000:=Nat.mul_le_mul (by omega) hby
          omega
        split at hh
        · -- onto nothing
          split at hh
          · rename_i hq0
            simp only [Option.some.injEq,Prod.mk.injEq] at hh
            obtain ⟨rfl,rfl⟩:=hh
            refine Yd.ok' (v:=I.g .nsl) (w':=w) (fin ?_) ⟨I,Agree.refl _ _,h,rfl,trivial,Step.refl _,rfl⟩
            have hl:=hy.len
            rw [hq0] at hl
            obtain ⟨sa,sl,sc⟩:=sy
            simp only at hl; subst hl
            cases sa <;> simp [gam,Builtin.append_,run_underlying hd,sizeOf,typeInfo,hi,Builtin.lenOf,Builtin.firstCells,loadCells,loadCellsFrom]
          · rename_i hq0
            rw [Option.bind_eq_some_iff] at hh
            obtain ⟨⟨m,s1⟩,hf,hh⟩:=hh
            simp only [Option.some.injEq,Prod.mk.injEq] at hh
            obtain ⟨rfl,rfl⟩:=hh
            obtain ⟨hb2,hb3⟩:=hb1 0 (by omega)
            obtain ⟨sv',w',hr,hU⟩:=aB0 (P:=P) (ty:=o.type) (sv:=SV.nil) (xs:=[]) (m:=0) hd hi hzv hsize hzs hpos (World.ownsRow_nil w w0.heap.size e z) hy yones hb2 hb3 h.size
            refine Yd.ok' (fin hr) (h.newRow hf ⟨?_,y1,y2⟩ hpos ⟨⟨hU.io,hU.size,fun k hk _=>hU.block k hk (by simp [Res.fp,Value.ownBlock])⟩,?_,fun k hk=>?_⟩)
            · have:=hy.n; rwa [List.length_map] at this
            · have:=hU.holds; simpa using this
            · rcases hU.fp k (by simpa [Res.fp] using hk) with h9 | h9
              · simp [Res.fp,Value.ownBlock] at h9
              · exact h9
        · -- onto a slice without room
          rename_i m off len cap
          split at hh
          · cases hh
          · rename_i hlc
            simp only [not_or,Nat.not_le,Nat.not_lt] at hlc
            obtain ⟨hl1,hl2⟩:=hlc
            rw [Option.bind_eq_some_iff] at hh
            obtain ⟨p,hp,hh⟩:=hh
            rw [Option.bind_eq_some_iff] at hh
            obtain ⟨⟨m',s1⟩,hf,hh⟩:=hh
            simp only [Option.some.injEq,Prod.mk.injEq] at hh
            obtain ⟨rfl,rfl⟩:=hh
            obtain ⟨sx,hsx,hx,x1,x2⟩:=jR h.gk hp
            have hsx':sx = ⟨some ⟨(I.sv m).blk,off,none⟩,len,cap⟩:=by
              have e9:(Value.slice (some ⟨(I.sv m).blk,off,none⟩) len cap) = sx.v:=by rw [← hsx]; simp [gam]
              obtain ⟨a1,a2,a3⟩:=sx
              simp only [SV.v,Value.slice.injEq] at e9
              obtain ⟨r1,r2,r3⟩:=e9
              rw [r1,r2,r3]
            have hp1:p.1 = len:=by have:=hx.len; rw [hsx'] at this; exact this.symm
            rw [hp1] at hx
            rw [hsx'] at hx
            obtain ⟨hb2,hb3⟩:=hb1 len hl2
            obtain ⟨sv',w',hr,hA⟩:=app_grow (P:=P) (ty:=o.type) (lo:=w0.heap.size) hd hi hzv hsize hzs hx hy hl1 hb2 hb3 h.size
            have hxr:Row s.nx (len * z) p.2:=⟨by have:=hx.n; rwa [List.length_map] at this,x1,x2⟩
            refine Yd.ok' (v:=sv'.v) (w':=w') (fin ?_) (h.newRow hf (hrow len p.2 hl2 hxr) hpos ?_)
            · rw [show I.g (.sl m off len cap) = .slice (some ⟨(I.sv m).blk,off,none⟩) len cap by simp [gam]]; exact hr
            · rw [sW,List.map_append]; exact hA
        · -- onto a row
          rename_i m
          split at hh
          · rename_i e' z' c l hm
            split at hh
            · rename_i hcc
              obtain ⟨rfl,rfl,hcm⟩:=hcc
              rw [Option.bind_eq_some_iff] at hh
              obtain ⟨⟨m',s1⟩,hf,hh⟩:=hh
              simp only [Option.some.injEq,Prod.mk.injEq] at hh
              obtain ⟨rfl,rfl⟩:=hh
              obtain ⟨hk,hok⟩:=h.ok m _ hm
              have hown:w.ownsRow w0.heap.size e' z' (I.sv m).v c (l.map I.g):=h.holds m _ hm
              obtain ⟨hb2,hb3⟩:=hb1 c hcm
              obtain ⟨sv',w',hr,hU⟩:=aB0 (P:=P) (ty:=o.type) hd hi hzv hsize hzs hpos hown hy yones hb2 hb3 h.size
              have hxr:=hrow c l hcm ⟨hok.1,hok.2.2.1,hok.2.2.2⟩
              have hst:Step s s1:=(Step.wrote s m .dead).trans (Step.fresh hf)
              obtain ⟨e1,e2⟩:=fT hf
              have e1':m' = s.nx:=e1
              refine Yd.ok' (v:=sv'.v) (w':=w') (fin ?_) ⟨I.with s.nx sv' #[],Agree.with _ _ _ _,h.move hm hf sv' ⟨hxr.n,hpos,hxr.one,fun v hv=>gU (Nat.le_succ _) v (hxr.ok v hv)⟩ ?_,?_,by rw [e2,e1']; exact Nat.lt_succ_self _,hst,by rw [e2]; rfl⟩
              · rw [show I.g (.row m []) = (I.sv m).v by simp [gam]]; exact hr
              · simp only [res]
                rw [(Agree.with I s.nx _ _).map hxr.ok,jW,sW,List.map_append]
                exact hU
              · simp only [Ip.g,gam,List.foldl_nil,e1',jW]
            · cases hh
          · cases hh
        · cases hh
  · cases hh
theorem aIw (h:SR I env w0 s w) (hF:FR I s.nx n F a dd) {call:CallT} (hC:CallOK P w0 env call) {o:Oper} {x:Operand} {xs:Array Operand} {ts:Array TypeId} {v:AV} (ho:o.op = .call { callee:=.value x,args:=xs,argTypes:=ts }) (hh:aact (tabOf P) call s F o.op = some (v,s')):Yd P o a.eval w (Left I env w0 s s' v):=by
  rw [ho] at hh
  simp only [aact,Option.bind_eq_bind] at hh
  rw [Option.bind_eq_some_iff] at hh
  obtain ⟨g,hg,hh⟩:=hh
  rw [Option.bind_eq_some_iff] at hh
  obtain ⟨us,hus,hh⟩:=hh
  obtain ⟨h1,h2⟩:=hF.evals hus
  obtain ⟨h3,h4⟩:=hF.eval hg
  have hxs:xs.map a.eval = (us.map I.g).toArray:=by
    rw [← Array.toList_inj,Array.toList_map,h1]
  have hc:=hC I s s' w g us v hh h h4 h2
  cases g <;> try (exact hc.elim)
  case f q fs cs =>
    obtain ⟨c1,c2⟩:=hc
    unfold Yd
    simp only [execOp,ho,resolve,h3,gam,eM,Deferred.ofValue,invoke,Sem.run_bind,Sem.run_pure,Result.andThen_ok,hxs,List.append_toArray,c1]
    simp only [List.map_append] at c2
    exact c2
  case y l =>
    obtain ⟨f,tmps,as,bd,c1,c2⟩:=hc
    unfold Yd
    simp only [execOp,ho,resolve,h3,gam,Deferred.ofValue,invoke,Sem.run_bind,Sem.run_pure,Result.andThen_ok,hxs,Array.empty_append,c1]
    exact c2
theorem aGu (h:SR I env w0 s w) (hF:FR I s.nx n F a dd) {call:CallT} (hC:CallOK P w0 env call) {o:Oper} {v:AV} (hh:aact (tabOf P) call s F o.op = some (v,s')):Yd P o a.eval w (Left I env w0 s s' v):=by
  have h0:=hh
  cases ho:o.op with
  | alloc e=>exact aGs h hF ho hh
  | box e x=>exact aJ3 h hF ho hh
  | store t x y=>exact aGt h hF ho hh
  | buildSlice t len ps=>exact wW h hF ho hh
  | convert t t' x=>exact aCu h hF ho hh
  | makeMap t r =>
    cases r with
    | none=>exact aCv h ho hh
    | some r=>rw [ho] at hh; simp [aact] at hh
  | mapUpdate t m k x=>exact yJ h hF ho hh
  | call c =>
    obtain ⟨callee,xs,ts⟩:=c
    cases callee with
    | builtin b =>
      cases b <;> first
        | exact aD5 h hF ho hh
        | (rw [ho] at hh; simp [aact] at hh)
    | value x=>exact aIw h hF hC ho hh
    | invoke x y=>rw [ho] at hh; simp [aact] at hh
  | _=>rw [ho] at hh; simp [aact] at hh
theorem aAp (h:SR I env w0 s w) (hF:FR I s.nx n F a dd) {call:CallT} (hC:CallOK P w0 env call) {o:Oper} {v:AV} (hh:aop (tabOf P) call s F o.op = some (v,s')):Yd P o a.eval w (Left I env w0 s s' v):=by
  unfold aop at hh
  have hact:=aGu (P:=P) h hF hC (o:=o) (v:=v) (s':=s')
  split at hh
  · split at hh
    · rename_i u hu
      simp only [Option.some.injEq,Prod.mk.injEq] at hh
      obtain ⟨rfl,rfl⟩:=hh
      obtain ⟨h1,h2⟩:=sX h.gk hF hu
      exact Yd.ok' h1 ⟨I,Agree.refl _ _,h,rfl,h2,Step.refl _,rfl⟩
    · exact hact hh
  · exact hact hh
end
end Go.Ev
end
section
namespace Go.Ev
open Go.Fw
theorem Yd.ex {P:Program} {o:Oper} {ρ:Operand → Value} {w:World} {J:Value → World → Prop} (h:Yd P o ρ w J):∃ v w',J v w':=by
  unfold Yd at h
  generalize (execOp ρ o).run P w = r at h
  cases r with
  | halt _ _=>exact h.elim
  | ok x w' =>
    cases x <;> simp only at h
    case value=>exact ⟨_,_,h⟩
    case skip=>exact ⟨_,_,h⟩
    case enter f args =>
      obtain ⟨e,w2,fr,hr,_⟩:=h []
      cases e <;> first | exact ⟨_,_,hr⟩ | exact hr.elim
    case round l f tmps assign body =>
      obtain ⟨e,w2,hr,_⟩:=h.2 default [] (room_wide _)
      cases e <;> first | exact ⟨_,_,hr⟩ | exact hr.elim
theorem SR.wr {I:Ip} {env:Env} {w0 w:World} {s:St} (h:SR I env w0 s w) (l:List Nat):SR I env w0 { s with wr:=l } w:=⟨h.old,h.io,h.ok,h.holds,h.low,h.apart,h.marks,h.env⟩
section
variable {r:Option Nat} {I:Ip} {env:Env} {n:Nat} {w0 w:World} {s s':St} {F F':Fm} {a:Act} {dd:List Deferred} {P:Program} {ops:Array Oper} {call:CallT} {Q:Exit → Act → World → Prop}
def Then (I:Ip) (env:Env) (w0:World) (n:Nat) (dd:List Deferred) (s:St) (F':Fm) (s':St) (K:Act → World → Prop):Prop :=
  ∀ I' a' w',Agree s.nx I I' → SR I' env w0 s' w' → FR I' s'.nx n F' a' dd → Step s s' → s'.marks = s.marks → K a' w'
theorem aGw (hC:CallOK P w0 env call):∀ (l:List Oper) {F:Fm} {s:St} {I:Ip} {a:Act} {w:World},aops (tabOf P) call n ops l F s = some (F',s') → SR I env w0 s w → FR I s.nx n F a dd →
    Then I env w0 n dd s F' s' (Q .normal) → wpL r P ops Q l a w:=by
  intro l
  induction l with
  | nil =>
    intro F s I a w hh h hF hQ
    simp only [aops,Option.some.injEq,Prod.mk.injEq] at hh
    obtain ⟨rfl,rfl⟩:=hh
    exact hQ I a w (Agree.refl _ _) h hF (Step.refl _) rfl
  | cons o l ih =>
    intro F s I a w hh h hF hQ
    simp only [aops,Option.bind_eq_bind] at hh
    rw [Option.bind_eq_some_iff] at hh
    obtain ⟨b,hb,hh⟩:=hh
    have hw:=hF.want hb
    refine wpListIn_step fun _ hK=>?_
    rw [hw]
    cases b with
    | true =>
      simp only [if_true] at hh ⊢
      rw [Option.bind_eq_some_iff] at hh
      obtain ⟨⟨v,s1⟩,hq,hh⟩:=hh
      rw [tV,Option.bind_eq_some_iff] at hh
      obtain ⟨F1,hF1,hh⟩:=hh
      refine Yd.wp ((aAp h hF hC hq).mono fun u w' hA=>?_)
      obtain ⟨I',hA⟩:=hA
      refine hK _ _ (ih hh hA.sr (by rw [hA.val]; exact (hF.agree hA.ag hA.step.nx).setO hF1 hA.okv) ?_)
      intro I2 a2 w2 ag hs hf hst hm
      exact hQ I2 a2 w2 (hA.ag.trans ag hA.step.nx) hs hf (hA.step.trans hst) (hm.trans hA.marks)
    | false =>
      simp only [Bool.false_eq_true,if_false] at hh ⊢
      rw [Option.bind_eq_some_iff] at hh
      obtain ⟨F1,hF1,hh⟩:=hh
      exact ⟨fun _ _=>trivial,hK _ _ (ih hh h (by have:=hF.setO hF1 (v:=.und) trivial; simpa only [Ip.g,gam] using this) hQ)⟩
theorem eqMap {es es':List (AV × AV × Nat)} (h1:es.map (·.1) = es'.map (·.1)) (h2:es.map (·.2.1) = es'.map (·.2.1)) (h3:es.map (·.2.2) = es'.map (·.2.2)):es = es':=by
  induction es generalizing es' with
  | nil=>cases es' <;> simp at h1 ⊢
  | cons e es ih =>
    cases es' with
    | nil=>simp at h1
    | cons e' es' =>
      simp only [List.map_cons,List.cons.injEq] at h1 h2 h3
      obtain ⟨a,b,c⟩:=e
      obtain ⟨a',b',c'⟩:=e'
      simp only at h1 h2 h3
      rw [ih h1.2 h2.2 h3.2,h1.1,h2.1,h3.1]
theorem aI2 {x y:AObj} (h:eqO x y = true):x = y:=by
  cases x <;> cases y <;> simp only [eqO,Bool.and_eq_true,Nat.beq_eq,decide_eq_true_eq,Bool.false_eq_true,beq_iff_eq] at h <;> try rfl
  case pt.pt=>obtain ⟨⟨rfl,rfl⟩,h⟩:=h; rw [jU _ _ h]
  case fz.fz=>obtain ⟨⟨rfl,rfl⟩,h⟩:=h; rw [jU _ _ h]
  case row.row=>obtain ⟨⟨⟨rfl,rfl⟩,rfl⟩,h⟩:=h; rw [jU _ _ h]
  case map.map=>obtain ⟨⟨⟨rfl,h1⟩,h2⟩,h3⟩:=h; rw [eqMap (jU _ _ h1) (jU _ _ h2) h3]
  case loop.loop=>obtain ⟨rfl,rfl⟩:=h; rfl
  case defd.defd=>rw [h]
theorem aH3 (f:Nat → Nat) (l:List AV):rens f l = l.map (ren f):=by
  induction l with
  | nil=>simp [rens]
  | cons v l ih=>simp [rens,ih]
def Ip.ren (I:Ip) (f:Nat → Nat):Ip:=⟨fun m=>I.sv (f m),fun m=>I.arr (f m),fun m=>I.fn (f m)⟩
theorem Ip.ren_g (I:Ip) (f:Nat → Nat) (v:AV):(I.ren f).g v = I.g (Ev.ren f v):=(aB7 I.sv f v).symm
theorem Ip.ren_map (I:Ip) (f:Nat → Nat) (l:List AV):(rens f l).map I.g = l.map (I.ren f).g:=by
  rw [aH3,List.map_map]; exact List.map_congr_left fun v _=>(I.ren_g f v).symm
theorem aH4 {f:Nat → Nat} {lo m:Nat} {o:AObj} (he:envGet env (f m) = envGet env m) (hL:∀ L,envGet env m = some L → f m = m ∧ f L.d = L.d):res (I.ren f) env lo m o = res I env lo (f m) (renO f o):=by
  cases o <;> simp only [res,renO,Ip.ren_map] <;> try rfl
  case map es c =>
    simp only [List.map_map]
    have e:(es.map fun e=>(⟨(I.ren f).g e.1,(I.ren f).g e.2.1,e.2.2⟩ : MapEntry)) = es.map ((fun e=>(⟨I.g e.1,I.g e.2.1,e.2.2⟩ : MapEntry)) ∘ fun e=>(Ev.ren f e.1,Ev.ren f e.2.1,e.2.2)) :=
      List.map_congr_left fun e _=>by simp only [Function.comp,Ip.ren_g]
    rw [e]; rfl
  case loop st pd =>
    rw [he]
    cases hh:envGet env m with
    | none=>rfl
    | some L =>
      obtain ⟨h1,h2⟩:=hL L hh
      simp only [loopOf,Ip.ren,h1,h2]
theorem aBa {l:List Nat} (h:nodupN l = true):∀ (i j x:Nat),l[i]? = some x → l[j]? = some x → i = j:=by
  induction l with
  | nil=>intro i j x hi; simp at hi
  | cons y l ih =>
    simp only [nodupN,Bool.and_eq_true,Bool.not_eq_true',List.contains_eq_mem,decide_eq_false_iff_not] at h
    intro i j x hi hj
    cases i with
    | zero =>
      cases j with
      | zero=>rfl
      | succ j=>simp at hi hj; subst hi; exact absurd (List.mem_of_getElem? hj) h.1
    | succ i =>
      cases j with
      | zero=>simp at hi hj; subst hj; exact absurd (List.mem_of_getElem? hi) h.1
      | succ j=>simp at hi hj; rw [ih h.2 i j x hi hj]
theorem aF5 {I0:Ip} {s0 s1 s2:St} {F1 F2:Fm} {f:Nat → Nat} {wa:World} (hI0:SR I0 env w0 s0 wa) (hf:∀ m,m < s0.nx → f m = m) (hs:sameWay n s0.nx f F1 s1 F2 s2 = true)
    (st1:Step s0 s1) (st2:Step s0 s2) {I1:Ip} {a1:Act} {w1:World} (h1:SR I1 env w0 s1 w1) (hF1:FR I1 s1.nx n F1 a1 dd)
    {I2:Ip} {a2:Act} {w2:World} (ag:Agree s0.nx I0 I2) (h2:SR I2 env w0 s2 w2) (hF2:FR I2 s2.nx n F2 a2 dd) :
    Agree s0.nx I0 (I2.ren f) ∧ SR (I2.ren f) env w0 s1 w2 ∧ FR (I2.ren f) s1.nx n F1 a2 dd ∧ s2.nx = s1.nx:=by
  simp only [sameWay,Bool.and_eq_true,List.all_eq_true,List.mem_range,Nat.beq_eq,decide_eq_true_eq,Bool.or_eq_true,List.mem_append,List.mem_filter,List.mem_map] at hs
  obtain ⟨⟨⟨⟨⟨⟨⟨hnx,hmk⟩,hrg⟩,hnd⟩,hfr⟩,hw1⟩,hw2⟩,hob⟩:=hs
  have hnx1:=st1.nx
  have agr:Agree s0.nx I0 (I2.ren f):=⟨fun m hm=>by simp only [Ip.ren,hf m hm]; exact ag.sv m hm,fun m hm=>by simp only [Ip.ren,hf m hm]; exact ag.arr m hm,fun m hm=>by simp only [Ip.ren,hf m hm]; exact ag.fn m hm⟩
  have agr2:Agree s0.nx I2 (I2.ren f):=⟨fun m hm=>by simp only [Ip.ren,hf m hm],fun m hm=>by simp only [Ip.ren,hf m hm],fun m hm=>by simp only [Ip.ren,hf m hm]⟩
  have hge:∀ m,s0.nx ≤ m → m < s1.nx → s0.nx ≤ f m ∧ f m < s1.nx:=by
    intro m h3 h4
    have:=hrg (m - s0.nx) (by omega)
    rw [show s0.nx + (m - s0.nx) = m by omega] at this
    exact ⟨Nat.le_of_ble_eq_true this.1,Nat.le_of_ble_eq_true this.2⟩
  have hinj:∀ m m',m < s1.nx → m' < s1.nx → f m = f m' → m = m':=by
    intro m m' h3 h4 h5
    by_cases c1:m < s0.nx
    · by_cases c2:m' < s0.nx
      · rw [hf m c1,hf m' c2] at h5; exact h5
      · have:=hge m' (by omega) h4; rw [hf m c1] at h5; omega
    · by_cases c2:m' < s0.nx
      · have:=hge m (by omega) h3; rw [hf m' c2] at h5; omega
      · have key:=aBa hnd (m - s0.nx) (m' - s0.nx) (f m)
        have e1:((List.range (s1.nx - s0.nx)).map fun m=>f (s0.nx + m))[m - s0.nx]? = some (f m):=by
          rw [List.getElem?_map,List.getElem?_range (by omega)]; simp only [Option.map_some]; rw [show s0.nx + (m - s0.nx) = m by omega]
        have e2:((List.range (s1.nx - s0.nx)).map fun m=>f (s0.nx + m))[m' - s0.nx]? = some (f m):=by
          rw [List.getElem?_map,List.getElem?_range (by omega)]; simp only [Option.map_some]; rw [show s0.nx + (m' - s0.nx) = m' by omega,h5]
        have:=key e1 e2
        omega
  -- each thing of the one way is one of the other
  have hobj:∀ m o,find s1.h m = some o → ∃ o',find s2.h (f m) = some o' ∧ res (I2.ren f) env w0.heap.size m o = res I2 env w0.heap.size (f m) o':=by
    intro m o hm
    have hlt:=(h1.ok m o hm).1
    by_cases c:m < s0.nx ∧ m ∉ s1.wr
    · obtain ⟨c1,c2⟩:=c
      have e1:find s0.h m = some o:=by rw [← st1.unch m c1 c2]; exact hm
      have c3:m ∉ s2.wr:=by
        intro hx
        rcases hw2 m hx with h3 | h3
        · exact c2 (eQ.1 h3)
        · have:=Nat.le_of_ble_eq_true h3; omega
      refine ⟨o,by rw [hf m c1,st2.unch m c1 c3]; exact e1,?_⟩
      rw [hf m c1]
      exact rQ agr2 (fun L hL=>(hI0.env.name m L hL).2) rfl (hI0.ok m o e1).2 c1
    · have hmem:(m ∈ s1.wr ∧ Nat.blt m s0.nx = true) ∨ ∃ q,q < s1.nx - s0.nx ∧ s0.nx + q = m:=by
        by_cases c1:m < s0.nx
        · exact .inl ⟨Classical.byContradiction fun x=>c ⟨c1,x⟩,by rw [Nat.blt_eq]; exact c1⟩
        · exact .inr ⟨m - s0.nx,by omega,by omega⟩
      have:=hob m hmem
      rw [hm] at this
      cases hx:find s2.h (f m) with
      | none=>simp [hx] at this
      | some o' =>
        simp only [hx] at this
        have e:=aI2 this
        refine ⟨o',rfl,?_⟩
        rw [← e]
        refine aH4 ?_ fun L hL=>?_
        · by_cases c1:m < s0.nx
          · rw [hf m c1]
          · have q1:envGet env m = none:=by
              cases q:envGet env m with
              | none=>rfl
              | some L=>have:=(hI0.env.name m L q).1; omega
            have q2:envGet env (f m) = none:=by
              cases q:envGet env (f m) with
              | none=>rfl
              | some L=>have:=(hI0.env.name _ L q).1; have:=(hge m (by omega) hlt).1; omega
            rw [q1,q2]
        · obtain ⟨q1,q2⟩:=hI0.env.name m L hL
          exact ⟨hf m q1,hf _ q2⟩
  refine ⟨agr,⟨h2.old,h2.io,h1.ok,fun m o hm=>?_,fun m o hm b hb=>?_,?_,h1.marks,hI0.env.agree agr hnx1⟩,?_,hnx.symm⟩
  · obtain ⟨o',e1,e2⟩:=hobj m o hm; rw [e2]; exact h2.holds _ _ e1
  · obtain ⟨o',e1,e2⟩:=hobj m o hm; rw [e2] at hb; exact h2.low _ _ e1 b hb
  · intro m m' o o' hm hm' hne b hb hb'
    obtain ⟨p,e1,e2⟩:=hobj m o hm
    obtain ⟨p',e1',e2'⟩:=hobj m' o' hm'
    rw [e2] at hb
    rw [e2'] at hb'
    exact h2.apart _ _ p p' e1 e1' (fun x=>hne (hinj m m' (h1.ok m o hm).1 (h1.ok m' o' hm').1 x)) b hb hb'
  · refine ⟨hF2.defers,hF2.size,fun t v hv=>?_⟩
    obtain ⟨q1,q2,_⟩:=hF1.get t v hv
    refine ⟨q1,q2,?_⟩
    have:=hfr t q1
    rw [hv] at this
    cases hx:F2.get t with
    | none=>simp [hx] at this
    | some v' =>
      simp only [hx] at this
      have e:=aEs _ _ this
      rw [Ip.ren_g,e]
      exact (hF2.get t v' hx).2.2
end
end Go.Ev
end
section
namespace Go.Ev
open Go.Fw
theorem aDc {acc:List Nat} (l:List Nat) (m0:Nat) (j:Nat):(l.foldl (fun m p=>m ||| 2 ^ p ||| acc.getD p 0) m0).testBit j = true → m0.testBit j = true ∨ ∃ p ∈ l,p = j ∨ (acc.getD p 0).testBit j = true:=by
  induction l generalizing m0 with
  | nil=>intro h; exact .inl h
  | cons p l ih =>
    intro h
    simp only [List.foldl_cons] at h
    rcases ih _ h with h | ⟨q,hq,h⟩
    · rw [Nat.testBit_or,Nat.testBit_or] at h
      simp only [Bool.or_eq_true] at h
      rcases h with (h | h) | h
      · exact .inl h
      · rw [Nat.testBit_two_pow] at h
        exact .inr ⟨p,List.mem_cons_self,.inl (by simpa using h)⟩
      · exact .inr ⟨p,List.mem_cons_self,.inr h⟩
    · exact .inr ⟨q,List.mem_cons_of_mem _ hq,h⟩
theorem zF (ops:Array Oper) (k:Nat):let acc:=(List.range k).foldl (fun acc i=>acc ++ [(aftOf ops i).foldl (fun m p=>m ||| 2 ^ p ||| acc.getD p 0) 0]) ([]:List Nat)
    acc.length = k ∧ ∀ e j,e < k → (acc.getD e 0).testBit j = true → ∀ listed:Array Bool,listed.size = ops.size → (∀ i,i < ops.size → listed.getD i true = true → ∀ p ∈ aftOf ops i,listed.getD p true = true) →
      (∀ p ∈ aftOf ops e,listed.getD p true = true) → listed.getD j true = true:=by
  induction k with
  | zero=>simp
  | succ k ih =>
    simp only [List.range_succ,List.foldl_append,List.foldl_cons,List.foldl_nil] at ih ⊢
    generalize (List.range k).foldl (fun acc i=>acc ++ [(aftOf ops i).foldl (fun m p=>m ||| 2 ^ p ||| acc.getD p 0) 0]) ([]:List Nat) = acc at ih ⊢
    obtain ⟨h1,h2⟩:=ih
    refine ⟨by simp [h1],fun e j he hb listed hs hcl ha=>?_⟩
    by_cases hek:e < k
    · refine h2 e j hek ?_ listed hs hcl ha
      rw [List.getD_eq_getElem?_getD,List.getElem?_append_left (by omega)] at hb
      rw [List.getD_eq_getElem?_getD]; exact hb
    · have:e = k:=by omega
      subst this
      rw [List.getD_eq_getElem?_getD,List.getElem?_append_right (by omega),h1,Nat.sub_self] at hb
      simp only [List.getElem?_cons_zero,Option.getD_some] at hb
      rcases aDc _ _ _ hb with hb | ⟨p,hp,hb⟩
      · simp at hb
      · have hl:=ha p hp
        rcases hb with rfl | hb
        · exact hl
        · by_cases hpk:p < e
          · by_cases hps:p < ops.size
            · exact h2 p j hpk hb listed hs hcl (hcl p hps hl)
            · refine h2 p j hpk hb listed hs hcl ?_
              intro q hq
              simp [aftOf,Array.getElem?_eq_none (by omega:ops.size ≤ p)] at hq
          · rw [List.getD_eq_getElem?_getD,List.getElem?_eq_none (by omega)] at hb
            simp at hb
theorem aH8 {ops:Array Oper} {T:List Nat} {e:Nat} (h:syncM ops T e = true):SyncP ops T e:=by
  intro listed hs hcl ha j hj
  have hb:=List.all_eq_true.1 h j hj
  by_cases he:e < ops.size
  · exact .inr ((zF ops ops.size).2 e j he hb listed hs hcl ha)
  · have:=(zF ops ops.size).1
    unfold masks at hb
    rw [List.getD_eq_getElem?_getD,List.getElem?_eq_none (by omega)] at hb
    simp at hb
theorem xM {l acc:List Nat} {m:Nat} (h:m ∈ acc):m ∈ l.foldl (fun acc n=>bif memN n acc then acc else n :: acc) acc:=by
  induction l generalizing acc with
  | nil=>exact h
  | cons x l ih =>
    simp only [List.foldl_cons]
    refine ih ?_
    cases memN x acc <;> simp [h]
theorem gT {F:Fm} {x:Operand} {acc:List Nat} {m:Nat} (h:m ∈ acc):m ∈ addName F x acc:=by
  unfold addName
  split
  · exact xM h
  · exact h
theorem vP {F:Fm} {l:List Operand} {acc:List Nat} {m:Nat} (h:m ∈ acc):m ∈ l.foldl (fun acc x=>addName F x acc) acc:=by
  induction l generalizing acc with
  | nil=>exact h
  | cons x l ih=>exact ih (gT h)
theorem zG {F:Fm} {o:Op} {acc:List Nat} {m:Nat} (h:m ∈ acc):m ∈ opNames F o acc:=by
  unfold opNames
  split
  · exact gT h
  · split <;> first | exact gT h | exact h
  · exact gT h
  · exact gT h
  · split <;> first | exact gT h | exact h
  · split <;> first | exact gT h | exact h
  · exact vP h
  · exact h
theorem aFq {p:Nat → Bool} {l:List Nat} {i:Nat} (h:pickQ p l = some i):p i = true:=by
  induction l with
  | nil=>simp [pickQ] at h
  | cons x l ih =>
    simp only [pickQ] at h
    cases hb:p x with
    | true=>simp only [hb,cond_true,Option.some.injEq] at h; subst h; exact hb
    | false=>simp only [hb,cond_false] at h; exact ih h
theorem aDp {nx0:Nat} {l l':Log} {m:Nat} (h:m < nx0):piName nx0 l l' m = m:=by
  unfold piName
  have:Nat.blt m nx0 = true:=by rw [Nat.blt_eq]; exact h
  rw [this]; rfl
section
variable {r:Option Nat} {env:Env} {n:Nat} {w0:World} {dd:List Deferred} {P:Program} {ops:Array Oper} {call:CallT} {Q:Exit → Act → World → Prop}
def Lk (I:Ip) (env:Env) (w0:World) (rd:List Nat) (s:St) (w:World):Prop:=∀ m ∈ rd,∀ o,find s.h m = some o → (res I env w0.heap.size m o).holds w
theorem Lk.gk {I:Ip} {rd:List Nat} {s:St} {w wa:World} (h:Lk I env w0 rd s w) (ha:SR I env w0 s wa):GK I env w0.heap.size s.nx w (lookAt rd s.h):=by
  have key:∀ m o,lookAt rd s.h m = some o → m ∈ rd ∧ find s.h m = some o:=by
    intro m o e
    unfold lookAt at e
    cases hb:memN m rd with
    | true=>rw [hb] at e; exact ⟨eQ.1 hb,e⟩
    | false=>rw [hb] at e; simp at e
  exact ⟨fun m o e=>h m (key m o e).1 o (key m o e).2,fun m o e=>⟨(ha.ok m o (key m o e).2).2,(ha.ok m o (key m o e).2).1⟩⟩
theorem nL {next:DrawT} {R D:List Nat} {F:Fm} {rd:List Nat} {s:St} {lg:Log} {e:Nat} {x:Fm × St × Log} (h:drawE (tabOf P) call n ops next R D F rd s lg e = some x) :
    ∃ o v s1 rd' F1,ops[e]? = some o ∧ noSel o = true ∧ wantA ops F o = some true ∧ aop (tabOf P) call { s with wr:=[] } F o.op = some (v,s1) ∧ drawRd ops D e s.nx rd s1.wr = some rd' ∧ setO n F o.dst v = some F1 ∧
      next (dropN e R) (e :: D) F1 rd' { s1 with wr:=s1.wr ++ s.wr } ((e,s.nx,s1.nx) :: lg) = some x:=by
  simp only [drawE,Option.bind_eq_bind] at h
  rw [Option.bind_eq_some_iff] at h
  obtain ⟨o,ho,h⟩:=h
  split at h
  · rename_i hc
    simp only [Bool.and_eq_true,beq_iff_eq] at hc
    rw [Option.bind_eq_some_iff] at h
    obtain ⟨⟨v,s1⟩,hq,h⟩:=h
    rw [Option.bind_eq_some_iff] at h
    obtain ⟨rd',hrd,h⟩:=h
    rw [tV,Option.bind_eq_some_iff] at h
    obtain ⟨F1,hF1,h⟩:=h
    exact ⟨o,v,s1,rd',F1,ho,hc.1,hc.2,hq,hrd,hF1,h⟩
  · cases h
theorem sG {next:DrawT} {R D:List Nat} {F:Fm} {rd:List Nat} {s:St} {lg:Log} {i:Nat} {x:Fm × St × Log} (h:drawQ (tabOf P) n ops next R D F rd s lg i = some x) :
    ∃ o,ops[i]? = some o ∧ ((∃ v F1,wantA ops F o = some true ∧ aval (tabOf P) (lookAt (opNames F o.op rd) s.h) F o.op = some v ∧ setO n F o.dst v = some F1 ∧ next (dropN i R) (i :: D) F1 (opNames F o.op rd) s lg = some x) ∨
      (∃ F1,wantA ops F o = some false ∧ setO n F o.dst .und = some F1 ∧ next (dropN i R) (i :: D) F1 rd s lg = some x)):=by
  simp only [drawQ,Option.bind_eq_bind] at h
  rw [Option.bind_eq_some_iff] at h
  obtain ⟨o,ho,h⟩:=h
  refine ⟨o,ho,?_⟩
  rw [Option.bind_eq_some_iff] at h
  obtain ⟨b,hb,h⟩:=h
  cases b with
  | true =>
    simp only [if_true] at h
    rw [Option.bind_eq_some_iff] at h
    obtain ⟨v,hv,h⟩:=h
    rw [tV,Option.bind_eq_some_iff] at h
    obtain ⟨F1,hF1,h⟩:=h
    exact .inl ⟨v,F1,hb,hv,hF1,h⟩
  | false =>
    simp only [Bool.false_eq_true,if_false] at h
    rw [Option.bind_eq_some_iff] at h
    obtain ⟨F1,hF1,h⟩:=h
    exact .inr ⟨F1,hb,hF1,h⟩
theorem Step.app {s s1:St} (h:Step { s with wr:=[] } s1):Step s { s1 with wr:=s1.wr ++ s.wr } :=
  ⟨h.nx,fun m _ hm=>List.mem_append.2 (.inr hm),fun m hm hn=>h.unch m hm fun x=>hn (List.mem_append.2 (.inl x))⟩
def Ends (I:Ip) (env:Env) (w0:World) (n:Nat) (dd:List Deferred) (s:St) (F':Fm) (s':St):Prop :=
  ∃ I' a' w',Agree s.nx I I' ∧ SR I' env w0 s' w' ∧ FR I' s'.nx n F' a' dd ∧ Step s s' ∧ s'.marks = s.marks
theorem tQ (hC:CallOK P w0 env call) {next:DrawT} (ih:∀ R D F rd s lg x,next R D F rd s lg = some x → ∀ I a w,SR I env w0 s w → FR I s.nx n F a dd → Ends I env w0 n dd s x.1 x.2.1)
    {R D:List Nat} {F:Fm} {rd:List Nat} {s:St} {lg:Log} {e:Nat} {x:Fm × St × Log} (hh:drawE (tabOf P) call n ops next R D F rd s lg e = some x)
    {I:Ip} {a:Act} {w:World} (h:SR I env w0 s w) (hF:FR I s.nx n F a dd):Ends I env w0 n dd s x.1 x.2.1:=by
  obtain ⟨o,v,s1,rd',F1,ho,_,_,hq,_,hF1,hn⟩:=nL hh
  obtain ⟨u,w',I',hA⟩:=Yd.ex (aAp (h.wr []) hF hC hq)
  obtain ⟨I2,a2,w2,q1,q2,q3,q4,q5⟩:=ih _ _ _ _ _ _ _ hn I' (a.put o.dst (I'.g v)) w' (hA.sr.wr _) ((hF.agree hA.ag hA.step.nx).setO hF1 hA.okv)
  exact ⟨I2,a2,w2,hA.ag.trans q1 hA.step.nx,q2,q3,hA.step.app.trans q4,q5.trans hA.marks⟩
theorem aD7 (hC:CallOK P w0 env call):∀ (k:Nat) (R D:List Nat) (F:Fm) (rd:List Nat) (s:St) (lg:Log) (x:Fm × St × Log),adraw (tabOf P) call n ops k R D F rd s lg = some x →
    ∀ I a w,SR I env w0 s w → FR I s.nx n F a dd → Ends I env w0 n dd s x.1 x.2.1:=by
  intro k
  induction k with
  | zero=>intro R D F rd s lg x hh; simp [adraw] at hh
  | succ k ih =>
    intro R D F rd s lg x hh I a w h hF
    cases R with
    | nil =>
      simp only [adraw] at hh
      split at hh
      · simp only [Option.some.injEq] at hh; subst hh
        exact ⟨I,a,w,Agree.refl _ _,h,hF,Step.refl _,rfl⟩
      · cases hh
    | cons r0 R0 =>
      simp only [adraw] at hh
      split at hh
      · rename_i i hi
        obtain ⟨o,ho,hx⟩:=sG hh
        rcases hx with ⟨v,F1,hw,hv,hF1,hn⟩ | ⟨F1,hw,hF1,hn⟩
        · have hlk:Lk I env w0 (opNames F o.op rd) s w:=fun m _ o e=>h.holds m o e
          obtain ⟨g1,g2⟩:=sX (hlk.gk h) hF hv
          exact ih _ _ _ _ _ _ _ hn I (a.put o.dst (I.g v)) w h (hF.setO hF1 g2)
        · exact ih _ _ _ _ _ _ _ hn I (a.put o.dst undef) w h (by have:=hF.setO hF1 (v:=.und) trivial; simpa only [Ip.g,gam] using this)
      · split at hh
        · cases hh
        · rename_i e es he
          rw [Option.bind_eq_bind,Option.bind_eq_some_iff] at hh
          obtain ⟨x',hx,hh⟩:=hh
          split at hh
          · simp only [Option.some.injEq] at hh; subst hh
            exact tQ hC ih hx h hF
          · cases hh
theorem yX (hC:CallOK P w0 env call) {next:DrawT}
    (ih:∀ R D F rd s lg x,next R D F rd s lg = some x → ∀ I a,(∃ w,SR I env w0 s w) → FR I s.nx n F a dd → Then I env w0 n dd s x.1 x.2.1 (Q .normal) → DW r P ops Q D (Lk I env w0 rd s) (SR I env w0 s) a)
    {R D:List Nat} {F:Fm} {rd:List Nat} {s:St} {lg:Log} {e:Nat} {x:Fm × St × Log} (hh:drawE (tabOf P) call n ops next R D F rd s lg e = some x)
    {I:Ip} {a:Act} (hF:FR I s.nx n F a dd) (hQ:Then I env w0 n dd s x.1 x.2.1 (Q .normal)):Ex r P ops Q D (Lk I env w0 rd s) (SR I env w0 s) a e:=by
  obtain ⟨o,v,s1,rd',F1,ho,hns,hwt,hq,hrd,hF1,hn⟩:=nL hh
  refine ⟨o,ho,hF.want hwt,hns,fun w hCs hSR=>?_⟩
  refine (aAp (hSR.wr []) hF hC hq).mono fun u w' hA=>?_
  obtain ⟨I',hA⟩:=hA
  have hs1:SR I' env w0 { s1 with wr:=s1.wr ++ s.wr } w':=hA.sr.wr _
  refine ⟨Lk I' env w0 rd' { s1 with wr:=s1.wr ++ s.wr },SR I' env w0 { s1 with wr:=s1.wr ++ s.wr },fun m _ o e=>hs1.holds m o e,hs1,?_,?_⟩
  · unfold drawRd at hrd
    split at hrd
    · rename_i hsy
      exact .inr (aH8 hsy)
    · split at hrd
      · rename_i hall
        simp only [Option.some.injEq] at hrd
        subst hrd
        refine .inl fun y hy m hm ob hob=>?_
        obtain ⟨hlt,hok⟩:=hSR.ok m ob hob
        have hnw:m ∉ s1.wr:=by
          intro hx
          have:=List.all_eq_true.1 hall m hx
          simp only [Bool.or_eq_true,Bool.not_eq_true'] at this
          rcases this with h1 | h1
          · have:=Nat.le_of_ble_eq_true h1; omega
          · rw [eQ.2 hm] at h1; cases h1
        have e1:find s1.h m = some ob:=by rw [hA.step.unch m hlt hnw]; exact hob
        have:=hy m hm ob e1
        rwa [rQ hA.ag (fun L hL=>(hSR.env.name m L hL).2) rfl hok hlt] at this
      · cases hrd
  · rw [hA.val]
    refine ih _ _ _ _ _ _ _ hn I' (a.put o.dst (I'.g v)) ⟨w',hs1⟩ ((hF.agree hA.ag hA.step.nx).setO hF1 hA.okv) ?_
    intro I2 a2 w2 q1 q2 q3 q4 q5
    exact hQ I2 a2 w2 (hA.ag.trans q1 hA.step.nx) q2 q3 (hA.step.app.trans q4) (q5.trans hA.marks)
theorem aD8 (hC:CallOK P w0 env call) (hchk:chk ops = true):∀ (k:Nat) (R D:List Nat) (F:Fm) (rd:List Nat) (s:St) (lg:Log) (x:Fm × St × Log),adraw (tabOf P) call n ops k R D F rd s lg = some x →
    ∀ I a,(∃ w,SR I env w0 s w) → FR I s.nx n F a dd → Then I env w0 n dd s x.1 x.2.1 (Q .normal) → DW r P ops Q D (Lk I env w0 rd s) (SR I env w0 s) a:=by
  intro k
  induction k with
  | zero=>intro R D F rd s lg x hh; simp [adraw] at hh
  | succ k ih =>
    intro R D F rd s lg x hh I a hw hF hQ
    cases R with
    | nil =>
      simp only [adraw] at hh
      split at hh
      · rename_i hall
        simp only [Option.some.injEq] at hh; subst hh
        exact aEm hchk hall fun w h=>hQ I a w (Agree.refl _ _) h hF (Step.refl _) rfl
      · cases hh
    | cons r0 R0 =>
      simp only [adraw] at hh
      split at hh
      · rename_i i hi
        have hp:=aFq hi
        simp only [Bool.and_eq_true] at hp
        obtain ⟨o,ho,hx⟩:=sG hh
        obtain ⟨wa,ha⟩:=hw
        rcases hx with ⟨v,F1,hwt,hv,hF1,hn⟩ | ⟨F1,hwt,hF1,hn⟩
        · refine aHh (Cs2:=Lk I env w0 (opNames F o.op rd) s) (fun w _ h m _ o e=>h.holds m o e) (fun w h m hm=>h m (zG hm)) ?_
          have hla:Lk I env w0 (opNames F o.op rd) s wa:=fun m _ o e=>ha.holds m o e
          have g2:=(sX (P:=P) (a:=a) (o:=o) (hla.gk ha) hF hv).2
          refine aDa hchk ho hp.2 (v:=I.g v) (fun w hlk=>.inl ⟨hF.want hwt,(sX (hlk.gk ha) hF hv).1⟩) ?_
          exact ih _ _ _ _ _ _ _ hn I _ ⟨wa,ha⟩ (hF.setO hF1 g2) hQ
        · refine aDa hchk ho hp.2 (v:=undef) (fun w hlk=>.inr ⟨hF.want hwt,rfl⟩) ?_
          exact ih _ _ _ _ _ _ _ hn I _ ⟨wa,ha⟩ (by have:=hF.setO hF1 (v:=.und) trivial; simpa only [Ip.g,gam] using this) hQ
      · split at hh
        · cases hh
        · rename_i e es he
          rw [Option.bind_eq_bind,Option.bind_eq_some_iff] at hh
          obtain ⟨x',hx,hh⟩:=hh
          split at hh
          · rename_i hall
            simp only [Option.some.injEq] at hh; subst hh
            simp only [Bool.and_eq_true,List.all_eq_true] at hall
            obtain ⟨hb,hall⟩:=hall
            obtain ⟨wa,ha⟩:=hw
            have ihx:=aD7 (dd:=dd) (n:=n) (ops:=ops) hC k
            obtain ⟨I1,a1,w1,p1,p2,p3,p4,p5⟩:=tQ hC ihx hx ha hF
            have hexes:∀ e' ∈ es,Ex r P ops Q D (Lk I env w0 rd s) (SR I env w0 s) a e':=by
              intro e' he'
              have:=hall e' he'
              split at this
              · rename_i x2 hx2
                obtain ⟨I2,a2,w2,q1,q2,q3,q4,q5⟩:=tQ hC ihx hx2 ha hF
                refine yX hC ih hx2 hF ?_
                intro I3 a3 w3 t1 t2 t3 t4 t5
                obtain ⟨u1,u2,u3,u4⟩:=aF5 ha (fun m hm=>aDp hm) this p4 q4 p2 p3 t1 t2 t3
                exact hQ _ a3 w3 u1 u2 u3 p4 p5
              · cases this
            have hall':∀ (A:List Nat),(∀ e' ∈ A,Ex r P ops Q D (Lk I env w0 rd s) (SR I env w0 s) a e') → exAll r P ops Q D (Lk I env w0 rd s) (SR I env w0 s) a A:=by
              intro A
              induction A with
              | nil=>intro _; trivial
              | cons y A ihA=>intro hA; exact ⟨hA y List.mem_cons_self,ihA fun z hz=>hA z (List.mem_cons_of_mem _ hz)⟩
            obtain ⟨o,v,s1,rd',F1,ho,_⟩:=nL hx
            have hmem:e ∈ (r0 :: R0).filter (isReady ops D):=by rw [he]; exact List.mem_cons_self
            have hrd:=(List.mem_filter.1 hmem).2
            simp only [isReady,Bool.and_eq_true,Bool.not_eq_true'] at hrd
            refine aHg hchk (e :: es) hb ⟨e,List.mem_cons_self,(Array.getElem?_eq_some_iff.1 ho).1,hrd.1⟩ (hall' _ ?_)
            intro y hy
            rcases List.mem_cons.1 hy with rfl | hy
            · exact yX hC ih hx hF hQ
            · exact hexes y hy
          · cases hh
theorem aCw (hm:P.follows .mixedOrders = true) (hC:CallOK P w0 env call) {F F':Fm} {s s':St} {id:Nat} {I:Ip} {a:Act} {w:World} (hh:adrawn (tabOf P) call n ops F s = some (F',s')) (h:SR I env w0 s w) (hF:FR I s.nx n F a dd)
    (hQ:Then I env w0 n dd s F' s' (Q .normal)):Wp r P (.region id ops true) Q a w:=by
  unfold adrawn at hh
  split at hh
  · rename_i hchk
    rw [Option.bind_eq_bind,Option.bind_eq_some_iff] at hh
    obtain ⟨x,hx,hh⟩:=hh
    simp only [Option.some.injEq,Prod.mk.injEq] at hh
    obtain ⟨rfl,rfl⟩:=hh
    have h':=h.keep Keeps.drew
    have hd:=aD8 (r:=r) hC hchk _ _ _ _ _ _ _ _ hx I a ⟨w,h⟩ hF hQ
    have e:ops = ops.toList.toArray:=by simp
    rw [e] at hd ⊢
    exact wZ hm (fun m hm=>by cases hm) h' hd
  · cases hh
end
end Go.Ev
end
section
namespace Go.Ev
open Go.Fw
def exitOf:AX → Exit
  | .n=>.normal
  | .x id=>.exit id
  | .r=>.ret
def ddOf (I:Ip) (ms:List Nat):List Deferred:=ms.map fun m=>{ target:=.collected (I.sv m).blk,args:=#[] }
theorem tO {k:Nat} {I I':Ip} {ms:List Nat} (h:Agree k I I') (hm:∀ m,m ∈ ms → m < k):ddOf I' ms = ddOf I ms :=
  List.map_congr_left fun m hx=>by rw [h.sv m (hm m hx)]
theorem SR.setMarks {I:Ip} {env:Env} {w0 w:World} {s:St} (h:SR I env w0 s w) (ms l:List Nat) (hm:∀ m,m ∈ ms → m < s.nx):SR I env w0 { s with marks:=ms,wr:=l } w:=⟨h.old,h.io,h.ok,h.holds,h.low,h.apart,hm,h.env⟩
theorem Step.setMarks {s s':St} (h:Step s s') (ms:List Nat):Step s { s' with marks:=ms }:=⟨h.nx,h.mono,h.unch⟩
theorem Step.ofMarks {s s':St} {ms:List Nat} (h:Step { s with marks:=ms } s'):Step s s':=⟨h.nx,h.mono,h.unch⟩
section
variable {r:Option Nat} {env:Env} {n:Nat} {w0:World} {P:Program} {call:Env → CallT}
def ThenC (I:Ip) (env:Env) (w0:World) (n:Nat) (s:St) (ax:AX) (F':Fm) (s':St) (Q:Exit → Act → World → Prop):Prop :=
  ∀ I' a' w',Agree s.nx I I' → SR I' env w0 s' w' → FR I' s'.nx n F' a' (ddOf I' s'.marks) → Step s s' → Q (exitOf ax) a' w'
def Ip.withL (I:Ip) (k:Nat) (s:SV) (ar:Array Value) (f:Nat):Ip:=⟨fun n=>if n = k then s else I.sv n,fun n=>if n = k then ar else I.arr n,fun n=>if n = k then f else I.fn n⟩
theorem Agree.withL (I:Ip) (k:Nat) (s:SV) (ar:Array Value) (f:Nat):Agree k I (I.withL k s ar f) :=
  ⟨fun n hn=>by simp [Ip.withL,Nat.ne_of_lt hn],fun n hn=>by simp [Ip.withL,Nat.ne_of_lt hn],fun n hn=>by simp [Ip.withL,Nat.ne_of_lt hn]⟩
theorem jX (l:Nat) (L:LInfo) (env:Env):envGet ((l,L) :: env) l = some L:=by simp [envGet]
theorem lI {l m:Nat} (L:LInfo) (env:Env) (h:m ≠ l):envGet ((l,L) :: env) m = envGet env m:=by
  have:Nat.beq l m = false:=by
    cases hb:Nat.beq l m with
    | false=>rfl
    | true=>exact absurd (Nat.eq_of_beq_eq_true hb).symm h
  simp [envGet,this]
theorem aF3 (hC:∀ env,CallOK P w0 env (call env)) {g:Operand} {ps:Array Tmp} {as bd:Code} {fn:Nat} {F:Fm} {s s1 s2 s3:St} {I:Ip} {a:Act} {w:World} {gv v:AV} {d l:Nat} {ax:AX} {sq:St} {Q:Exit → Act → World → Prop}
    (hg:aget F g = some gv) (hisf:isFn gv = true) (hd:fresh s (.defd false) = some (d,s1)) (hl:fresh s1 (.loop .ready none) = some (l,s2))
    (hq:call ((l,⟨fn,n,F,ps.toList,as,bd,d⟩) :: env) gv [.y l] { s2 with marks:=d :: s2.marks } = some (v,sq)) (he:endLoopA sq l = some (ax,s3))
    (h:SR I env w0 s w) (hF:FR I s.nx n F a (ddOf I s.marks)) (hQ:ThenC I env w0 n s ax F s3 Q):Wp none P (.rangeFunc g ps as bd) Q a w:=by
  obtain ⟨e1,e2⟩:=fT hd
  obtain ⟨e3,e4⟩:=fT hl
  obtain ⟨hev,hok⟩:=hF.eval hg
  cases gv <;> simp only [isFn,Bool.false_eq_true] at hisf
  rename_i f fs cs
  refine wpIn_rangeFunc fun fn' _=>?_
  have st1:=Step.fresh hd
  have st2:=Step.fresh hl
  have hn1:s1.nx = s.nx + 1:=by rw [e2]
  have hn2:s2.nx = s.nx + 2:=by rw [e4]; simp only [hn1]
  have hm2:s2.marks = s.marks:=by rw [e4,e2]
  have hl':l = s.nx + 1:=by rw [e3,hn1]
  -- the block for the deferred calls
  let I1:=I.with s.nx ⟨some ⟨w.heap.size,0,none⟩,0,0⟩ #[]
  have ag1:Agree s.nx I I1:=Agree.with _ _ _ _
  have hb1:(I1.sv d).blk = w.heap.size:=by rw [e1]; simp only [I1,jW]; rfl
  have sr1:SR I1 env w0 s1 (w.alloc (.deferred (some []))):=h.add hd _ trivial (by
    show Added (.obj ((Ip.with I s.nx ⟨some ⟨w.heap.size,0,none⟩,0,0⟩ #[]).sv s.nx).blk (.deferred (some []))) w _
    rw [jW]; exact Added.alloc w _)
  -- the record
  let w1:=w.alloc (.deferred (some []))
  let ob:Obj:=.loop { state:=.ready,pending:=none,fn:=fn',tmps:=a.tmps,params:=ps,assign:=as,body:=bd,defers:=w.heap.size }
  let I2:=I1.withL l ⟨some ⟨w1.heap.size,0,none⟩,0,0⟩ a.tmps fn'
  have hs1l:s1.nx = l:=e3.symm
  have ag2:Agree s1.nx I1 I2:=by rw [hs1l]; exact Agree.withL _ _ _ _ _
  let L:LInfo:=⟨fn,n,F,ps.toList,as,bd,d⟩
  have hb2:(I2.sv l).blk = w1.heap.size:=by simp only [I2,Ip.withL,if_true]; rfl
  have hb2d:(I2.sv d).blk = w.heap.size:=by rw [← ag2.sv d (by omega)]; exact hb1
  have hres2:res I2 ((l,L) :: env) w0.heap.size l (.loop .ready none) = .obj w1.heap.size ob:=by
    simp only [res,jX,loopOf,hb2,hb2d,pdCode,L,ob]
    simp only [I2,Ip.withL,if_true,Array.toArray_toList]
  have agI2:Agree s.nx I I2:=ag1.trans ag2 (by omega)
  have envok2:EnvOK I2 ((l,L) :: env) s2.nx:=by
    have h0:=h.env.agree agI2 (show s.nx ≤ s2.nx by omega)
    refine ⟨fun m L' hm=>?_,fun m L' hm=>?_⟩
    · by_cases hml:m = l
      · subst hml
        rw [jX] at hm; cases hm
        exact ⟨by omega,by show d < s2.nx; omega⟩
      · rw [lI L env hml] at hm; exact h0.name m L' hm
    · by_cases hml:m = l
      · subst hml
        rw [jX] at hm; cases hm
        have hFa:=hF.agree agI2 (show s.nx ≤ s2.nx by omega)
        refine ⟨rfl,?_,fun t u hu=>?_⟩
        · simp only [I2,Ip.withL,if_true]; exact hFa.size
        · obtain ⟨q1,q2,q3⟩:=hFa.get t u hu
          refine ⟨q1,q2,?_⟩
          simp only [I2,Ip.withL,if_true]
          exact q3
      · rw [lI L env hml] at hm; exact h0.fr m L' hm
  have sr2:SR I2 ((l,L) :: env) w0 s2 (w1.alloc ob):=by
    have hA:=Added.alloc w1 ob
    refine sr1.turn (t:=fun _=>False) (b:=l) ag2 (by omega) (fun m hm hml=>lI L env hml) hA.keeps.io hA.keeps.size (fun j hj _=>hA.keeps.block j hj (by simp)) (fun _ hj=>hj.elim) (fun m o' hn e=>?_) (fun o' e=>?_) (fun m hm=>?_) envok2
    · rw [e4] at e
      rcases gS e with ⟨h1,_⟩ | ⟨_,h2⟩
      · rw [hs1l] at h1; exact absurd h1 hn
      · exact .inr ⟨h2,fun _ _ hj=>hj⟩
    · rw [e4] at e
      rcases gS e with ⟨_,rfl⟩ | ⟨h1,_⟩
      · rw [hres2]; exact ⟨by omega,trivial,hA.holds,fun j hj=>.inr (hA.fp j hj)⟩
      · rw [hs1l] at h1; exact absurd rfl h1
    · rw [hm2] at hm; have:=h.marks m hm; omega
  have sr2':SR I2 ((l,L) :: env) w0 { s2 with marks:=d :: s2.marks } (w1.alloc ob):=⟨sr2.old,sr2.io,sr2.ok,sr2.holds,sr2.low,sr2.apart,fun m hm=>by
    rcases List.mem_cons.1 hm with rfl | hm
    · show m < s2.nx; omega
    · exact sr2.marks m hm,sr2.env⟩
  have hyv:I2.g (.y l) = .func (.yield w1.heap.size) #[] #[]:=by simp only [Ip.g,gam,hb2]
  have hfs:(fs.map I2.g) = gams I.sv fs:=by
    rw [eM]; exact agI2.map (kB.1 hok.1)
  have hcs:(cs.map I2.g) = gams I.sv cs:=by
    rw [eM]; exact agI2.map (kB.1 hok.2)
  have hokg:okV s2.nx (.f f fs cs):=gU (by omega) _ hok
  obtain ⟨c1,c2⟩:=hC ((l,L) :: env) I2 { s2 with marks:=d :: s2.marks } sq (w1.alloc ob) (.f f fs cs) [.y l] v hq sr2' hokg (by
    intro u hu
    simp only [List.mem_singleton] at hu
    subst hu
    show l < s2.nx; omega)
  have hev':a.eval g = .func (.func f) (gams I.sv fs).toArray (gams I.sv cs).toArray:=by rw [hev]; simp only [Ip.g,gam]
  have hsz1:w1.heap.size = w.heap.size + 1:=by simp [w1]
  refine ⟨w1.heap.size,[{ target:=.collected w.heap.size,args:=#[] }],w1.alloc ob,{ target:=.fn (.func f) (gams I.sv cs).toArray,args:=(gams I.sv fs).toArray ++ #[.func (.yield w1.heap.size) #[] #[]] },w1.alloc ob,f,
    ((fs ++ [AV.y l] ++ cs).map I2.g).toArray,w1.alloc ob,?_,?_,fun _ _=>trivial,?_,fun hx=>qM hx,?_⟩
  · rw [show (Wd none).round = none from rfl,run_enterLoop_outer fn' a.tmps ps as bd,hsz1]
  · simp only [resolve,hev',Deferred.ofValue,Sem.run_pure]
    simp [Act.eval]
  · simp only [invoke,c1]
    rw [List.map_append,List.map_append,hfs,hcs,List.map_cons,List.map_nil,hyv]
    simp
  · refine pM.2 (Calls.mono c2 fun e w3 hr=>?_)
    cases e <;> simp only [Ret] at hr
    obtain ⟨I3,hA⟩:=hr
    have hm3:=hA.marks
    -- the loop's end
    simp only [endLoopA] at he
    split at he
    · rename_i st pd hfl
      have hst3:Step s sq:=(st1.trans st2).trans hA.step.ofMarks
      have hlt:l < s2.nx:=by omega
      have hobj:=hA.sr.holds l _ hfl
      have hblk:(I3.sv l).blk = w1.heap.size:=by rw [← hA.ag.sv l hlt]; exact hb2
      have hobj':w3.heap[w1.heap.size]? = some (loopOf I3 l L st pd):=by
        have:(res I3 ((l,L) :: env) w0.heap.size l (.loop st pd)).holds w3:=hobj
        simp only [res,jX,hblk] at this
        exact this
      have hnb:st ≠ .busy:=by intro e; subst e; simp at he
      have hres:ax = axOf pd ∧ s3 = wrote sq l .dead:=by
        cases st <;> simp only [Option.some.injEq,Prod.mk.injEq] at he
        all_goals first | exact ⟨he.1.symm,he.2.symm⟩ | exact (hnb rfl).elim | (cases he; done)
      obtain ⟨hax,hs3⟩:=hres
      have hend:=run_endLoop (P:=P) hobj' hnb
      refine ⟨pdCode pd,_,hend,?_⟩
      have hput:=Upd.putObj (o':=.loop { state:=.exhausted,pending:=pdCode pd,fn:=I3.fn l,tmps:=I3.arr l,params:=L.ps.toArray,assign:=L.asg,body:=L.body,defers:=(I3.sv L.d).blk }) hobj'
      have sr4:SR I3 env w0 s3 (w3.putObj w1.heap.size (.loop { state:=.exhausted,pending:=pdCode pd,fn:=I3.fn l,tmps:=I3.arr l,params:=L.ps.toArray,assign:=L.asg,body:=L.body,defers:=(I3.sv L.d).blk })):=by
        have hlk:=hA.sr.low l _ hfl
        have hap:=hA.sr.apart l
        have hrr:res I3 ((l,L) :: env) w0.heap.size l (.loop st pd) = .obj w1.heap.size (loopOf I3 l L st pd):=by simp only [res,jX,hblk]
        refine hA.sr.turn (t:=fun j=>j = w1.heap.size) (b:=l) (Agree.refl _ _) (by rw [hs3]; exact Nat.le_refl _) (fun m hm hml=>(lI L env hml).symm) hput.io hput.size (fun j hj hne=>hput.block j hj hne) (fun j hj=>?_) (fun m o' hn e=>?_) (fun o' e=>?_) (fun m hm=>?_) ?_
        · exact hlk j (by rw [hrr]; exact hj)
        · rw [hs3] at e
          rcases gS e with ⟨h1,_⟩ | ⟨_,h2⟩
          · exact absurd h1 hn
          · exact .inr ⟨h2,fun j hj hj'=>hap m _ _ hfl h2 (fun x=>hn x.symm) j (by rw [hrr]; exact hj') hj⟩
        · rw [hs3] at e
          rcases gS e with ⟨_,rfl⟩ | ⟨h1,_⟩
          · refine ⟨?_,trivial,⟨fun _ hk=>hk.elim,fun _ _ _ _=>trivial⟩,fun j hj=>hj.elim⟩
            rw [hs3]; exact (hA.sr.ok l _ hfl).1
          · exact absurd rfl h1
        · rw [hs3] at hm ⊢; exact hA.sr.marks m hm
        · refine h.env.agree (agI2.trans hA.ag (by show s.nx ≤ s2.nx; omega)) ?_
          rw [hs3]; exact hst3.nx
      have hag:Agree s.nx I I3:=agI2.trans hA.ag (by show s.nx ≤ s2.nx; omega)
      have hmk:s3.marks = d :: s.marks:=by rw [hs3,aAo,hm3]; simp only [hm2]
      have hF4:FR I3 s3.nx n F { a with defers:=[{ target:=.collected w.heap.size,args:=#[] }] ++ a.defers } (ddOf I3 s3.marks):=by
        have hFa:=hF.agree hag (show s.nx ≤ s3.nx by rw [hs3]; exact hst3.nx)
        refine ⟨?_,hFa.size,hFa.get⟩
        rw [hmk]
        simp only [ddOf,List.map_cons,List.cons_append,List.nil_append]
        rw [← hA.ag.sv d (by show d < s2.nx; omega),hb2d,hF.defers]
        congr 1
        exact (tO hag h.marks).symm
      have hfin:=hQ I3 _ _ hag sr4 hF4 (by rw [hs3]; exact hst3.trans (Step.wrote _ _ _))
      subst hax
      cases pd with
      | none=>exact hfin
      | some q =>
        cases q with
        | none=>exact c_ret hfin
        | some id=>exact bX hfin
    · cases he
end
end Go.Ev
end
section
namespace Go.Ev
open Go.Fw
section
variable {r:Option Nat} {env:Env} {n:Nat} {w0:World} {P:Program} {call:Env → CallT} {fn:Nat} {ir:Bool} {fuel:Nat}
theorem FR.eqd {I:Ip} {k n:Nat} {F:Fm} {a:Act} {dd dd':List Deferred} (h:FR I k n F a dd) (e:dd = dd'):FR I k n F a dd':=e ▸ h
theorem aCs {I:Ip} {s s':St} {F':Fm} {Q:Exit → Act → World → Prop} {w:World} (h:SR I env w0 s w) (hQ:ThenC I env w0 n s .n F' s' Q):Then I env w0 n (ddOf I s.marks) s F' s' (Q .normal):=by
  intro I' a' w' ag sr fr st hm
  refine hQ I' a' w' ag sr (fr.eqd ?_) st
  rw [hm]; exact (tO ag h.marks).symm
theorem tH (hm:P.follows .mixedOrders = true) (hC:∀ env,CallOK P w0 env (call env)) (hr:ir = false → r = none):∀ (c:Code) {F F':Fm} {s s':St} {ax:AX} {I:Ip} {a:Act} {w:World} {Q:Exit → Act → World → Prop},
    acode (tabOf P) call env fn n ir fuel c F s = some (ax,F',s') → SR I env w0 s w → FR I s.nx n F a (ddOf I s.marks) → ThenC I env w0 n s ax F' s' Q → Wp r P c Q a w:=by
  intro c
  induction c with
  | skip =>
    intro F F' s s' ax I a w Q hh h hF hQ
    simp only [acode,Option.some.injEq,Prod.mk.injEq] at hh
    obtain ⟨rfl,rfl,rfl⟩:=hh
    exact aW (hQ I a w (Agree.refl _ _) h hF (Step.refl _))
  | region id ops draw =>
    intro F F' s s' ax I a w Q hh h hF hQ
    simp only [acode] at hh
    cases draw with
    | true =>
      simp only [if_true,Option.map_eq_some_iff] at hh
      obtain ⟨⟨F1,s1⟩,hq,hh⟩:=hh
      simp only [Prod.mk.injEq] at hh
      obtain ⟨rfl,rfl,rfl⟩:=hh
      exact aCw hm (hC env) hq h hF (aCs h hQ)
    | false =>
      simp only [Bool.false_eq_true,if_false,Option.map_eq_some_iff] at hh
      obtain ⟨⟨F1,s1⟩,hq,hh⟩:=hh
      simp only [Prod.mk.injEq] at hh
      obtain ⟨rfl,rfl,rfl⟩:=hh
      exact wpIn_region_list (aGw (hC env) _ hq h hF (aCs h hQ))
  | seq x y ihx ihy =>
    intro F F' s s' ax I a w Q hh h hF hQ
    simp only [acode,Option.bind_eq_bind] at hh
    rw [Option.bind_eq_some_iff] at hh
    obtain ⟨⟨ax1,F1,s1⟩,hq,hh⟩:=hh
    refine aG (ihx hq h hF ?_)
    intro I1 a1 w1 ag sr fr st
    cases ax1 with
    | n =>
      simp only at hh
      exact ihy hh sr fr fun I2 a2 w2 ag2 sr2 fr2 st2=>hQ I2 a2 w2 (ag.trans ag2 st.nx) sr2 fr2 (st.trans st2)
    | x id =>
      simp only [Option.some.injEq,Prod.mk.injEq] at hh
      obtain ⟨rfl,rfl,rfl⟩:=hh
      exact hQ I1 a1 w1 ag sr fr st
    | r =>
      simp only [Option.some.injEq,Prod.mk.injEq] at hh
      obtain ⟨rfl,rfl,rfl⟩:=hh
      exact hQ I1 a1 w1 ag sr fr st
  | cond c x y ihx ihy =>
    intro F F' s s' ax I a w Q hh h hF hQ
    simp only [acode,Option.bind_eq_bind] at hh
    rw [Option.bind_eq_some_iff] at hh
    obtain ⟨v,hv,hh⟩:=hh
    obtain ⟨h1,h2⟩:=hF.eval hv
    split at hh
    · exact wpIn_cond_true (by rw [h1]; simp [gam]) (ihx hh h hF hQ)
    · exact wpIn_cond_false (by rw [h1]; simp [gam]) (ihy hh h hF hQ)
    · cases hh
  | block id c ih =>
    intro F F' s s' ax I a w Q hh h hF hQ
    simp only [acode,Option.bind_eq_bind] at hh
    rw [Option.bind_eq_some_iff] at hh
    obtain ⟨⟨ax1,F1,s1⟩,hq,hh⟩:=hh
    simp only [Option.some.injEq,Prod.mk.injEq] at hh
    obtain ⟨rfl,rfl,rfl⟩:=hh
    refine aU (ih hq h hF ?_)
    intro I1 a1 w1 ag sr fr st
    have:=hQ I1 a1 w1 ag sr fr st
    cases ax1 with
    | n=>exact bK (by simpa [exitOf] using this)
    | r=>exact aH1 (by simpa [exitOf] using this)
    | x j =>
      by_cases hj:j = id
      · subst hj; exact cO (by simpa [exitOf] using this)
      · refine aGq (i:=id) (j:=j) ?_ (by simpa [exitOf,hj] using this)
        cases hb:Nat.beq j id with
        | false=>rfl
        | true=>exact absurd (Nat.eq_of_beq_eq_true hb) hj
  | loop c ih =>
    intro F F' s s' ax I a w Q hh h hF hQ
    simp only [acode] at hh
    refine aAu (X:=Nat) (fun k a w=>∃ F s I,aloop (acode (tabOf P) call env fn n ir fuel c) k F s = some (ax,F',s') ∧ SR I env w0 s w ∧ FR I s.nx n F a (ddOf I s.marks) ∧ ThenC I env w0 n s ax F' s' Q) id fuel ⟨F,s,I,hh,h,hF,hQ⟩ ?_
    rintro k a w ⟨F,s,I,hh,h,hF,hQ⟩
    cases k with
    | zero=>simp [aloop] at hh
    | succ k =>
      simp only [aloop,Option.bind_eq_bind] at hh
      rw [Option.bind_eq_some_iff] at hh
      obtain ⟨⟨ax1,F1,s1⟩,hq,hh⟩:=hh
      refine ih hq h hF ?_
      intro I1 a1 w1 ag sr fr st
      cases ax1 with
      | n =>
        simp only at hh
        exact ⟨k,⟨F1,s1,I1,hh,sr,fr,fun I2 a2 w2 ag2 sr2 fr2 st2=>hQ I2 a2 w2 (ag.trans ag2 st.nx) sr2 fr2 (st.trans st2)⟩,Nat.lt_succ_self k⟩
      | x id =>
        simp only [Option.some.injEq,Prod.mk.injEq] at hh
        obtain ⟨rfl,rfl,rfl⟩:=hh
        exact hQ I1 a1 w1 ag sr fr st
      | r =>
        simp only [Option.some.injEq,Prod.mk.injEq] at hh
        obtain ⟨rfl,rfl,rfl⟩:=hh
        exact hQ I1 a1 w1 ag sr fr st
  | exit id =>
    intro F F' s s' ax I a w Q hh h hF hQ
    simp only [acode,Option.some.injEq,Prod.mk.injEq] at hh
    obtain ⟨rfl,rfl,rfl⟩:=hh
    exact bX (hQ I a w (Agree.refl _ _) h hF (Step.refl _))
  | ret =>
    intro F F' s s' ax I a w Q hh h hF hQ
    simp only [acode,Option.some.injEq,Prod.mk.injEq] at hh
    obtain ⟨rfl,rfl,rfl⟩:=hh
    exact c_ret (hQ I a w (Agree.refl _ _) h hF (Step.refl _))
  | rangeFunc g ps as bd iha ihb =>
    intro F F' s s' ax I a w Q hh h hF hQ
    simp only [acode,Option.bind_eq_bind] at hh
    split at hh
    · cases hh
    · rename_i hir
      have hir':ir = false:=by simpa using hir
      have:=hr hir'
      subst this
      rw [Option.bind_eq_some_iff] at hh
      obtain ⟨gv,hg,hh⟩:=hh
      split at hh
      · cases hh
      · rename_i hisf
        rw [Option.bind_eq_some_iff] at hh
        obtain ⟨⟨d,s1⟩,hd,hh⟩:=hh
        rw [Option.bind_eq_some_iff] at hh
        obtain ⟨⟨l,s2⟩,hl,hh⟩:=hh
        rw [Option.bind_eq_some_iff] at hh
        obtain ⟨⟨v,sq⟩,hq,hh⟩:=hh
        rw [Option.bind_eq_some_iff] at hh
        obtain ⟨⟨e,s3⟩,he,hh⟩:=hh
        simp only [Option.some.injEq,Prod.mk.injEq] at hh
        obtain ⟨rfl,rfl,rfl⟩:=hh
        exact aF3 hC hg (by simpa using hisf) hd hl hq he h hF hQ
  | _=>intro F F' s s' ax I a w Q hh; simp [acode] at hh
theorem aA1 {vs:List AV}:∀ (n i t:Nat) (v:AV),(enterF n i vs).get t = some v → i ≤ t ∧ t < i + n ∧ v = (vs[t - i]?).getD .und:=by
  intro n
  induction n generalizing vs with
  | zero=>intro i t v h; simp [enterF,Tr.get_e] at h
  | succ n ih =>
    intro i t v h
    cases vs with
    | nil =>
      simp only [enterF] at h
      rcases Tr.set_some h with ⟨rfl,rfl⟩ | ⟨hne,h⟩
      · exact ⟨Nat.le_refl _,by omega,by simp⟩
      · obtain ⟨h1,h2,h3⟩:=ih (i + 1) t v h
        exact ⟨by omega,by omega,by simpa using h3⟩
    | cons u vs =>
      simp only [enterF] at h
      rcases Tr.set_some h with ⟨rfl,rfl⟩ | ⟨hne,h⟩
      · exact ⟨Nat.le_refl _,by omega,by simp⟩
      · obtain ⟨h1,h2,h3⟩:=ih (i + 1) t v h
        refine ⟨by omega,by omega,?_⟩
        rw [h3,show t - i = (t - (i + 1)) + 1 by omega]
        simp
theorem aEr {I:Ip} {k:Nat} {vs:List AV} (hv:∀ v ∈ vs,okV k v) (hn:vs.length ≤ n):FR I k n (enterF n 0 vs) { tmps:=(vs.map I.g).toArray ++ Array.replicate (n - (vs.map I.g).toArray.size) undef,defers:=[] } []:=by
  refine ⟨rfl,by simp; omega,fun t v h=>?_⟩
  obtain ⟨_,h2,h3⟩:=aA1 _ _ _ _ h
  simp only [Nat.sub_zero,Nat.zero_add] at h2 h3
  refine ⟨h2,?_,?_⟩
  · subst h3
    cases hx:vs[t]? with
    | none=>trivial
    | some u=>exact hv u (List.mem_of_getElem? hx)
  · subst h3
    by_cases ht:t < vs.length
    · have:vs[t]? = some vs[t]:=List.getElem?_eq_getElem ht
      rw [this]
      simp [Array.getElem?_append,ht]
    · rw [List.getElem?_eq_none (by omega)]
      simp only [Option.getD_none,Ip.g,gam]
      have h4:t - vs.length < n - vs.length:=by omega
      simp [Array.getElem?_append,ht,h4]
theorem aF7 {I:Ip} {k:Nat}:∀ (ps:List Nat) (vs:List AV) {F F':Fm} {tm:Array Value},setPs n ps vs F = some F' → FR I k n F { tmps:=tm,defers:=[] } [] → (∀ v ∈ vs,okV k v) →
    ps.length = vs.length ∧ FR I k n F' { tmps:=(ps.zip (vs.map I.g)).foldl (fun tmps p=>tmps.setIfInBounds p.1 p.2) tm,defers:=[] } []:=by
  intro ps
  induction ps with
  | nil =>
    intro vs F F' tm h hF hv
    cases vs with
    | nil=>simp only [setPs,Option.some.injEq] at h; subst h; exact ⟨rfl,hF⟩
    | cons v vs=>simp [setPs] at h
  | cons p ps ih =>
    intro vs F F' tm h hF hv
    cases vs with
    | nil=>simp [setPs] at h
    | cons v vs =>
      simp only [setPs] at h
      split at h
      · rename_i hp
        have hp':p < n:=by rw [Nat.blt_eq] at hp; exact hp
        have hF1:=hF.set hp' (hv v List.mem_cons_self)
        simp only [Act.put] at hF1
        obtain ⟨h1,h2⟩:=ih vs h hF1 (fun u hu=>hv u (List.mem_cons_of_mem _ hu))
        exact ⟨by simp [h1],h2⟩
      · cases h
theorem aGx {I:Ip} {w:World} {s:St} (h:SR I env w0 s w):∀ (rs:List ResultVar) {F:Fm} {a:Act} {dd:List Deferred} {vs:List AV},ares (tabOf P) s F rs = some vs → FR I s.nx n F a dd → resOf P w a.tmps rs (vs.map I.g) ∧ ∀ v ∈ vs,okV s.nx v:=by
  intro rs
  induction rs with
  | nil=>intro F a dd vs hh hF; simp only [ares,Option.some.injEq] at hh; subst hh; exact ⟨trivial,by simp⟩
  | cons x rs ih =>
    intro F a dd vs hh hF
    cases x with
    | tmp t =>
      simp only [ares,Option.bind_eq_bind] at hh
      rw [Option.bind_eq_some_iff] at hh
      obtain ⟨v,hv,hh⟩:=hh
      rw [Option.bind_eq_some_iff] at hh
      obtain ⟨us,hus,hh⟩:=hh
      simp only [Option.some.injEq] at hh; subst hh
      obtain ⟨h1,h2⟩:=ih hus hF
      obtain ⟨_,q2,q3⟩:=hF.get t v hv
      refine ⟨⟨q3,h1⟩,fun u hu=>?_⟩
      rcases List.mem_cons.1 hu with rfl | hu
      · exact q2
      · exact h2 u hu
    | cell t ty =>
      simp only [ares,Option.bind_eq_bind] at hh
      rw [Option.bind_eq_some_iff] at hh
      obtain ⟨v,hv,hh⟩:=hh
      cases v <;> simp only at hh <;> try (cases hh; done)
      rename_i m off
      split at hh
      · rename_i N l T hm
        rw [Option.bind_eq_some_iff] at hh
        obtain ⟨u,hu,hh⟩:=hh
        rw [Option.bind_eq_some_iff] at hh
        obtain ⟨us,hus,hh⟩:=hh
        simp only [Option.some.injEq] at hh; subst hh
        obtain ⟨h1,h2⟩:=ih hus hF
        obtain ⟨_,q2,q3⟩:=hF.get t _ hv
        obtain ⟨hk,hok⟩:=h.ok m _ hm
        have hl:=wG (P:=P) hu hok.1 (h.gk.cellsP hm)
        rw [Nat.zero_add] at hl
        refine ⟨⟨⟨⟨(I.sv m).blk,off,none⟩,by rw [q3]; simp only [Ip.g,gam],hl⟩,h1⟩,fun x hx=>?_⟩
        rcases List.mem_cons.1 hx with rfl | hx
        · exact (oP hu hok.1 hok.2.1 hok.2.2).1
        · exact h2 x hx
      · cases hh
def loopRec (I:Ip) (n:Nat) (L:LInfo) (st:LoopState) (pd:Option (Option Nat)):Loop:={ state:=st,pending:=pdCode pd,fn:=I.fn n,tmps:=I.arr n,params:=L.ps.toArray,assign:=L.asg,body:=L.body,defers:=(I.sv L.d).blk }
theorem aDi {fnc:Func} {tmps:Array Value} {R:Value → World → Prop} {I:Ip}:∀ (ms:List Nat) {s s':St} {w:World},takeMarks ms s = some s' → SR I env w0 s w →
    (∀ w',SR I env w0 s' w' → Step s s' → s'.nx = s.nx → s'.marks = s.marks → ∃ v,(results fnc tmps).run P w' = .ok v w' ∧ R v w') → LeavesInM (Wd none) 0 P fnc tmps (Ret R) (ddOf I ms) .returning w:=by
  intro ms
  induction ms with
  | nil =>
    intro s s' w hh h hR
    simp only [takeMarks,Option.some.injEq] at hh
    subst hh
    exact hR w h (Step.refl _) rfl rfl
  | cons d ms ih =>
    intro s s' w hh h hR
    simp only [takeMarks] at hh
    split at hh
    · rename_i hd
      have hobj:w.heap[(I.sv d).blk]? = some (.deferred (some [])):=h.holds d _ hd
      refine ⟨by simp,.inl ⟨(I.sv d).blk,_,rfl,run_takeDeferred hobj,?_⟩⟩
      have hU:=Upd.putObj (o':=.deferred none) hobj
      have sr:=h.chg hd (o':=.defd true) trivial hU
      refine ih hh sr fun w' sr' st hnx hmk=>hR w' sr' ((Step.wrote _ _ _).trans st) hnx hmk
    · cases hh
theorem aD6 (hm:P.follows .mixedOrders = true):∀ (k:Nat) (env:Env),CallOK P w0 env (acall (tabOf P) fuel k env):=by
  intro k
  induction k with
  | zero=>intro env I s s' w g vs v hh; simp [acall] at hh
  | succ k ih =>
    intro env I s s' w g vs v hh h hg hvs
    cases g <;> try (simp [acall] at hh; done)
    case f f fs cs =>
      simp only [acall,Option.bind_eq_bind] at hh
      rw [Option.bind_eq_some_iff] at hh
      obtain ⟨⟨n,rs,body⟩,hfn,hh⟩:=hh
      simp only at hh
      split at hh
      · cases hh
      · rename_i hlen
        rw [Option.bind_eq_some_iff] at hh
        obtain ⟨⟨ax,F1,s1⟩,hq,hh⟩:=hh
        simp only [tabOf] at hfn
        rw [Option.bind_eq_some_iff] at hfn
        obtain ⟨fnc,hf,hfn⟩:=hfn
        split at hfn
        · cases hfn
        · rename_i hname
          obtain ⟨b,hb,hfn⟩:=Option.map_eq_some_iff.1 hfn
          simp only [Prod.mk.injEq] at hfn
          obtain ⟨rfl,rfl,rfl⟩:=hfn
          have hcall:∀ args w,(callFunc f args).run P w = .ok (.enter f args) w:=by
            intro args w
            have hn':¬ fnc.name = "runtime.NumGoroutine" := by simpa using hname
            simp [callFunc,program,Sem.run,hf,hn',hb]
          refine ⟨hcall,?_⟩
          have hlen':(fs ++ vs ++ cs).length ≤ fnc.ntmps:=by simpa using hlen
          have hokall:∀ u ∈ fs ++ vs ++ cs,okV s.nx u:=by
            intro u hu
            rcases List.mem_append.1 hu with hu | hu
            · rcases List.mem_append.1 hu with hu | hu
              · exact kB.1 hg.1 u hu
              · exact hvs u hu
            · exact kB.1 hg.2 u hu
          refine callsIn_wide.1 (callsIn_of_wp_marks (F:=Wd none) (n:=0) hf hb trivial ?_ rfl)
          have h':=h.setMarks [] s.wr (by simp)
          refine tH hm ih (fun _=>rfl) b hq h' (aEr hokall hlen') ?_
          intro I1 a1 w1 ag sr fr st
          have fin:ax = .n ∨ ax = .r → bodyPostM (Wd none) 0 P fnc (Ret (Left I env w0 s s' v)) .ret a1 w1:=by
            intro hax
            have hh':(takeMarks s1.marks s1).bind (fun s'=>(ares (tabOf P) s' F1 fnc.results.toList).bind fun r=>some (resV r,({ s' with marks:=s.marks,wr:=s'.wr.filter (Nat.blt · s.nx) }:St))) = some (v,s'):=by
              rcases hax with rfl | rfl <;> exact hh
            obtain ⟨s2,ht,hh2⟩:=Option.bind_eq_some_iff.1 hh'
            obtain ⟨rv,hrv,hh3⟩:=Option.bind_eq_some_iff.1 hh2
            simp only [Option.some.injEq,Prod.mk.injEq] at hh3
            obtain ⟨rfl,rfl⟩:=hh3
            show LeavesInM (Wd none) 0 P fnc a1.tmps (Ret _) a1.defers .returning w1
            rw [fr.defers]
            refine aDi s1.marks ht sr fun w2 sr2 st2 hnx hmk=>?_
            have st':Step s s2:=st.ofMarks.trans st2
            obtain ⟨q1,q2⟩:=aGx (P:=P) sr2 fnc.results.toList hrv (fr.agree (Agree.refl _ _) (by rw [hnx]; exact Nat.le_refl _))
            refine ⟨_,nX (by simp) q1,I1,ag,sr2.setMarks _ _ (fun m hm=>?_),?_,?_,⟨st'.nx,fun m hm hx=>?_,fun m hm hx=>?_⟩,rfl⟩
            · have:=h.marks m hm; have:=st'.nx; omega
            · match rv with
              | []=>simp [resV,gam,gams]
              | [v]=>simp [resV]
              | x :: y :: l=>simp [resV,gam,gams,eM]
            · match rv,q2 with
              | [],_=>trivial
              | [v],q2=>exact q2 v (by simp)
              | x :: y :: l,q2=>exact kB.2 q2
            · exact List.mem_filter.2 ⟨st'.mono m hm hx,by rw [Nat.blt_eq]; exact hm⟩
            · exact st'.unch m hm fun hy=>hx (List.mem_filter.2 ⟨hy,by rw [Nat.blt_eq]; exact hm⟩)
          cases ax with
          | n=>exact fin (.inl rfl)
          | r=>exact fin (.inr rfl)
          | x id=>simp at hh
    case y l =>
      simp only [acall,Option.bind_eq_bind] at hh
      rw [Option.bind_eq_some_iff] at hh
      obtain ⟨L,hL,hh⟩:=hh
      split at hh
      · rename_i pd0 hfl
        rw [Option.bind_eq_some_iff] at hh
        obtain ⟨F0,hF0,hh⟩:=hh
        rw [Option.bind_eq_some_iff] at hh
        obtain ⟨⟨ax,F1,s1⟩,hq,hh⟩:=hh
        have hresL:∀ (I:Ip) st pd,res I env w0.heap.size l (.loop st pd) = .obj (I.sv l).blk (loopOf I l L st pd):=fun I st pd=>by simp only [res,hL]
        have hobj:w.heap[(I.sv l).blk]? = some (loopOf I l L .ready pd0):=by have:=h.holds l _ hfl; rw [hresL] at this; exact this
        obtain ⟨hlk,hdk⟩:=h.env.name l L hL
        obtain ⟨hps,hFR0⟩:=aF7 L.ps vs hF0 (h.env.fr l L hL) hvs
        have hy:=run_yield (P:=P) (args:=(vs.map I.g).toArray) hobj (by simp [hps])
        refine ⟨_,_,_,_,hy,?_⟩
        refine roundIn_of_wpIn (F:=Wd none) trivial ?_
        have h':=h.setMarks [] s.wr (by simp)
        refine tH (r:=some (I.sv l).blk) hm ih (fun h=>by cases h) L.asg hq h' (by have:=hFR0; simpa [ddOf] using this) ?_
        intro I1 a1 w1 ag sr fr st
        simp only at hh
        split at hh
        · rename_i pd hfl1
          rw [Option.bind_eq_some_iff] at hh
          obtain ⟨⟨ax2,F2,s2⟩,hq2,hh⟩:=hh
          simp only at hh
          have hblk1:(I1.sv l).blk = (I.sv l).blk:=by rw [ag.sv l hlk]
          have hobj1:w1.heap[(I.sv l).blk]? = some (loopOf I1 l L .ready pd):=by have:=sr.holds l _ hfl1; rw [hresL,hblk1] at this; exact this
          have hU1:Upd (res I1 env w0.heap.size l (.loop .ready pd)) (res I1 env w0.heap.size l (.loop .busy pd)) w1 (w1.putObj (I.sv l).blk (loopOf I1 l L .busy pd)):=by
            rw [hresL,hresL,hblk1]; exact Upd.putObj hobj1
          have sr1:=sr.chg hfl1 (o':=.loop .busy pd) trivial hU1
          refine ⟨_,run_beginRound hobj1 rfl,?_⟩
          refine tH (r:=some (I.sv l).blk) hm ih (fun h=>by cases h) L.body hq2 sr1 fr ?_
          intro I2 a2 w2 ag2 sr2 fr2 st2
          split at hh
          · rename_i st3 pd3 hfl2
            simp only [Option.some.injEq,Prod.mk.injEq] at hh
            obtain ⟨rfl,rfl⟩:=hh
            have hs01:s.nx ≤ s1.nx:=st.nx
            have hlk2:l < s1.nx:=by omega
            have hblk2:(I2.sv l).blk = (I.sv l).blk:=by rw [← ag2.sv l hlk2,hblk1]
            have hobj2:w2.heap[(I.sv l).blk]? = some (loopOf I2 l L st3 pd3):=by have:=sr2.holds l _ hfl2; rw [hresL,hblk2] at this; exact this
            have hiso:∀ x:Option (Option Nat),(pdCode x).isNone = x.isNone:=by
              intro x
              cases x with
              | none=>rfl
              | some y=>cases y <;> rfl
            have hU2:∀ st4,Upd (res I2 env w0.heap.size l (.loop st3 pd3)) (res I2 env w0.heap.size l (.loop st4 (pdOf ax2))) w2 (w2.putObj (I.sv l).blk (loopOf I2 l L st4 (pdOf ax2))):=by
              intro st4
              rw [hresL,hresL,hblk2]; exact Upd.putObj hobj2
            have sr3:=sr2.chg hfl2 (o':=.loop (if (pdOf ax2).isNone then .ready else .done) (pdOf ax2)) trivial (hU2 _)
            have hend:=run_endRound (P:=P) (pdCode (pdOf ax2)) hobj2
            have hst:Step s (wrote s2 l (.loop (if (pdOf ax2).isNone then .ready else .done) (pdOf ax2))):=((st.ofMarks.trans (Step.wrote _ _ _)).trans st2).trans (Step.wrote _ _ _)
            have hfin:Left I env w0 s { wrote s2 l (.loop (if (pdOf ax2).isNone then .ready else .done) (pdOf ax2)) with marks:=s.marks } (.b (pdOf ax2).isNone) (.bool (pdCode (pdOf ax2)).isNone)
                (w2.putObj (I.sv l).blk (.loop { loopRec I2 l L st3 pd3 with state:=if (pdCode (pdOf ax2)).isNone then .ready else .done,pending:=pdCode (pdOf ax2) })):=by
              refine ⟨I2,ag.trans ag2 st.nx,?_,by simp only [Ip.g,gam,hiso],trivial,hst.setMarks _,rfl⟩
              have:=sr3.setMarks s.marks (wrote s2 l (.loop (if (pdOf ax2).isNone then .ready else .done) (pdOf ax2))).wr (fun m hm=>by have:=h.marks m hm; have:=hst.nx; omega)
              rw [hiso]
              exact this
            cases ax2 <;> exact ⟨_,_,hend,hfin⟩
          · cases hh
        · cases hh
      · cases hh
end
end Go.Ev
end
section
namespace Go.Ev
open Go.Fw
theorem SR.start (w0:World):SR ⟨fun _=>SV.nil,fun _=>#[],fun _=>0⟩ [] w0 { h:=.e,nx:=0 } w0:=by
  have no:∀ n o,find (.e:Heap) n = some o → False:=fun n o e=>by simp [find,Tr.get_e] at e
  exact ⟨⟨Nat.le_refl _,fun _ _ _ _=>rfl⟩,Io.refl w0,fun n o e=>(no n o e).elim,fun n o e=>(no n o e).elim,fun n o e=>(no n o e).elim,fun n m o o' e=>(no n o e).elim,fun n h=>absurd h (by simp),⟨fun l L e=>absurd e (by simp [envGet]),fun l L e=>absurd e (by simp [envGet])⟩⟩
def okT:Option (AV × St) → Bool
  | some (.b true,_)=>true
  | _=>false
theorem closed_true {P:Program} {f fuel k:Nat} (hm:P.follows .mixedOrders = true) (h:okT (acall (tabOf P) fuel k [] (.f f [] []) [] { h:=.e,nx:=0 }) = true) (w0:World):Calls P f #[] w0 (Ret fun v w'=>v = .bool true ∧ Keeps [] w0 w'):=by
  cases hq:acall (tabOf P) fuel k [] (.f f [] []) [] { h:=.e,nx:=0 } with
  | none=>rw [hq] at h; cases h
  | some p =>
    obtain ⟨v,s'⟩:=p
    rw [hq] at h
    have hv:v = .b true:=by
      cases v <;> simp only [okT,Bool.false_eq_true] at h
      rename_i b
      cases b
      · simp at h
      · rfl
    subst hv
    have:=(aD6 (w0:=w0) (fuel:=fuel) hm k [] _ _ _ w0 _ _ _ hq (SR.start w0) ⟨trivial,trivial⟩ (by simp)).2
    simp only [List.append_nil,List.map_nil] at this
    refine Calls.mono this fun e w' he=>?_
    cases e <;> simp only [Ret] at he ⊢
    obtain ⟨I',hA⟩:=he
    exact ⟨by rw [hA.val]; simp [gam],⟨hA.sr.io,hA.sr.old.size,fun j hj _=>hA.sr.old.block j (Nat.zero_le _) hj (by simp)⟩⟩
end Go.Ev
end
