/- Ground for this claim: The call of TraceThere returns true. Condition: the arguments are of bulk at most 1048576. -/
import Derived.RangeFuncRecord
import Derived.RangeFuncIn
import Derived.Test.YtmgnkohlfbjjnaaGreatRTh3
section
namespace Go.Ev
open Go.Fw
set_option linter.unusedSimpArgs false
set_option linter.unusedVariables false
theorem Upd.putObj {w:World} {b:Nat} {o o':Obj} (hb:w.heap[b]? = some o):Upd (.obj b o) (.obj b o') w (w.putObj b o'):=by
  have hlt:b < w.heap.size:=(Array.getElem?_eq_some_iff.1 hb).1
  refine ⟨⟨rfl,rfl,rfl⟩,by simp [World.putObj],fun k _ hf=>?_,?_,fun _ hk=>.inl hk⟩
  · exact World.putObj_heap_other (fun e=>hf e)
  · exact World.putObj_heap_same hlt
section
variable {I:Ip} {env:Env} {n:Nat} {w0 w:World} {s s':St} {F:Fm} {a:Act} {dd:List Deferred} {P:Program}
theorem wG (h:SR I env w0 s w) (hF:FR I s.nx n F a dd) {call:CallT} {o:Oper} {t:Nat} {m k x:Operand} {v:AV} (ho:o.op = .mapUpdate t m k x) (hh:aact (tabOf P) call s F o.op = some (v,s')):Yd P o a.eval w (Left I env w0 s s' v):=by
  rw [ho] at hh
  simp only [aact,Option.bind_eq_bind,Option.bind_eq_some_iff] at hh
  obtain ⟨d,(hd:P.underlying t = some d),um,hm,hh⟩:=hh
  obtain ⟨h1,h2⟩:=hF.eval hm
  split at hh
  · rename_i kt et b
    rw [Option.bind_eq_some_iff] at hh
    obtain ⟨dk,(hdk:P.underlying kt = some dk),hh⟩:=hh
    split at hh
    · rename_i kd es c hb
      rw [Option.bind_eq_some_iff] at hh
      obtain ⟨uk,hk,hh⟩:=hh
      rw [Option.bind_eq_some_iff] at hh
      obtain ⟨ux,hx,hh⟩:=hh
      rw [Option.bind_eq_some_iff] at hh
      obtain ⟨⟨es',c'⟩,hp,hh⟩:=hh
      simp only [Option.some.injEq,Prod.mk.injEq] at hh
      obtain ⟨rfl,rfl⟩:=hh
      obtain ⟨h3,h4⟩:=hF.eval hk
      obtain ⟨h5,h6⟩:=hF.eval hx
      simp only [mapPut] at hp
      split at hp
      · rename_i q y hfind
        simp only [Option.some.injEq,Prod.mk.injEq,rF] at hp
        obtain ⟨rfl,rfl⟩:=hp
        obtain ⟨r',hf,hv⟩:=sG (I:=I) kd 0 hfind ⟨q,y,rfl⟩
        have hr':r' = none:=by cases r' <;> simp at hv ⊢
        subst hr'
        have hfk:(Instr.findKey kt (I.g (.i q y)) (es.map fun e=>(⟨I.g e.1,I.g e.2.1,e.2.2⟩ : MapEntry))).run P w = .ok none w:=by
          simp [Instr.findKey,run_underlying hdk,hf]
        have hck:∀ b,(Instr.checkKey b 10000 kt (I.g (.i q y))).run P w = .ok () w:=fun b=>lE hdk b q y
        have hobj:=h.holds _ _ hb
        have hobj':w.heap[(I.sv b).blk]? = some (.map (es.map fun e=>(⟨I.g e.1,I.g e.2.1,e.2.2⟩ : MapEntry)).toArray c):=hobj
        have hset:∀ ob,(setObj (I.sv b).blk ob).run P w = .ok () (w.putObj (I.sv b).blk ob):=fun ob=>by simp [setObj,Sem.run,hobj',World.putObj]
        have hU:=Upd.putObj (o':=.map ((es ++ [(AV.i q y,ux,c)]).map fun e=>(⟨I.g e.1,I.g e.2.1,e.2.2⟩ : MapEntry)).toArray (c + 1)) hobj'
        refine Yd.skip' (w':=w.putObj (I.sv b).blk (.map ((es ++ [(AV.i q y,ux,c)]).map fun e=>(⟨I.g e.1,I.g e.2.1,e.2.2⟩ : MapEntry)).toArray (c + 1))) ?_
          (h.left (v:=.und) (o':=.map (es ++ [(AV.i q y,ux,c)]) (c + 1)) hb (fun e he=>?_) hU trivial)
        · have hmv:I.g (.mp b) = .map (some (I.sv b).blk):=by simp [gam]
          simp only [execOp,ho,h1,h3,h5,hmv,Instr.mapUpdate,Sem.run_bind,run_underlying hd,Result.andThen_ok,MapKept.run_getObj_map hobj',hck,hfk,hset,Sem.run_pure]
          simp
        · rcases List.mem_append.1 he with he | he
          · exact (h.ok _ _ hb).2 e he
          · simp only [List.mem_singleton] at he; subst he; exact ⟨h4,h6⟩
      · cases hp
    · cases hh
  · cases hh
theorem aAy (h:SR I env w0 s w) (hF:FR I s.nx n F a dd) {call:CallT} {o:Oper} {t t':Nat} {x:Operand} {v:AV} (ho:o.op = .convert t t' x) (hh:aact (tabOf P) call s F o.op = some (v,s')):Yd P o a.eval w (Left I env w0 s s' v):=by
  rw [ho] at hh
  simp only [aact,Option.bind_eq_bind] at hh
  split at hh
  · cases hh
  · rename_i htt
    simp only [ne_eq,Decidable.not_not] at htt
    subst htt
    rw [Option.bind_eq_some_iff] at hh
    obtain ⟨d,(hd:P.underlying t = some d),hh⟩:=hh
    rw [Option.bind_eq_some_iff] at hh
    obtain ⟨u,hu,hh⟩:=hh
    obtain ⟨h1,h2⟩:=hF.eval hu
    split at hh
    · rename_i e m off len cap
      rw [Option.bind_eq_some_iff] at hh
      obtain ⟨de,(hde:P.underlying e = some de),hh⟩:=hh
      split at hh
      · rename_i N l q hm
        simp only [Option.some.injEq,Prod.mk.injEq] at hh
        obtain ⟨rfl,rfl⟩:=hh
        obtain ⟨hk,hok⟩:=h.ok m _ hm
        have hN:l.length = N:=hok.1
        have hb:w.heap[(I.sv m).blk]? = some (.cells (l.map I.g).toArray q (0,0)):=h.holds _ _ hm
        have hlt:=(Array.getElem?_eq_some_iff.1 hb).1
        have hsh:w.shape? (I.sv m).blk = some (q,N):=by simp [World.shape?,hb,hN]
        have hU:Upd (res I env w0.heap.size m (.pt N l q)) (res I env w0.heap.size m (.fz N l q)) w (w.freeze ⟨(I.sv m).blk,N,none⟩ 1):=by
          refine ⟨⟨rfl,rfl,rfl⟩,by simp [World.freeze],fun j _ hf=>?_,?_,fun _ hk=>.inl hk⟩
          · simp only [World.freeze]
            rw [if_neg (by decide)]
            simp only [Array.getElem?_modify]
            rw [if_neg (fun e=>hf (by simp only [res,Res.fp]; exact e.symm))]
          · show (w.freeze ⟨(I.sv m).blk,N,none⟩ 1).heap[(I.sv m).blk]? = _
            simp only [World.freeze]
            rw [if_neg (by decide)]
            simp only [Array.getElem?_modify,if_true,hb,Option.map_some]
            rfl
        refine Yd.ok' (w':=w.freeze ⟨(I.sv m).blk,N,none⟩ 1) ?_ (h.left (v:=.sl m off len cap) (o':=.fz N l q) hm hok hU h2)
        simp only [execOp,ho,h1,Sem.run_bind]
        have:(convert t t (I.g (.sl m off len cap))).run P w = .ok (I.g (.sl m off len cap)) (w.freeze ⟨(I.sv m).blk,N,none⟩ 1):=by
          simp [gam,convert,run_underlying hd,run_underlying hde,markStringish,shape,freeze,Sem.run,hsh]
        rw [this]; rfl
      · cases hh
    · cases hh
theorem aAb {e lo m k z:Nat} {sv sy:SV} {xs ys:List Value} {t ty:Nat} {i:TypeInfo} {zv:Value} (ht:P.underlying t = some (.slice e)) (hi:P.info? e = some i) (hz:i.zero = some zv)
    (hsize:i.size = z) (hzs:zv.cells.size = z) (hpos:0 < z) (hown:w.ownsRow lo e z sv.v m xs) (hy:SlU w sy k z ys) (h1:∀ u ∈ ys,u.oneCell' = true)
    (h63:m + k ≤ maxLen) (hbytes:(m + k) * i.bytes ≤ 140737488355328) (hlo:lo ≤ w.heap.size) :
    ∃ (s':SV) (w':World),(Builtin.append_ #[t,t] ty #[sv.v,sy.v]).run P w = .ok s'.v w' ∧ Upd (.row lo sv.v e z m xs) (.row lo s'.v e z (m + k) (xs ++ ys)) w w':=by
  have fin:∀ v' w',(Builtin.append_ #[t,t] ty #[sv.v,sy.v]).run P w = .ok v' w' → w'.ownsRow lo e z v' (m + k) (xs ++ ys) → w.grownBy w' sv.v.ownBlock →
      (∀ j,v'.ownBlock = some j → sv.v.ownBlock = some j ∨ w.heap.size ≤ j) → ∃ (s':SV) (w':World),(Builtin.append_ #[t,t] ty #[sv.v,sy.v]).run P w = .ok s'.v w' ∧ Upd (.row lo sv.v e z m xs) (.row lo s'.v e z (m + k) (xs ++ ys)) w w':=by
    intro v' w' hr h2 h3 h4
    have hv:∃ s':SV,v' = s'.v:=by
      rcases h2.2 with ⟨rfl,h0⟩ | ⟨g,cap,cur,rfl,_⟩
      · exact ⟨SV.nil,rfl⟩
      · exact ⟨⟨some ⟨g,0,none⟩,_,cap⟩,rfl⟩
    obtain ⟨s',rfl⟩:=hv
    exact ⟨s',w',hr,⟨⟨h3.os,h3.tape,h3.output⟩,h3.size,fun k hk hf=>h3.block k hk fun e'=>hf (by simpa [Res.fp] using e'.symm),h2,h4⟩⟩
  have hc:=hy.cells
  have hln:=hy.len
  have hn:=hy.n
  obtain ⟨sa,sl,sc⟩:=sy
  cases sa with
  | some ad =>
    obtain ⟨h2,h3⟩:=hc
    obtain ⟨b,off,sp⟩:=ad
    simp only at h2 h3 hln
    subst h2 hln
    have hcell:∀ j u,ys[j]? = some u → w.cell? ((⟨b,off,none⟩ : Addr).add j) = some u:=fun j u hu=>by rw [dZ]; exact h3 j u hu
    obtain ⟨v',w',hr,h4,h5,_⟩:=run_append_own (P:=P) w lo t ty e i zv z i.bytes ht hi hz hsize rfl hzs hpos sv.v m xs hown ⟨b,off,none⟩ sl sc ys hn hcell h1 h63 hbytes hlo
    exact fin v' w' hr h4 h5 (oW ht hi hz hsize rfl hown hn hcell h1 h63 hbytes hr)
  | none =>
    obtain ⟨h2,h3⟩:=hc
    simp only at h2 h3 hln
    subst h2 h3
    subst hln
    have hys:ys = []:=List.eq_nil_of_length_eq_zero (by simpa using hn)
    subst hys
    refine fin sv.v w ?_ (by simpa using hown) ⟨rfl,rfl,rfl,Nat.le_refl _,fun _ _ _=>rfl⟩ fun j hj=>.inl hj
    have hcap:sv.len ≤ sv.cap:=by
      rcases hown.2 with ⟨h,_⟩ | ⟨g,cap,cur,h,_,_,h',_⟩
      · obtain ⟨sa,sl,sc⟩:=sv; cases h; exact Nat.le_refl _
      · obtain ⟨sa,sl,sc⟩:=sv; cases h; exact h'
    obtain ⟨sa,sl,sc⟩:=sv
    have hcap':sl ≤ sc:=hcap
    cases sa <;> simp [Builtin.append_,run_underlying ht,sizeOf,typeInfo,hi,Builtin.lenOf,Builtin.firstCells,storeCells,hcap']
theorem app_grow {e lo k z b off len cap:Nat} {sy:SV} {xs ys:List Value} {t ty:Nat} {i:TypeInfo} {zv:Value} (ht:P.underlying t = some (.slice e)) (hi:P.info? e = some i) (hz:i.zero = some zv)
    (hsize:i.size = z) (hzs:zv.cells.size = z) (hx:SlU w ⟨some ⟨b,off,none⟩,len,cap⟩ len z xs) (hy:SlU w sy k z ys) (hg:cap < len + k)
    (h63:len + k ≤ maxLen) (hbytes:(len + k) * i.bytes ≤ 140737488355328) (hlo:lo ≤ w.heap.size) :
    ∃ (s':SV) (w':World),(Builtin.append_ #[t,t] ty #[.slice (some ⟨b,off,none⟩) len cap,sy.v]).run P w = .ok s'.v w' ∧ Added (.row lo s'.v e z (len + k) (xs ++ ys)) w w':=by
  subst hsize
  have hroom:=hx.room
  simp only at hroom
  have hc:=hy.cells
  have hln:=hy.len
  have hn:=hy.n
  obtain ⟨sa,sl,sc⟩:=sy
  cases sa with
  | none=>have:=hc.1; omega
  | some ad =>
    obtain ⟨h2,h3⟩:=hc
    obtain ⟨b',off',sp⟩:=ad
    simp only at h2 h3 hln
    subst h2 hln
    have hcell:∀ j u,ys[j]? = some u → w.cell? ((⟨b',off',none⟩ : Addr).add j) = some u:=fun j u hu=>by rw [dZ]; exact h3 j u hu
    have hcellx:∀ j u,xs[j]? = some u → w.cell? ((⟨b,off,none⟩ : Addr).add j) = some u:=fun j u hu=>by rw [dZ]; exact hx.cells.2 j u hu
    have hm:(len + sl:Nat) ≤ 9223372036854775807:=by simp only [maxLen] at h63; omega
    have hr:=run_append_grow (P:=P) w t ty e i zv ht hi hz ⟨b,off,none⟩ len cap xs hx.n hcellx ⟨b',off',none⟩ sl sc ys hn hcell hg (by omega) (growslice_fits (by omega) hbytes)
    have hge:=grownCap_ge w (len + sl) cap e
    have hcm:grownCap w (len + sl) cap e ≤ maxLen:=grownCap_le_maxLen w (len + sl) cap e h63
    have hlen:(xs ++ ys).length = (len + sl) * i.size:=by rw [List.length_append,hx.n,hn,Nat.add_mul]
    refine ⟨⟨some ⟨w.heap.size,0,none⟩,len + sl,grownCap w (len + sl) cap e⟩,_,hr,?_⟩
    refine ⟨⟨⟨rfl,rfl,rfl⟩,by simp,fun j hj _=>heap_alloc_old (w:=w.drew) _ hj⟩,⟨hlen,.inr ⟨w.heap.size,_,_,rfl,hlo,heap_alloc_new w.drew _,hge,hcm,?_,?_⟩⟩,fun j hj=>?_⟩
    · simp only [Array.size_append,List.size_toArray,size_zeroCells,hzs,hx.n,hn,← Nat.add_mul]
      congr 1
      omega
    · simp only [Array.toList_append,List.append_assoc]
      rw [← List.append_assoc,← hlen]
      exact List.take_left
    · simp [Res.fp,SV.v,Value.ownBlock] at hj; omega
end
end Go.Ev
end
section
namespace Go.Fw
set_option linter.unusedVariables false
set_option linter.unusedSimpArgs false
structure Full (e lo:Nat) (s:SV) (l:List UInt8) (w:World):Prop where
  ex:∃ g fz,s = ⟨some ⟨g,0,none⟩,l.length,l.length⟩ ∧ lo ≤ g ∧ w.heap[g]? = some (.cells (encs l).toArray e fz)
structure Wr (T e lo wb:Nat) (c:Bool) (l:List UInt8) (fp:Nat → Prop) (w:World):Prop where
  ge:lo ≤ wb
  ex:∃ s:SV,w.heap[wb]? = some (.cells #[s.v] T (0,0)) ∧ (Own lo w e s l ∨ (c = false ∧ Full e lo s l w)) ∧ ∀ k,fp k ↔ (k = wb ∨ s.v.ownBlock = some k)
abbrev wrR (T e lo wb:Nat) (c:Bool) (l:List UInt8) (fp:Nat → Prop):Res:=.gen fp (Wr T e lo wb c l fp)
section
variable {T e lo wb:Nat} {c c':Bool} {l l':List UInt8} {fp fp':Nat → Prop} {w w' w0 wb0:World} {L:List Res}
theorem Wr.lt (h:Wr T e lo wb c l fp w) {k:Nat} (hk:fp k):lo ≤ k ∧ k < w.heap.size:=by
  obtain ⟨s,h1,h2,h3⟩:=h.ex
  rcases (h3 k).1 hk with rfl | h4
  · exact ⟨h.ge,(Array.getElem?_eq_some_iff.1 h1).1⟩
  · rcases h2 with h2 | ⟨_,⟨g,fz,rfl,hg,hh⟩⟩
    · exact World.ownsRow.lt h2 k h4
    · simp only [SV.v,Value.ownBlock,Option.some.injEq] at h4
      subst h4
      exact ⟨hg,(Array.getElem?_eq_some_iff.1 hh).1⟩
theorem Wr.keep (h:Wr T e lo wb c l fp w) (hio:Io w w') (hs:w.heap.size ≤ w'.heap.size) (hk:∀ k,fp k → w'.heap[k]? = w.heap[k]?):Wr T e lo wb c l fp w':=by
  obtain ⟨s,h1,h2,h3⟩:=h.ex
  refine ⟨h.ge,s,by rw [hk wb ((h3 wb).2 (.inl rfl))]; exact h1,?_,h3⟩
  rcases h2 with h2 | ⟨hc,⟨g,fz,rfl,hg,hh⟩⟩
  · exact .inl (Res.keep (r:=.row lo s.v e (Enc.sz UInt8) l.length (encs l)) h2 hio hs fun k hk'=>hk k ((h3 k).2 (.inr hk')))
  · exact .inr ⟨hc,⟨g,fz,rfl,hg,by rw [hk g ((h3 g).2 (.inr rfl))]; exact hh⟩⟩
theorem Wr.holds (h:Wr T e lo wb c l fp w):(wrR T e lo wb c l fp).holds w:=⟨fun k hk=>(h.lt hk).2,fun w' a b d=>h.keep a b d⟩
end
section
variable {P:Program} {n:Nat} {F:List (Nat × Value)} {a:Act} {dd:List Deferred} {w:World} {o:Oper} {J:Value → World → Prop}
end
end Go.Fw
end
section
namespace Go.Fx
open Go Go.Fw
set_option linter.unusedVariables false
set_option linter.unusedSimpArgs false
def Ext (e:Nat) (s:SV) (l:List UInt8) (w:World):Prop:=Own 0 w e s l ∨ Full e 0 s l w
abbrev fowL (e:Nat) (s:SV) (l:List UInt8):Res:=.gen (fun k=>s.v.ownBlock = some k) (Ext e s l)
section
variable {e:Nat} {s:SV} {l:List UInt8} {w w':World} {L:List Res}
theorem yZ (h:Full e 0 s l w):SliceOf 0 w s l:=by
  obtain ⟨g,fz,rfl,_,hh⟩:=h.ex
  exact ⟨rfl,Nat.le_refl _,.inr rfl,Nat.zero_le _,kT (n:=(encs l).length) hh (bB rfl)⟩
theorem aBd (h:Full e 0 s l w) (hk:∀ k,s.v.ownBlock = some k → w'.heap[k]? = w.heap[k]?):Full e 0 s l w':=by
  obtain ⟨g,fz,rfl,h0,hh⟩:=h.ex
  exact ⟨g,fz,rfl,h0,by rw [hk g rfl]; exact hh⟩
theorem Ext.slice (h:Ext e s l w):SliceOf 0 w s l:=h.elim Own.slice yZ
theorem Ext.holds (h:Ext e s l w):(fowL e s l).holds w:=by
  refine ⟨fun k hk=>?_,fun w' hio hs hk=>?_⟩
  · rcases h with h | h
    · exact (World.ownsRow.lt h k hk).2
    · obtain ⟨g,fz,rfl,_,hh⟩:=h.ex
      simp only [SV.v,Value.ownBlock,Option.some.injEq] at hk; subst hk
      exact (Array.getElem?_eq_some_iff.1 hh).1
  · rcases h with h | h
    · exact .inl (Res.keep (r:=.row 0 s.v e (Enc.sz UInt8) l.length (encs l)) h hio hs hk)
    · exact .inr (aBd h hk)
end
section
variable {P:Program} {n:Nat} {F:List (Nat × Value)} {a:Act} {dd:List Deferred} {w:World} {o:Oper} {J:Value → World → Prop}
end
end Go.Fx
end
section
namespace Go.Proofs
open Go.Fw
set_option maxRecDepth 20000
def LVal.zero:LVal:=⟨0,0,0,0⟩
def LSlot.zero:LSlot:=⟨LVal.zero,⟨List.replicate 8 0,rfl⟩,0⟩
def LTurn.zero:LTurn:=⟨0,LVal.zero,LVal.zero⟩
def LCell.zero:LCell:=⟨0,LSlot.zero,LSlot.zero⟩
def RPiece.zero:RPiece:=⟨0,0,SV.nil,SV.nil⟩
def RMark.zero:RMark:=⟨0,0,false,SV.nil,SV.nil,SV.nil,SV.nil⟩
def RInput.zero:RInput:=⟨SV.nil,SV.nil⟩
def RRecord.zero:RRecord:=⟨RInput.zero,SV.nil,0⟩
def LTbl.zero:LTbl:=⟨0,0⟩
def LIns.zero:LIns:=⟨0,false,false,0,0,0,0,0⟩
def RProgram.zero:RProgram:=⟨0,0,SV.nil,SV.nil,SV.nil⟩
def RState.zero:RState:=⟨⟨List.replicate 11 LVal.zero,rfl⟩,⟨List.replicate 32 LSlot.zero,rfl⟩,SV.nil,SV.nil,SV.nil,0,0,false⟩
def ROutput.zero:ROutput:=⟨0,SV.nil,SV.nil,SV.nil⟩
def RWriter.zero:RWriter:=⟨SV.nil⟩
def RReader.zero:RReader:=⟨SV.nil,0,0,0⟩
def RCursor.zero:RCursor:=⟨SV.nil,0,0,0⟩
def RMemory.zero:RMemory:=⟨⟨List.replicate 32 LSlot.zero,rfl⟩,SV.nil,SV.nil,SV.nil,SV.nil⟩
def RMachine.zero:RMachine:=⟨RMemory.zero,SV.nil,SV.nil,none,⟨List.replicate 11 LVal.zero,rfl⟩,SV.nil,0,0,false⟩
def LCl.zero:LCl:=⟨false,0,0,0⟩
def RM.zero:RM:=⟨RProgram.zero,SV.nil,⟨List.replicate 11 LVal.zero,rfl⟩,⟨List.replicate 256 LCl.zero,rfl⟩,SV.nil,SV.nil,SV.nil,SV.nil,0,0,false⟩
def LRw.zero:LRw:=⟨0,0,0,false,false,0,0,0,0,0,false⟩
def LSpan.zero:LSpan:=⟨0,0,false,false⟩
def RSig.zero:RSig:=⟨SV.nil,LSpan.zero⟩
def RLender.zero:RLender:=⟨SV.nil⟩
def LOrdU.zero:LOrdU:=⟨0,0⟩
def LOrdI.zero:LOrdI:=⟨0,0⟩
end Go.Proofs
end
section
namespace Go.Fx
open Go Go.Fw
set_option linter.unusedVariables false
structure QPiece where
  table:Int
  from_:Int
  old:List UInt8
  new:List UInt8
deriving DecidableEq
def QPieceIn (L:World → Prop) (x:RPiece) (p:QPiece):Prop:=∃ (s_old:SV) (s_new:SV),x = (RPiece.mk p.table p.from_ s_old s_new) ∧ LIn L s_old p.old ∧ LIn L s_new p.new
theorem QPieceIn.mono {L L':World → Prop} {x:RPiece} {p:QPiece} (h:QPieceIn L x p) (k:∀ w,L' w → L w):QPieceIn L' x p:=by
  obtain ⟨s_old,s_new,e,h0,h1⟩:=h
  exact ⟨s_old,s_new,e,h0.mono k,h1.mono k⟩
structure QMark where
  at_:Int
  next:Int
  done:Bool
  regs:List LTurn
  slots:List LCell
  pieces:List QPiece
  sent:List Int
deriving DecidableEq
def QMarkIn (L:World → Prop) (x:RMark) (p:QMark):Prop:=∃ (s_regs:SV) (s_slots:SV) (s_pieces:SV) (h_pieces:List RPiece) (s_sent:SV),x = (RMark.mk p.at_ p.next p.done s_regs s_slots s_pieces s_sent) ∧ LIn L s_regs p.regs ∧ LIn L s_slots p.slots ∧ LIn L s_pieces h_pieces ∧ Each (QPieceIn L) h_pieces p.pieces ∧ LIn L s_sent p.sent
theorem QMarkIn.mono {L L':World → Prop} {x:RMark} {p:QMark} (h:QMarkIn L x p) (k:∀ w,L' w → L w):QMarkIn L' x p:=by
  obtain ⟨s_regs,s_slots,s_pieces,h_pieces,s_sent,e,h0,h1,h2,h3,h4⟩:=h
  exact ⟨s_regs,s_slots,s_pieces,h_pieces,s_sent,e,h0.mono k,h1.mono k,h2.mono k,h3.mono fun _ _ q=>q.mono k,h4.mono k⟩
structure QInput where
  ctx:List UInt8
  tables:List (List UInt8)
deriving DecidableEq
def QInputIn (L:World → Prop) (x:RInput) (p:QInput):Prop:=∃ (s_ctx:SV) (s_tables:SV) (h_tables:List SV),x = (RInput.mk s_ctx s_tables) ∧ LIn L s_ctx p.ctx ∧ LIn L s_tables h_tables ∧ Each (LIn (X:=UInt8) L) h_tables p.tables
theorem QInputIn.mono {L L':World → Prop} {x:RInput} {p:QInput} (h:QInputIn L x p) (k:∀ w,L' w → L w):QInputIn L' x p:=by
  obtain ⟨s_ctx,s_tables,h_tables,e,h0,h1,h2⟩:=h
  exact ⟨s_ctx,s_tables,h_tables,e,h0.mono k,h1.mono k,h2.mono fun _ _ q=>q.mono k⟩
structure QRecord where
  in_:QInput
  marks:List QMark
  end_:Int
deriving DecidableEq
def QRecordIn (L:World → Prop) (x:RRecord) (p:QRecord):Prop:=∃ (s_in__ctx:SV) (s_in__tables:SV) (h_in__tables:List SV) (s_marks:SV) (h_marks:List RMark),x = (RRecord.mk (RInput.mk s_in__ctx s_in__tables) s_marks p.end_) ∧ LIn L s_in__ctx p.in_.ctx ∧ LIn L s_in__tables h_in__tables ∧ Each (LIn (X:=UInt8) L) h_in__tables p.in_.tables ∧ LIn L s_marks h_marks ∧ Each (QMarkIn L) h_marks p.marks
theorem QRecordIn.mono {L L':World → Prop} {x:RRecord} {p:QRecord} (h:QRecordIn L x p) (k:∀ w,L' w → L w):QRecordIn L' x p:=by
  obtain ⟨s_in__ctx,s_in__tables,h_in__tables,s_marks,h_marks,e,h0,h1,h2,h3,h4⟩:=h
  exact ⟨s_in__ctx,s_in__tables,h_in__tables,s_marks,h_marks,e,h0.mono k,h1.mono k,h2.mono fun _ _ q=>q.mono k,h3.mono k,h4.mono fun _ _ q=>q.mono k⟩
structure QProgram where
  lo:Int
  hi:Int
  data:List UInt8
  tables:List LTbl
  code:List LIns
deriving DecidableEq
def QProgramIn (L:World → Prop) (x:RProgram) (p:QProgram):Prop:=∃ (s_data:SV) (s_tables:SV) (s_code:SV),x = (RProgram.mk p.lo p.hi s_data s_tables s_code) ∧ LIn L s_data p.data ∧ LIn L s_tables p.tables ∧ LIn L s_code p.code
theorem QProgramIn.mono {L L':World → Prop} {x:RProgram} {p:QProgram} (h:QProgramIn L x p) (k:∀ w,L' w → L w):QProgramIn L' x p:=by
  obtain ⟨s_data,s_tables,s_code,e,h0,h1,h2⟩:=h
  exact ⟨s_data,s_tables,s_code,e,h0.mono k,h1.mono k,h2.mono k⟩
structure QState where
  regs:Vec LVal 11
  stack:Vec LSlot 32
  ctx:List UInt8
  tables:List (List UInt8)
  sent:List Int
  at_:Int
  steps:Int
  done:Bool
deriving DecidableEq
def QStateIn (L:World → Prop) (x:RState) (p:QState):Prop:=∃ (s_ctx:SV) (s_tables:SV) (h_tables:List SV) (s_sent:SV),x = (RState.mk p.regs p.stack s_ctx s_tables s_sent p.at_ p.steps p.done) ∧ LIn L s_ctx p.ctx ∧ LIn L s_tables h_tables ∧ Each (LIn (X:=UInt8) L) h_tables p.tables ∧ LIn L s_sent p.sent
theorem QStateIn.mono {L L':World → Prop} {x:RState} {p:QState} (h:QStateIn L x p) (k:∀ w,L' w → L w):QStateIn L' x p:=by
  obtain ⟨s_ctx,s_tables,h_tables,s_sent,e,h0,h1,h2,h3⟩:=h
  exact ⟨s_ctx,s_tables,h_tables,s_sent,e,h0.mono k,h1.mono k,h2.mono fun _ _ q=>q.mono k,h3.mono k⟩
structure QOutput where
  r0:Int
  ctx:List UInt8
  tables:List (List UInt8)
  sent:List Int
deriving DecidableEq
def QOutputIn (L:World → Prop) (x:ROutput) (p:QOutput):Prop:=∃ (s_ctx:SV) (s_tables:SV) (h_tables:List SV) (s_sent:SV),x = (ROutput.mk p.r0 s_ctx s_tables s_sent) ∧ LIn L s_ctx p.ctx ∧ LIn L s_tables h_tables ∧ Each (LIn (X:=UInt8) L) h_tables p.tables ∧ LIn L s_sent p.sent
theorem QOutputIn.mono {L L':World → Prop} {x:ROutput} {p:QOutput} (h:QOutputIn L x p) (k:∀ w,L' w → L w):QOutputIn L' x p:=by
  obtain ⟨s_ctx,s_tables,h_tables,s_sent,e,h0,h1,h2,h3⟩:=h
  exact ⟨s_ctx,s_tables,h_tables,s_sent,e,h0.mono k,h1.mono k,h2.mono fun _ _ q=>q.mono k,h3.mono k⟩
structure QWriter where
  b:List UInt8
deriving DecidableEq
def QWriterIn (L:World → Prop) (x:RWriter) (p:QWriter):Prop:=∃ (s_b:SV),x = (RWriter.mk s_b) ∧ LIn L s_b p.b
theorem QWriterIn.mono {L L':World → Prop} {x:RWriter} {p:QWriter} (h:QWriterIn L x p) (k:∀ w,L' w → L w):QWriterIn L' x p:=by
  obtain ⟨s_b,e,h0⟩:=h
  exact ⟨s_b,e,h0.mono k⟩
structure QReader where
  b:List UInt8
  at_:Int
  place:Int
  e:Int
deriving DecidableEq
def QReaderIn (L:World → Prop) (x:RReader) (p:QReader):Prop:=∃ (s_b:SV),x = (RReader.mk s_b p.at_ p.place p.e) ∧ LIn L s_b p.b
theorem QReaderIn.mono {L L':World → Prop} {x:RReader} {p:QReader} (h:QReaderIn L x p) (k:∀ w,L' w → L w):QReaderIn L' x p:=by
  obtain ⟨s_b,e,h0⟩:=h
  exact ⟨s_b,e,h0.mono k⟩
structure QCursor where
  b:List UInt8
  at_:Int
  place:Int
  e:Int
deriving DecidableEq
def QCursorIn (L:World → Prop) (x:RCursor) (p:QCursor):Prop:=∃ (s_b:SV),x = (RCursor.mk s_b p.at_ p.place p.e) ∧ LIn L s_b p.b
theorem QCursorIn.mono {L L':World → Prop} {x:RCursor} {p:QCursor} (h:QCursorIn L x p) (k:∀ w,L' w → L w):QCursorIn L' x p:=by
  obtain ⟨s_b,e,h0⟩:=h
  exact ⟨s_b,e,h0.mono k⟩
structure QMemory where
  stack:Vec LSlot 32
  ctx:List UInt8
  tables:List (List UInt8)
  data:List UInt8
  sizes:List LTbl
deriving DecidableEq
def QMemoryIn (L:World → Prop) (x:RMemory) (p:QMemory):Prop:=∃ (s_ctx:SV) (s_tables:SV) (h_tables:List SV) (s_data:SV) (s_sizes:SV),x = (RMemory.mk p.stack s_ctx s_tables s_data s_sizes) ∧ LIn L s_ctx p.ctx ∧ LIn L s_tables h_tables ∧ Each (LIn (X:=UInt8) L) h_tables p.tables ∧ LIn L s_data p.data ∧ LIn L s_sizes p.sizes
theorem QMemoryIn.mono {L L':World → Prop} {x:RMemory} {p:QMemory} (h:QMemoryIn L x p) (k:∀ w,L' w → L w):QMemoryIn L' x p:=by
  obtain ⟨s_ctx,s_tables,h_tables,s_data,s_sizes,e,h0,h1,h2,h3,h4⟩:=h
  exact ⟨s_ctx,s_tables,h_tables,s_data,s_sizes,e,h0.mono k,h1.mono k,h2.mono fun _ _ q=>q.mono k,h3.mono k,h4.mono k⟩
structure QM where
  p:QProgram
  units:List Int
  regs:Vec LVal 11
  cells:Vec LCl 256
  ptrs:List LVal
  ctx:List UInt8
  tables:List (List UInt8)
  sent:List Int
  at_:Int
  steps:Int
  done:Bool
deriving DecidableEq
def QMIn (L:World → Prop) (x:RM) (p:QM):Prop:=∃ (s_p_data:SV) (s_p_tables:SV) (s_p_code:SV) (s_units:SV) (s_ptrs:SV) (s_ctx:SV) (s_tables:SV) (h_tables:List SV) (s_sent:SV),x = (RM.mk (RProgram.mk p.p.lo p.p.hi s_p_data s_p_tables s_p_code) s_units p.regs p.cells s_ptrs s_ctx s_tables s_sent p.at_ p.steps p.done) ∧ LIn L s_p_data p.p.data ∧ LIn L s_p_tables p.p.tables ∧ LIn L s_p_code p.p.code ∧ LIn L s_units p.units ∧ LIn L s_ptrs p.ptrs ∧ LIn L s_ctx p.ctx ∧ LIn L s_tables h_tables ∧ Each (LIn (X:=UInt8) L) h_tables p.tables ∧ LIn L s_sent p.sent
theorem QMIn.mono {L L':World → Prop} {x:RM} {p:QM} (h:QMIn L x p) (k:∀ w,L' w → L w):QMIn L' x p:=by
  obtain ⟨s_p_data,s_p_tables,s_p_code,s_units,s_ptrs,s_ctx,s_tables,h_tables,s_sent,e,h0,h1,h2,h3,h4,h5,h6,h7,h8⟩:=h
  exact ⟨s_p_data,s_p_tables,s_p_code,s_units,s_ptrs,s_ctx,s_tables,h_tables,s_sent,e,h0.mono k,h1.mono k,h2.mono k,h3.mono k,h4.mono k,h5.mono k,h6.mono k,h7.mono fun _ _ q=>q.mono k,h8.mono k⟩
structure QSig where
  args:List Int
  ret:LSpan
deriving DecidableEq
def QSigIn (L:World → Prop) (x:RSig) (p:QSig):Prop:=∃ (s_args:SV),x = (RSig.mk s_args p.ret) ∧ LIn L s_args p.args
theorem QSigIn.mono {L L':World → Prop} {x:RSig} {p:QSig} (h:QSigIn L x p) (k:∀ w,L' w → L w):QSigIn L' x p:=by
  obtain ⟨s_args,e,h0⟩:=h
  exact ⟨s_args,e,h0.mono k⟩
structure QLender where
  room:List UInt8
deriving DecidableEq
def QLenderIn (L:World → Prop) (x:RLender) (p:QLender):Prop:=∃ (s_room:SV),x = (RLender.mk s_room) ∧ LIn L s_room p.room
theorem QLenderIn.mono {L L':World → Prop} {x:RLender} {p:QLender} (h:QLenderIn L x p) (k:∀ w,L' w → L w):QLenderIn L' x p:=by
  obtain ⟨s_room,e,h0⟩:=h
  exact ⟨s_room,e,h0.mono k⟩
end Go.Fx
end
section
namespace Go.Proofs
open Go Go.Fw Go.Fx
set_option maxRecDepth 10000
set_option linter.unusedVariables false
set_option linter.unusedSimpArgs false
def Sh.iH:Option Bool:=some true
noncomputable def Sh.fA (x0:List UInt8):Option (List UInt8):=Fx.app 1 [] x0
noncomputable def Sh.eO (x0:List Int):Option (List Int):=Fx.app 8 [] x0
noncomputable def Sh.eJ (x0:List (List UInt8)):Option (List (List UInt8)):=Fx.app 24 [] x0
end Go.Proofs
end
section
namespace Go.Proofs
open Go Go.Fw Go.Fx
set_option maxRecDepth 10000
set_option linter.unusedVariables false
set_option linter.unusedSimpArgs false
noncomputable def Sh.aB (x0:QReader) (x1:Int) (x2:Int):Option QReader :=
 (bif (decide (x0.e = 0)) then (some (QReader.mk x0.b x0.at_ x1 x2)) else (some x0))
noncomputable def Sh.cB (x1:Int) (v40:QReader):Option ((List UInt8 × QReader)) :=
 (bif (!decide (v40.e = 0)) then (some ([],v40)) else ((Fx.slc v40.b (IntKind.i64.wrap ((IntKind.i64.wrap (v40.at_ + x1)) - x1)) (IntKind.i64.wrap (v40.at_ + x1))).bind fun x52=>(some (x52,(QReader.mk v40.b (IntKind.i64.wrap (v40.at_ + x1)) v40.place v40.e)))))
noncomputable def Sh.aU (x0:QReader) (x1:Int):Option ((List UInt8 × QReader)) :=
 (Fx.seq (bif (decide ((IntKind.i64.wrap ((x0.b.length:Int) - x0.at_)) < x1)) then ((Sh.aB x0 (x0.b.length:Int) 236).bind fun y45=>(some (Sum.inl y45))) else (some (Sum.inl x0))) fun v40=>Sh.cB x1 v40)
noncomputable def Sh.eB (c1:(List UInt8 × QReader)) (c0:Int) (c2:Int):Option (((Int × Int) ⊕ ((QReader × Int) ⊕ (Int × QReader)))) :=
 (bif (decide (c0 < (c1.1.length:Int))) then ((Fx.get c1.1 c0).bind fun c3=>(Fx.must (decide (0 ≤ (IntKind.i64.wrap (8 * c0)))) (some (Sum.inl ((IntKind.i64.wrap (c0 + 1)),(bor .i64 c2 (shl .i64 (c3.toNat:Int) ((IntKind.i64.wrap (8 * c0))).toNat))))))) else (some (Sum.inr (Sum.inl (c1.2,c2)))))
noncomputable def Sh.lT (c0:QReader) (c1:Int):Option ((Int × QReader)) :=
 (some (c1,c0))
noncomputable def Sh.aA (x0:QReader) (x1:Int):Option ((Int × QReader)) :=
 (Fx.seq ((Sh.aU x0 x1).bind fun c4=>(Fx.loop (fun (c2,c3)=>Sh.eB c4 c2 c3) (0,0))) fun (c0,c1)=>Sh.lT c0 c1)
end Go.Proofs
end
section
namespace Go.Proofs
open Go Go.Fw Go.Fx
set_option maxRecDepth 10000
set_option linter.unusedVariables false
set_option linter.unusedSimpArgs false
noncomputable def Sh.oA (v7:Bool):Option Bool :=
 (some v7)
noncomputable def Sh.bT (x0:Int) (x1:Int) (x2:Int):Option Bool :=
 (Fx.seq (bif (decide (x1 ≤ x0)) then (some (Sum.inl (decide (x0 ≤ x2)))) else (some (Sum.inl false))) fun v7=>Sh.oA v7)
noncomputable def Sh.bX (c0:Int) (c1:List Int):Option (((List Int × Int) ⊕ (List Int ⊕ List Int))) :=
 (some (Sum.inl (c1,(IntKind.i64.wrap (c0 + 1)))))
noncomputable def Sh.aT (x0:List UInt8) (x1:List UInt8) (c1:List Int) (c0:Int):Option (((List Int × Int) ⊕ (List Int ⊕ List Int))) :=
 (bif (decide (c0 < (x0.length:Int))) then (Fx.seq ((Fx.get x0 c0).bind fun c3=>((Fx.get x1 c0).bind fun c4=>(bif (!decide ((c3.toNat:Int) = (c4.toNat:Int))) then ((Fx.app 8 c1 [c0]).bind fun c5=>(some (Sum.inl c5))) else (some (Sum.inl c1))))) fun c2=>Sh.bX c0 c2) else (some (Sum.inr (Sum.inl c1))))
noncomputable def Sh.mN (c0:List Int):Option (List Int) :=
 (some c0)
noncomputable def Sh.cD (x0:List UInt8) (x1:List UInt8):Option (List Int) :=
 (Fx.seq (Fx.loop (fun (c1,c2)=>Sh.aT x0 x1 c1 c2) ([],0)) fun c0=>Sh.mN c0)
noncomputable def Sh.dX (c0:Int) (c1:List Int):Option (((List Int × Int) ⊕ (List Int ⊕ List Int))) :=
 (some (Sum.inl (c1,(IntKind.i64.wrap (c0 + 1)))))
noncomputable def Sh.cN (x0:List LVal) (x1:List LVal) (c1:List Int) (c0:Int):Option (((List Int × Int) ⊕ (List Int ⊕ List Int))) :=
 (bif (decide (c0 < (x0.length:Int))) then (Fx.seq ((Fx.get x0 c0).bind fun c3=>((Fx.get x1 c0).bind fun c4=>(bif (!(decide (c3 = c4))) then ((Fx.app 8 c1 [c0]).bind fun c5=>(some (Sum.inl c5))) else (some (Sum.inl c1))))) fun c2=>Sh.dX c0 c2) else (some (Sum.inr (Sum.inl c1))))
noncomputable def Sh.jT (c0:List Int):Option (List Int) :=
 (some c0)
noncomputable def Sh.fQ (x0:List LVal) (x1:List LVal):Option (List Int) :=
 (Fx.seq (Fx.loop (fun (c1,c2)=>Sh.cN x0 x1 c1 c2) ([],0)) fun c0=>Sh.jT c0)
noncomputable def Sh.eK (c0:Int) (c1:List Int):Option (((List Int × Int) ⊕ (List Int ⊕ List Int))) :=
 (some (Sum.inl (c1,(IntKind.i64.wrap (c0 + 1)))))
noncomputable def Sh.dE (x0:List LSlot) (x1:List LSlot) (c1:List Int) (c0:Int):Option (((List Int × Int) ⊕ (List Int ⊕ List Int))) :=
 (bif (decide (c0 < (x0.length:Int))) then (Fx.seq ((Fx.get x0 c0).bind fun c3=>((Fx.get x1 c0).bind fun c4=>(bif (!(decide (c3 = c4))) then ((Fx.app 8 c1 [c0]).bind fun c5=>(some (Sum.inl c5))) else (some (Sum.inl c1))))) fun c2=>Sh.eK c0 c2) else (some (Sum.inr (Sum.inl c1))))
noncomputable def Sh.jZ (c0:List Int):Option (List Int) :=
 (some c0)
noncomputable def Sh.gE (x0:List LSlot) (x1:List LSlot):Option (List Int) :=
 (Fx.seq (Fx.loop (fun (c1,c2)=>Sh.dE x0 x1 c1 c2) ([],0)) fun c0=>Sh.jZ c0)
noncomputable def Sh.aV (c1:Int) (c0:QPiece) (c2:Int) (c3:Bool):Option (((Int × Int × Int) ⊕ (Unit ⊕ Bool))) :=
 (bif c3 then (some (Sum.inr (Sum.inr false))) else (some (Sum.inl ((IntKind.i64.wrap (c1 + 1)),c2,(IntKind.i64.wrap ((IntKind.i64.wrap (c0.from_ + (c0.old.length:Int))) + 1))))))
noncomputable def Sh.bZ (c1:Int) (c0:QPiece) (c2:Int) (c3:Int):Option (((Int × Int × Int) ⊕ (Unit ⊕ Bool))) :=
 (Fx.seq (bif (decide ((c0.old.length:Int) = 0)) then (some (Sum.inl true)) else (bif (!decide ((c0.new.length:Int) = (c0.old.length:Int))) then (some (Sum.inl true)) else (bif (decide (65535 < (c0.old.length:Int))) then (some (Sum.inl true)) else ((Sh.bT c0.from_ c3 (IntKind.i64.wrap (65535 - (c0.old.length:Int)))).bind fun c5=>(bif (!c5) then (some (Sum.inl true)) else ((Sh.cD c0.old c0.new).bind fun c6=>(some (Sum.inl (decide ((c6.length:Int) < (c0.old.length:Int))))))))))) fun c4=>Sh.aV c1 c0 c2 c4)
noncomputable def Sh.aK (x0:List QPiece) (c1:Int) (c2:Int) (c3:Int):Option (((Int × Int × Int) ⊕ (Unit ⊕ Bool))) :=
 (bif (decide (c1 < (x0.length:Int))) then ((Fx.get x0 c1).bind fun c0=>(Fx.seq ((Sh.bT c0.table c2 7).bind fun c6=>(bif (!c6) then (some (Sum.inr (Sum.inr (Sum.inr false)))) else (bif (decide (c2 < c0.table)) then (some (Sum.inl (c0.table,0))) else (some (Sum.inl (c2,c3)))))) fun (c4,c5)=>Sh.bZ c1 c0 c4 c5)) else (some (Sum.inr (Sum.inl ()))))
noncomputable def Sh.kA:Option Bool :=
 (some true)
noncomputable def Sh.dR (x0:List QPiece):Option Bool :=
 (Fx.seq (Fx.loop (fun (c0,c1,c2)=>Sh.aK x0 c0 c1 c2) (0,(-1),0)) fun _=>Sh.kA)
noncomputable def Sh.mQ (c0:Int) (c2:LTurn) (c1:Bool):Option (((Int × Int) ⊕ (Unit ⊕ Bool))) :=
 (bif c1 then (some (Sum.inr (Sum.inr false))) else (some (Sum.inl ((IntKind.i64.wrap (c0 + 1)),c2.reg))))
noncomputable def Sh.bF (x0:QMark) (c1:Int) (c2:Int):Option (((Int × Int) ⊕ (Unit ⊕ Bool))) :=
 (bif (decide (c1 < (x0.regs.length:Int))) then ((Fx.get x0.regs c1).bind fun c0=>(Fx.seq ((Sh.bT c0.reg (IntKind.i64.wrap (c2 + 1)) 10).bind fun c4=>(bif (!c4) then (some (Sum.inl true)) else (some (Sum.inl (decide (c0.old = c0.new)))))) fun c3=>Sh.mQ c1 c0 c3)) else (some (Sum.inr (Sum.inl ()))))
noncomputable def Sh.mR (c0:Int) (c2:LCell) (c1:Bool):Option (((Int × Int) ⊕ (Unit ⊕ Bool))) :=
 (bif c1 then (some (Sum.inr (Sum.inr false))) else (some (Sum.inl (c2.slot,(IntKind.i64.wrap (c0 + 1))))))
noncomputable def Sh.bG (x0:QMark) (c2:Int) (c1:Int):Option (((Int × Int) ⊕ (Unit ⊕ Bool))) :=
 (bif (decide (c1 < (x0.slots.length:Int))) then ((Fx.get x0.slots c1).bind fun c0=>(Fx.seq ((Sh.bT c0.slot (IntKind.i64.wrap (c2 + 1)) 31).bind fun c4=>(bif (!c4) then (some (Sum.inl true)) else (some (Sum.inl (decide (c0.old = c0.new)))))) fun c3=>Sh.mR c1 c0 c3)) else (some (Sum.inr (Sum.inl ()))))
noncomputable def Sh.cQ (x0:QMark):Option Bool :=
 ((Sh.dR x0.pieces).bind fun c0=>(some c0))
noncomputable def Sh.cP (x0:QMark):Option Bool :=
 (Fx.seq (Fx.loop (fun (c0,c1)=>Sh.bG x0 c0 c1) ((-1),0)) fun _=>Sh.cQ x0)
noncomputable def Sh.cO (x0:QMark) (c0:Bool):Option Bool :=
 (bif c0 then (some false) else (Fx.seq (Fx.loop (fun (c1,c2)=>Sh.bF x0 c1 c2) (0,(-1))) fun _=>Sh.cP x0))
noncomputable def Sh.cE (x0:QMark):Option Bool :=
 (Fx.seq ((Sh.bT x0.at_ 0 4095).bind fun c1=>(bif (!c1) then (some (Sum.inl true)) else ((Sh.bT x0.next 0 4095).bind fun c2=>(bif (!c2) then (some (Sum.inl true)) else (some (Sum.inl (decide (1 < (x0.sent.length:Int))))))))) fun c0=>Sh.cO x0 c0)
noncomputable def Sh.lD (c0:Int) (c1:Bool):Option ((Int ⊕ (Unit ⊕ (Int ⊕ (Bool ⊕ (Bool ⊕ (Bool ⊕ (Bool ⊕ Bool)))))))) :=
 (bif c1 then (some (Sum.inr (Sum.inr (Sum.inl c0)))) else (some (Sum.inl (IntKind.i64.wrap (c0 + 1)))))
noncomputable def Sh.eG (x0:QState) (c0:Int):Option ((Int ⊕ (Unit ⊕ (Int ⊕ (Bool ⊕ (Bool ⊕ (Bool ⊕ (Bool ⊕ Bool)))))))) :=
 (bif (decide (c0 < (x0.tables.length:Int))) then ((Fx.get x0.tables c0).bind fun c2=>(Fx.seq (some (Sum.inl (decide (65535 < (c2.length:Int))))) fun c1=>Sh.lD c0 c1)) else (some (Sum.inr (Sum.inl ()))))
noncomputable def Sh.nK:Option ((Int ⊕ (Bool ⊕ (Bool ⊕ (Bool ⊕ (Bool ⊕ Bool)))))) :=
 (some (Sum.inl (-1)))
noncomputable def Sh.lC (c0:Int):Option ((Bool ⊕ (Bool ⊕ (Bool ⊕ (Bool ⊕ Bool))))) :=
 (some (Sum.inl (decide (0 ≤ c0))))
noncomputable def Sh.lB (c0:Bool):Option ((Bool ⊕ (Bool ⊕ (Bool ⊕ Bool)))) :=
 (some (Sum.inl (!c0)))
noncomputable def Sh.fZ (x0:QState) (c0:Bool):Option ((Bool ⊕ (Bool ⊕ (Bool ⊕ Bool)))) :=
 (bif (!c0) then (bif (decide ((x0.tables.length:Int) ≤ 8)) then (Fx.seq (Fx.seq (Fx.seq (Fx.loop (fun c3=>Sh.eG x0 c3) 0) fun _=>Sh.nK) fun c2=>Sh.lC c2) fun c1=>Sh.lB c1) else (some (Sum.inl false))) else (some (Sum.inl false)))
noncomputable def Sh.gB (c0:Bool):Option ((Bool ⊕ (Bool ⊕ Bool))) :=
 (some (Sum.inl c0))
noncomputable def Sh.fY (c0:Bool):Option ((Bool ⊕ Bool)) :=
 (some (Sum.inl c0))
noncomputable def Sh.gA (c0:Bool):Option Bool :=
 (some c0)
noncomputable def Sh.gI (x0:QState):Option Bool :=
 (Fx.seq ((Sh.bT x0.at_ 0 4095).bind fun c4=>(bif c4 then ((Sh.bT x0.steps 0 4294967296).bind fun c5=>(bif c5 then (Fx.seq (Fx.seq (Fx.seq (some (Sum.inl (decide (65535 < (x0.ctx.length:Int))))) fun c2=>Sh.fZ x0 c2) fun c1=>Sh.gB c1) fun c0=>Sh.fY c0) else (some (Sum.inl false)))) else (some (Sum.inl false)))) fun c3=>Sh.gA c3)
noncomputable def Sh.hH (x0:QState) (x1:QState) (c0:Int):Option ((Int ⊕ (Unit ⊕ Bool))) :=
 (bif (decide (c0 < (x0.tables.length:Int))) then ((Fx.get x0.tables c0).bind fun c1=>((Fx.get x1.tables c0).bind fun c2=>(bif (!decide ((c1.length:Int) = (c2.length:Int))) then (some (Sum.inr (Sum.inr false))) else (some (Sum.inl (IntKind.i64.wrap (c0 + 1))))))) else (some (Sum.inr (Sum.inl ()))))
noncomputable def Sh.hI (x0:QState) (c1:List Int) (c0:Int):Option ((Int ⊕ (Unit ⊕ (Bool ⊕ (Bool ⊕ Bool))))) :=
 (bif (decide (c0 < (x0.sent.length:Int))) then ((Fx.get x0.sent c0).bind fun c2=>((Fx.get c1 c0).bind fun c3=>(bif (!decide (c2 = c3)) then (some (Sum.inr (Sum.inr (Sum.inl false)))) else (some (Sum.inl (IntKind.i64.wrap (c0 + 1))))))) else (some (Sum.inr (Sum.inl ()))))
noncomputable def Sh.qP:Option ((Bool ⊕ (Bool ⊕ Bool))) :=
 (some (Sum.inl true))
noncomputable def Sh.qN (c0:Bool):Option ((Bool ⊕ Bool)) :=
 (some (Sum.inl c0))
noncomputable def Sh.qO (c0:Bool):Option Bool :=
 (some c0)
noncomputable def Sh.nS (x0:QState) (x1:QState):Option Bool :=
 (Fx.seq ((Sh.bT (IntKind.i64.wrap ((x1.sent.length:Int) - (x0.sent.length:Int))) 0 1).bind fun c4=>(bif c4 then ((Fx.slc x1.sent 0 (x0.sent.length:Int)).bind fun c0=>(Fx.seq (bif (!decide ((x0.sent.length:Int) = (c0.length:Int))) then (some (Sum.inl false)) else (Fx.seq (Fx.loop (fun c3=>Sh.hI x0 c0 c3) 0) fun _=>Sh.qP)) fun c2=>Sh.qN c2)) else (some (Sum.inl false)))) fun c1=>Sh.qO c1)
noncomputable def Sh.nR (x0:QState) (x1:QState) (c0:Bool):Option Bool :=
 (bif c0 then (some false) else (Fx.seq (Fx.loop (fun c1=>Sh.hH x0 x1 c1) 0) fun _=>Sh.nS x0 x1))
noncomputable def Sh.oD (x0:QState) (x1:QState):Option Bool :=
 (Fx.seq (bif x0.done then (some (Sum.inl true)) else (bif (!decide (x1.steps = (IntKind.i64.wrap (x0.steps + 1)))) then (some (Sum.inl true)) else (bif (!decide ((x0.ctx.length:Int) = (x1.ctx.length:Int))) then (some (Sum.inl true)) else (some (Sum.inl (!decide ((x0.tables.length:Int) = (x1.tables.length:Int)))))))) fun c0=>Sh.nR x0 x1 c0)
noncomputable def Sh.mO (x0:QState) (x1:Int):Option ((List UInt8 × Bool)) :=
 (bif (decide (x1 < 0)) then (some (x0.ctx,true)) else (bif (decide (x1 < (x0.tables.length:Int))) then ((Fx.get x0.tables x1).bind fun x22=>(some (x22,true))) else (some ([],false))))
noncomputable def Sh.lH (x0:QState) (x1:QMark) (c0:Int):Option ((Int ⊕ (Unit ⊕ Bool))) :=
 (bif (decide (c0 < (x1.regs.length:Int))) then ((Fx.get x1.regs c0).bind fun c1=>((Fx.get x0.regs.l c1.reg).bind fun c2=>(bif (!(decide (c2 = c1.old))) then (some (Sum.inr (Sum.inr false))) else (some (Sum.inl (IntKind.i64.wrap (c0 + 1))))))) else (some (Sum.inr (Sum.inl ()))))
noncomputable def Sh.lI (x0:QState) (x1:QMark) (c0:Int):Option ((Int ⊕ (Unit ⊕ Bool))) :=
 (bif (decide (c0 < (x1.slots.length:Int))) then ((Fx.get x1.slots c0).bind fun c1=>((Fx.get x0.stack.l c1.slot).bind fun c2=>(bif (!(decide (c2 = c1.old))) then (some (Sum.inr (Sum.inr false))) else (some (Sum.inl (IntKind.i64.wrap (c0 + 1))))))) else (some (Sum.inr (Sum.inl ()))))
noncomputable def Sh.pV (c0:Bool):Option ((Bool ⊕ (Int ⊕ (Unit ⊕ Bool)))) :=
 (some (Sum.inl (!c0)))
noncomputable def Sh.nB (c0:Int) (c1:Bool):Option ((Int ⊕ (Unit ⊕ Bool))) :=
 (bif c1 then (some (Sum.inr (Sum.inr false))) else (some (Sum.inl (IntKind.i64.wrap (c0 + 1)))))
noncomputable def Sh.lJ (x0:QState) (x1:QMark) (c1:Int):Option ((Int ⊕ (Unit ⊕ Bool))) :=
 (bif (decide (c1 < (x1.pieces.length:Int))) then ((Fx.get x1.pieces c1).bind fun c0=>((Sh.mO x0 c0.table).bind fun c2=>(Fx.seq (bif (!c2.2) then (some (Sum.inl true)) else (bif (decide ((c2.1.length:Int) < (IntKind.i64.wrap (c0.from_ + (c0.old.length:Int))))) then (some (Sum.inl true)) else ((Fx.slc c2.1 c0.from_ (IntKind.i64.wrap (c0.from_ + (c0.old.length:Int)))).bind fun c5=>(Fx.seq (some (Sum.inl (decide (c5 = c0.old)))) fun c4=>Sh.pV c4)))) fun c3=>Sh.nB c1 c3))) else (some (Sum.inr (Sum.inl ()))))
noncomputable def Sh.pY (x0:QState) (x1:QMark):Option Bool :=
 (some (decide (x0.at_ = x1.at_)))
noncomputable def Sh.pX (x0:QState) (x1:QMark):Option Bool :=
 (Fx.seq (Fx.loop (fun c0=>Sh.lJ x0 x1 c0) 0) fun _=>Sh.pY x0 x1)
noncomputable def Sh.pW (x0:QState) (x1:QMark):Option Bool :=
 (Fx.seq (Fx.loop (fun c0=>Sh.lI x0 x1 c0) 0) fun _=>Sh.pX x0 x1)
noncomputable def Sh.oP (x0:QState) (x1:QMark):Option Bool :=
 (Fx.seq (Fx.loop (fun c0=>Sh.lH x0 x1 c0) 0) fun _=>Sh.pW x0 x1)
noncomputable def Sh.jI (x0:QMark) (c2:List LTurn) (c0:Int):Option (((List LTurn × Int) ⊕ (List LTurn ⊕ QMark))) :=
 (bif (decide (c0 < (x0.regs.length:Int))) then ((Fx.get x0.regs c0).bind fun c1=>((Fx.app 72 c2 [(LTurn.mk c1.reg c1.new c1.old)]).bind fun c3=>(some (Sum.inl (c3,(IntKind.i64.wrap (c0 + 1))))))) else (some (Sum.inr (Sum.inl c2))))
noncomputable def Sh.jJ (x0:QMark) (c2:List LTurn) (c3:List LCell) (c0:Int):Option (((List LTurn × List LCell × Int) ⊕ ((List LTurn × List LCell) ⊕ QMark))) :=
 (bif (decide (c0 < (x0.slots.length:Int))) then ((Fx.get x0.slots c0).bind fun c1=>((Fx.app 104 c3 [(LCell.mk c1.slot c1.new c1.old)]).bind fun c4=>(some (Sum.inl (c2,c4,(IntKind.i64.wrap (c0 + 1))))))) else (some (Sum.inr (Sum.inl (c2,c3)))))
noncomputable def Sh.jK (x0:QMark) (c2:List LTurn) (c3:List LCell) (c4:List QPiece) (c1:Int):Option (((List LTurn × List LCell × List QPiece × Int) ⊕ ((List LTurn × List LCell × List QPiece) ⊕ QMark))) :=
 (bif (decide (c1 < (x0.pieces.length:Int))) then ((Fx.get x0.pieces c1).bind fun c0=>((Fx.app 64 c4 [(QPiece.mk c0.table c0.from_ c0.new c0.old)]).bind fun c5=>(some (Sum.inl (c2,c3,c5,(IntKind.i64.wrap (c1 + 1))))))) else (some (Sum.inr (Sum.inl (c2,c3,c4)))))
noncomputable def Sh.qS (x0:QMark) (c0:List LTurn) (c1:List LCell) (c2:List QPiece):Option QMark :=
 (some (QMark.mk x0.next x0.at_ false c0 c1 c2 []))
noncomputable def Sh.nZ (x0:QMark) (c7:List LTurn) (c8:List LCell):Option QMark :=
 (Fx.seq (Fx.loop (fun (c3,c4,c5,c6)=>Sh.jK x0 c3 c4 c5 c6) (c7,c8,[],0)) fun (c0,c1,c2)=>Sh.qS x0 c0 c1 c2)
noncomputable def Sh.nY (x0:QMark) (c0:List LTurn):Option QMark :=
 (Fx.seq (Fx.loop (fun (c3,c4,c5)=>Sh.jJ x0 c3 c4 c5) (c0,[],0)) fun (c1,c2)=>Sh.nZ x0 c1 c2)
noncomputable def Sh.mT (x0:QMark):Option QMark :=
 (Fx.seq (Fx.loop (fun (c1,c2)=>Sh.jI x0 c1 c2) ([],0)) fun c0=>Sh.nY x0 c0)
end Go.Proofs
end
section
namespace Go.Proofs
open Go Go.Fw Go.Fx
set_option maxRecDepth 10000
set_option linter.unusedVariables false
set_option linter.unusedSimpArgs false
noncomputable def Sh.aL (x0:QCursor) (x1:Int) (x2:Int):Option QCursor :=
 (bif (decide (x0.e = 0)) then (some (QCursor.mk x0.b x0.at_ x1 x2)) else (some x0))
noncomputable def Sh.dB (x0:QCursor) (c0:Bool):Option ((QCursor ⊕ (Int × QCursor))) :=
 (bif c0 then ((Sh.aL x0 (x0.b.length:Int) 236).bind fun c1=>(some (Sum.inl c1))) else (some (Sum.inl x0)))
noncomputable def Sh.eA (c1:QCursor) (c2:Int) (c0:Int):Option (((Int × Int) ⊕ (Int ⊕ (Int × QCursor)))) :=
 (bif (decide (0 ≤ c0)) then ((Fx.get c1.b (IntKind.i64.wrap (c1.at_ + c0))).bind fun c3=>(some (Sum.inl ((IntKind.u64.wrap ((IntKind.u64.wrap (c2 * 256)) + (c3.toNat:Int))),(IntKind.i64.wrap (c0 - 1)))))) else (some (Sum.inr (Sum.inl c2))))
noncomputable def Sh.iK (x1:Int) (c0:QCursor) (c1:Int):Option ((Int × QCursor)) :=
 (some ((IntKind.i64.wrap c1),(QCursor.mk c0.b (IntKind.i64.wrap (c0.at_ + x1)) c0.place c0.e)))
noncomputable def Sh.dA (x1:Int) (c0:QCursor):Option ((Int × QCursor)) :=
 (bif (!decide (c0.e = 0)) then (some (0,c0)) else (Fx.seq (Fx.loop (fun (c2,c3)=>Sh.eA c0 c2 c3) (0,(IntKind.i64.wrap (x1 - 1)))) fun c1=>Sh.iK x1 c0 c1))
noncomputable def Sh.aC (x0:QCursor) (x1:Int):Option ((Int × QCursor)) :=
 (Fx.seq (Fx.seq (bif (decide (x0.e = 0)) then (some (Sum.inl (decide ((x0.b.length:Int) < (IntKind.i64.wrap (x0.at_ + x1)))))) else (some (Sum.inl false))) fun c1=>Sh.dB x0 c1) fun c0=>Sh.dA x1 c0)
end Go.Proofs
end
section
namespace Go.Proofs
open Go Go.Fw Go.Fx
set_option maxRecDepth 10000
set_option linter.unusedVariables false
set_option linter.unusedSimpArgs false
noncomputable def Sh.nQ (v7:Bool):Option Bool :=
 (some v7)
noncomputable def Sh.bR (x0:Int) (x1:Int) (x2:Int):Option Bool :=
 (Fx.seq (bif (decide (x1 ≤ x0)) then (some (Sum.inl (decide (x0 ≤ x2)))) else (some (Sum.inl false))) fun v7=>Sh.nQ v7)
noncomputable def Sh.eF (x0:QInput) (c0:Int):Option ((Int ⊕ (Unit ⊕ Bool))) :=
 (bif (decide (c0 < (x0.tables.length:Int))) then ((Fx.get x0.tables c0).bind fun c1=>(bif (decide (65535 < (c1.length:Int))) then (some (Sum.inr (Sum.inr false))) else (some (Sum.inl (IntKind.i64.wrap (c0 + 1)))))) else (some (Sum.inr (Sum.inl ()))))
noncomputable def Sh.nJ:Option Bool :=
 (some true)
noncomputable def Sh.fX (x0:QInput) (v84:Bool):Option Bool :=
 (bif v84 then (some false) else (Fx.seq (Fx.loop (fun c0=>Sh.eF x0 c0) 0) fun _=>Sh.nJ))
noncomputable def Sh.iE (x0:QInput):Option Bool :=
 (Fx.seq (bif (decide (65535 < (x0.ctx.length:Int))) then (some (Sum.inl true)) else (some (Sum.inl (decide (8 < (x0.tables.length:Int)))))) fun v84=>Sh.fX x0 v84)
noncomputable def Sh.lA (v50:Bool):Option Bool :=
 (some v50)
noncomputable def Sh.eX (x0:QState):Option Bool :=
 (Fx.seq ((Sh.bR x0.at_ 0 4095).bind fun y52=>(bif y52 then ((Sh.bR x0.steps 0 4294967296).bind fun y55=>(bif y55 then ((Sh.iE (QInput.mk x0.ctx x0.tables)).bind fun y58=>(some (Sum.inl y58))) else (some (Sum.inl false)))) else (some (Sum.inl false)))) fun v50=>Sh.lA v50)
noncomputable def Sh.fW (c1:QPiece) (c0:Int):Option ((Int ⊕ (Unit ⊕ (Unit ⊕ (Int ⊕ (Unit ⊕ Bool)))))) :=
 (bif (decide (c0 < (c1.old.length:Int))) then ((Fx.get c1.old c0).bind fun c2=>((Fx.get c1.new c0).bind fun c3=>(bif (decide ((c2.toNat:Int) = (c3.toNat:Int))) then (some (Sum.inr (Sum.inr (Sum.inr (Sum.inr (Sum.inr false)))))) else (some (Sum.inl (IntKind.i64.wrap (c0 + 1))))))) else (some (Sum.inr (Sum.inl ()))))
noncomputable def Sh.hD (c0:Bool):Option ((Unit ⊕ (Int ⊕ (Unit ⊕ Bool)))) :=
 (bif c0 then (some (Sum.inr (Sum.inr (Sum.inr false)))) else (some (Sum.inl ())))
noncomputable def Sh.lO (x0:List QPiece) (c2:Int) (c1:QPiece):Option ((Unit ⊕ (Int ⊕ (Unit ⊕ Bool)))) :=
 (bif (decide (c2 = 0)) then (some (Sum.inl ())) else ((Fx.get x0 (IntKind.i64.wrap (c2 - 1))).bind fun c0=>(Fx.seq (bif (decide (c1.table < c0.table)) then (some (Sum.inl true)) else (bif (decide (c1.table = c0.table)) then (some (Sum.inl (decide (c1.from_ ≤ (IntKind.i64.wrap (c0.from_ + (c0.old.length:Int))))))) else (some (Sum.inl false)))) fun c3=>Sh.hD c3)))
noncomputable def Sh.bI (x0:List QPiece) (c3:Int) (c0:QPiece) (c1:Bool):Option ((Unit ⊕ (Int ⊕ (Unit ⊕ Bool)))) :=
 (bif c1 then (some (Sum.inr (Sum.inr (Sum.inr false)))) else (Fx.seq (Fx.loop (fun c2=>Sh.fW c0 c2) 0) fun _=>Sh.lO x0 c3 c0))
noncomputable def Sh.fV (c0:Int):Option ((Int ⊕ (Unit ⊕ Bool))) :=
 (some (Sum.inl (IntKind.i64.wrap (c0 + 1))))
noncomputable def Sh.eI (x0:List QPiece) (c1:Int):Option ((Int ⊕ (Unit ⊕ Bool))) :=
 (bif (decide (c1 < (x0.length:Int))) then (Fx.seq ((Fx.get x0 c1).bind fun c0=>(Fx.seq ((Sh.bR c0.table (-1) 7).bind fun c3=>(bif (!c3) then (some (Sum.inl true)) else ((Sh.bR c0.from_ 0 65535).bind fun c4=>(bif (!c4) then (some (Sum.inl true)) else (bif (!decide ((c0.old.length:Int) = (c0.new.length:Int))) then (some (Sum.inl true)) else (bif (decide ((c0.old.length:Int) = 0)) then (some (Sum.inl true)) else (some (Sum.inl (decide (65535 < (IntKind.i64.wrap (c0.from_ + (c0.old.length:Int))))))))))))) fun c2=>Sh.bI x0 c1 c0 c2)) fun _=>Sh.fV c1) else (some (Sum.inr (Sum.inl ()))))
noncomputable def Sh.qE:Option Bool :=
 (some true)
noncomputable def Sh.oC (x0:List QPiece):Option Bool :=
 (Fx.seq (Fx.loop (fun c0=>Sh.eI x0 c0) 0) fun _=>Sh.qE)
noncomputable def Sh.oK (c0:Int) (c1:Bool):Option ((Int ⊕ (Unit ⊕ Bool))) :=
 (bif c1 then (some (Sum.inr (Sum.inr false))) else (some (Sum.inl (IntKind.i64.wrap (c0 + 1)))))
noncomputable def Sh.fC (x0:QMark) (c0:Int):Option ((Int ⊕ (Unit ⊕ Bool))) :=
 (bif (decide (c0 < (x0.regs.length:Int))) then ((Fx.get x0.regs c0).bind fun c1=>(Fx.seq ((Sh.bR c1.reg 0 10).bind fun c4=>(bif (!c4) then (some (Sum.inl true)) else (bif (decide (c1.old = c1.new)) then (some (Sum.inl true)) else (bif (decide (0 < c0)) then ((Fx.get x0.regs (IntKind.i64.wrap (c0 - 1))).bind fun c3=>(some (Sum.inl (decide (c1.reg ≤ c3.reg))))) else (some (Sum.inl false)))))) fun c2=>Sh.oK c0 c2)) else (some (Sum.inr (Sum.inl ()))))
noncomputable def Sh.oL (c0:Int) (c1:Bool):Option ((Int ⊕ (Unit ⊕ Bool))) :=
 (bif c1 then (some (Sum.inr (Sum.inr false))) else (some (Sum.inl (IntKind.i64.wrap (c0 + 1)))))
noncomputable def Sh.fD (x0:QMark) (c0:Int):Option ((Int ⊕ (Unit ⊕ Bool))) :=
 (bif (decide (c0 < (x0.slots.length:Int))) then ((Fx.get x0.slots c0).bind fun c1=>(Fx.seq ((Sh.bR c1.slot 0 31).bind fun c4=>(bif (!c4) then (some (Sum.inl true)) else (bif (decide (c1.old = c1.new)) then (some (Sum.inl true)) else (bif (decide (0 < c0)) then ((Fx.get x0.slots (IntKind.i64.wrap (c0 - 1))).bind fun c3=>(some (Sum.inl (decide (c1.slot ≤ c3.slot))))) else (some (Sum.inl false)))))) fun c2=>Sh.oL c0 c2)) else (some (Sum.inr (Sum.inl ()))))
noncomputable def Sh.mE (x0:QMark):Option Bool :=
 ((Sh.oC x0.pieces).bind fun c0=>(some c0))
noncomputable def Sh.mD (x0:QMark):Option Bool :=
 (Fx.seq (Fx.loop (fun c0=>Sh.fD x0 c0) 0) fun _=>Sh.mE x0)
noncomputable def Sh.mC (x0:QMark) (c1:Bool):Option Bool :=
 (bif c1 then (some false) else (Fx.seq (Fx.loop (fun c0=>Sh.fC x0 c0) 0) fun _=>Sh.mD x0))
noncomputable def Sh.iJ (x0:QMark):Option Bool :=
 (Fx.seq ((Sh.bR x0.at_ 0 4095).bind fun c1=>(bif (!c1) then (some (Sum.inl true)) else ((Sh.bR x0.next 0 4095).bind fun c2=>(bif (!c2) then (some (Sum.inl true)) else (some (Sum.inl (decide (1 < (x0.sent.length:Int))))))))) fun c0=>Sh.mC x0 c0)
end Go.Proofs
end
section
namespace Go.Proofs
open Go Go.Fw Go.Fx
set_option maxRecDepth 10000
set_option linter.unusedVariables false
set_option linter.unusedSimpArgs false
noncomputable def Sh.aZ (x0:List UInt8) (x1:List UInt8):Option Bool :=
 (some (decide (x0 = x1)))
noncomputable def Sh.dJ (x0:List Int) (x1:List Int) (c0:Int):Option ((Int ⊕ (Unit ⊕ Bool))) :=
 (bif (decide (c0 < (x0.length:Int))) then ((Fx.get x0 c0).bind fun c1=>((Fx.get x1 c0).bind fun c2=>(bif (!decide (c1 = c2)) then (some (Sum.inr (Sum.inr false))) else (some (Sum.inl (IntKind.i64.wrap (c0 + 1))))))) else (some (Sum.inr (Sum.inl ()))))
noncomputable def Sh.lV:Option Bool :=
 (some true)
noncomputable def Sh.gK (x0:List Int) (x1:List Int):Option Bool :=
 (bif (!decide ((x0.length:Int) = (x1.length:Int))) then (some false) else (Fx.seq (Fx.loop (fun c0=>Sh.dJ x0 x1 c0) 0) fun _=>Sh.lV))
noncomputable def Sh.dK (x0:List (List UInt8)) (x1:List (List UInt8)) (c0:Int):Option ((Int ⊕ (Unit ⊕ Bool))) :=
 (bif (decide (c0 < (x0.length:Int))) then ((Fx.get x0 c0).bind fun c1=>((Fx.get x1 c0).bind fun c2=>((Sh.aZ c1 c2).bind fun c3=>(bif (!c3) then (some (Sum.inr (Sum.inr false))) else (some (Sum.inl (IntKind.i64.wrap (c0 + 1)))))))) else (some (Sum.inr (Sum.inl ()))))
noncomputable def Sh.lW:Option Bool :=
 (some true)
noncomputable def Sh.gL (x0:List (List UInt8)) (x1:List (List UInt8)):Option Bool :=
 (bif (!decide ((x0.length:Int) = (x1.length:Int))) then (some false) else (Fx.seq (Fx.loop (fun c0=>Sh.dK x0 x1 c0) 0) fun _=>Sh.lW))
noncomputable def Sh.lK (v83:Bool):Option Bool :=
 (some v83)
noncomputable def Sh.fT (x0:QState) (x1:QState):Option Bool :=
 (Fx.seq (bif (decide (x0.regs = x1.regs)) then (bif (decide (x0.stack = x1.stack)) then ((Sh.aZ x0.ctx x1.ctx).bind fun y87=>(bif y87 then ((Sh.gL x0.tables x1.tables).bind fun y90=>(bif y90 then ((Sh.gK x0.sent x1.sent).bind fun y93=>(bif y93 then (bif (decide (x0.at_ = x1.at_)) then (bif (decide (x0.steps = x1.steps)) then (some (Sum.inl (decide (x0.done = x1.done)))) else (some (Sum.inl false))) else (some (Sum.inl false))) else (some (Sum.inl false)))) else (some (Sum.inl false)))) else (some (Sum.inl false)))) else (some (Sum.inl false))) else (some (Sum.inl false))) fun v83=>Sh.lK v83)
noncomputable def Sh.dM (x0:QMark) (x1:QMark) (c0:Int):Option ((Int ⊕ (Unit ⊕ Bool))) :=
 (bif (decide (c0 < (x0.regs.length:Int))) then ((Fx.get x0.regs c0).bind fun c1=>((Fx.get x1.regs c0).bind fun c2=>(bif (!(decide (c1 = c2))) then (some (Sum.inr (Sum.inr false))) else (some (Sum.inl (IntKind.i64.wrap (c0 + 1))))))) else (some (Sum.inr (Sum.inl ()))))
noncomputable def Sh.dN (x0:QMark) (x1:QMark) (c0:Int):Option ((Int ⊕ (Unit ⊕ Bool))) :=
 (bif (decide (c0 < (x0.slots.length:Int))) then ((Fx.get x0.slots c0).bind fun c1=>((Fx.get x1.slots c0).bind fun c2=>(bif (!(decide (c1 = c2))) then (some (Sum.inr (Sum.inr false))) else (some (Sum.inl (IntKind.i64.wrap (c0 + 1))))))) else (some (Sum.inr (Sum.inl ()))))
noncomputable def Sh.dL (c0:Int) (c1:Bool):Option ((Int ⊕ (Unit ⊕ Bool))) :=
 (bif c1 then (some (Sum.inr (Sum.inr false))) else (some (Sum.inl (IntKind.i64.wrap (c0 + 1)))))
noncomputable def Sh.dO (x0:QMark) (x1:QMark) (c0:Int):Option ((Int ⊕ (Unit ⊕ Bool))) :=
 (bif (decide (c0 < (x0.pieces.length:Int))) then ((Fx.get x0.pieces c0).bind fun c1=>((Fx.get x1.pieces c0).bind fun c2=>(Fx.seq (bif (!decide (c1.table = c2.table)) then (some (Sum.inl true)) else (bif (!decide (c1.from_ = c2.from_)) then (some (Sum.inl true)) else ((Sh.aZ c1.old c2.old).bind fun c4=>(bif (!c4) then (some (Sum.inl true)) else ((Sh.aZ c1.new c2.new).bind fun c5=>(some (Sum.inl (!c5)))))))) fun c3=>Sh.dL c0 c3))) else (some (Sum.inr (Sum.inl ()))))
noncomputable def Sh.oZ:Option Bool :=
 (some true)
noncomputable def Sh.hN (x0:QMark) (x1:QMark):Option Bool :=
 (Fx.seq (Fx.loop (fun c0=>Sh.dO x0 x1 c0) 0) fun _=>Sh.oZ)
noncomputable def Sh.hM (x0:QMark) (x1:QMark):Option Bool :=
 (Fx.seq (Fx.loop (fun c0=>Sh.dN x0 x1 c0) 0) fun _=>Sh.hN x0 x1)
noncomputable def Sh.bE (x0:QMark) (x1:QMark) (c1:Bool):Option Bool :=
 (bif c1 then (some false) else (Fx.seq (Fx.loop (fun c0=>Sh.dM x0 x1 c0) 0) fun _=>Sh.hM x0 x1))
noncomputable def Sh.cM (x0:QMark) (x1:QMark):Option Bool :=
 (Fx.seq (bif (!decide (x0.at_ = x1.at_)) then (some (Sum.inl true)) else (bif (!decide (x0.next = x1.next)) then (some (Sum.inl true)) else (bif (!(decide (x0.done = x1.done))) then (some (Sum.inl true)) else (bif (!decide ((x0.regs.length:Int) = (x1.regs.length:Int))) then (some (Sum.inl true)) else (bif (!decide ((x0.slots.length:Int) = (x1.slots.length:Int))) then (some (Sum.inl true)) else (bif (!decide ((x0.pieces.length:Int) = (x1.pieces.length:Int))) then (some (Sum.inl true)) else ((Sh.gK x0.sent x1.sent).bind fun c0=>(some (Sum.inl (!c0)))))))))) fun c1=>Sh.bE x0 x1 c1)
end Go.Proofs
end
