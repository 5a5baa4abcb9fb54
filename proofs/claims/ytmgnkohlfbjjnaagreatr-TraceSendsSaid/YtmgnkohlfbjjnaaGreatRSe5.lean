/- Ground for the claim TraceSends. -/
import Derived.RangeFuncRecord
import Derived.RangeFuncIn
import Derived.Test.YtmgnkohlfbjjnaaGreatRSe4
set_option linter.unusedVariables false
set_option linter.unusedSimpArgs false
section
namespace Go.Ev
open Go.Fw
theorem oa.putObj{w:World}{b:Nat}{o o':Obj}(hb:w.heap[b]? = some o):oa (.obj b o) (.obj b o') w (w.putObj b o'):=by
 have hlt:b<w.heap.size:=(aao.1 hb).1
 refine⟨⟨rfl,rfl,rfl⟩,by simp[World.putObj],fun k _ hf=>?_,?_,fun _ hk=>.inl hk⟩
 ·exact World.putObj_heap_other (fun e=>hf e)
 ·exact World.putObj_heap_same hlt
section
variable {I:Ip}{env:Env}{n:Nat}{w0 w:World}{s s':St}{F:Fm}{a:Act}{dd:List Deferred}{P:Program}
theorem G8(h:SR I env w0 s w)(hF:FR I s.nx n F a dd){call:jw}{o:Oper}{t:Nat}{m k x:Operand}{v:AV}(ho:o.op = .mapUpdate t m k x)(hh:lz (fe P) call s F o.op=some (v,s')):Yd P o a.eval w (Left I env w0 s s' v):=by
 rw[ho]at hh
 simp only[lz,acH,acx]at hh
 obtain⟨d,(hd:P.underlying t=some d),um,hm,hh⟩:=hh
 obtain⟨h1,h2⟩:=hF.eval hm
 split at hh
 ·rename_i kt et b
  rw[acx]at hh
  obtain⟨dk,(hdk:P.underlying kt=some dk),hh⟩:=hh
  split at hh
  ·rename_i kd es c hb
   rw[acx]at hh
   obtain⟨uk,hk,hh⟩:=hh
   rw[acx]at hh
   obtain⟨ux,hx,hh⟩:=hh
   rw[acx]at hh
   obtain⟨⟨es',c'⟩,hp,hh⟩:=hh
   simp only[ac9,Prod.mk.injEq]at hh
   obtain⟨rfl,rfl⟩:=hh
   obtain⟨h3,h4⟩:=hF.eval hk
   obtain⟨h5,h6⟩:=hF.eval hx
   simp only[Bd]at hp
   split at hp
   ·rename_i q y hfind
    simp only[ac9,Prod.mk.injEq,zX]at hp
    obtain⟨rfl,rfl⟩:=hp
    obtain⟨r',hf,hv⟩:=OV (I:=I) kd 0 hfind ⟨q,y,rfl⟩
    have hr':r' = none:=by cases r' <;> simp at hv ⊢
    subst hr'
    have tf:(Instr.findKey kt (I.g (.i q y)) (es.map fun e=>(⟨I.g e.1,I.g e.2.1,e.2.2⟩ : MapEntry))).run P w = .ok none w:=by
     simp[Instr.findKey,run_underlying hdk,hf]
    have yl:∀ b,(Instr.checkKey b 10000 kt (I.g (.i q y))).run P w = .ok () w:=fun b=>iy hdk b q y
    have ky:=h.holds _ _ hb
    have vv:w.heap[(I.sv b).blk]? = some (.map (es.map fun e=>(⟨I.g e.1,I.g e.2.1,e.2.2⟩ : MapEntry)).toArray c):=ky
    have oe:∀ ob,(setObj (I.sv b).blk ob).run P w = .ok () (w.putObj (I.sv b).blk ob):=fun ob=>by simp[setObj,Sem.run,vv,World.putObj]
    have hU:=oa.putObj (o':=.map ((es ++ [(AV.i q y,ux,c)]).map fun e=>(⟨I.g e.1,I.g e.2.1,e.2.2⟩ : MapEntry)).toArray (c+1)) vv
    refine Yd.skip' (w':=w.putObj (I.sv b).blk (.map ((es ++ [(AV.i q y,ux,c)]).map fun e=>(⟨I.g e.1,I.g e.2.1,e.2.2⟩ : MapEntry)).toArray (c+1))) ?_
     (h.left (v:=.nh) (o':=.map (es ++ [(AV.i q y,ux,c)]) (c+1)) hb (fun e he=>?_) hU trivial)
    ·have M5:I.g (.mp b) = .map (some (I.sv b).blk):=by simp[ic]
     simp only[execOp,ho,h1,h3,h5,M5,Instr.mapUpdate,Sem.run_bind,run_underlying hd,Result.andThen_ok,MapKept.run_getObj_map vv,yl,tf,oe,Sem.run_pure]
     simp
    ·rcases aaF.1 he with he|he
     ·exact(h.ok _ _ hb).2 e he
     ·simp only[acI]at he;subst he;exact⟨h4,h6⟩
   ·cases hp
  ·cases hh
 ·cases hh
theorem T8(h:SR I env w0 s w)(hF:FR I s.nx n F a dd){call:jw}{o:Oper}{t t':Nat}{x:Operand}{v:AV}(ho:o.op = .convert t t' x)(hh:lz (fe P) call s F o.op=some (v,s')):Yd P o a.eval w (Left I env w0 s s' v):=by
 rw[ho]at hh
 simp only[lz,acH]at hh
 split at hh
 ·cases hh
 ·rename_i IA
  simp only[ne_eq,Decidable.not_not]at IA
  subst IA
  rw[acx]at hh
  obtain⟨d,(hd:P.underlying t=some d),hh⟩:=hh
  rw[acx]at hh
  obtain⟨u,hu,hh⟩:=hh
  obtain⟨h1,h2⟩:=hF.eval hu
  split at hh
  ·rename_i e m off len cap
   rw[acx]at hh
   obtain⟨de,(hde:P.underlying e=some de),hh⟩:=hh
   split at hh
   ·rename_i N l q hm
    simp only[ac9,Prod.mk.injEq]at hh
    obtain⟨rfl,rfl⟩:=hh
    obtain⟨hk,hok⟩:=h.ok m _ hm
    have hN:l.length=N:=hok.1
    have hb:w.heap[(I.sv m).blk]? = some (.cells (l.map I.g).toArray q (0,0)):=h.holds _ _ hm
    have hlt:=(aao.1 hb).1
    have hsh:w.shape? (I.sv m).blk=some (q,N):=by simp[World.shape?,hb,hN]
    have hU:oa (res I env w0.heap.size m (.pt N l q)) (res I env w0.heap.size m (.fz N l q)) w (w.freeze ⟨(I.sv m).blk,N,none⟩ 1):=by
     refine⟨⟨rfl,rfl,rfl⟩,by simp[World.freeze],fun j _ hf=>?_,?_,fun _ hk=>.inl hk⟩
     ·simp only[World.freeze]
      rw[aaz (by decide)]
      simp only[aaU]
      rw[aaz (fun e=>hf (by simp only[res,di.fp];exact e.symm))]
     ·show(w.freeze ⟨(I.sv m).blk,N,none⟩ 1).heap[(I.sv m).blk]? = _
      simp only[World.freeze]
      rw[aaz (by decide)]
      simp only[aaU,if_true,hb,aaI]
      rfl
    refine Yd.Ab (w':=w.freeze ⟨(I.sv m).blk,N,none⟩ 1) ?_ (h.left (v:=.sl m off len cap) (o':=.fz N l q) hm hok hU h2)
    simp only[execOp,ho,h1,Sem.run_bind]
    have:(convert t t (I.g (.sl m off len cap))).run P w = .ok (I.g (.sl m off len cap)) (w.freeze ⟨(I.sv m).blk,N,none⟩ 1):=by
     simp[ic,convert,run_underlying hd,run_underlying hde,markStringish,shape,freeze,Sem.run,hsh]
    rw[this];rfl
   ·cases hh
  ·cases hh
theorem Hm{e lo m k z:Nat}{sv sy:SV}{xs ys:List Value}{t ty:Nat}{i:TypeInfo}{zv:Value}(ht:P.underlying t=some (.slice e))(hi:P.info? e=some i)(hz:i.zero=some zv)
  (hsize:i.size=z) (tg:zv.cells.size=z) (hpos:0<z) (hown:w.ownsRow lo e z sv.v m xs) (hy:Ah w sy k z ys) (h1:∀ u∈ys,u.oneCell' = true)
  (h63:m+k≤maxLen) (od:(m+k)*i.bytes≤140737488355328) (hlo:lo≤w.heap.size) :
  ∃ (s':SV) (w':World),(Builtin.append_ #[t,t] ty #[sv.v,sy.v]).run P w = .ok s'.v w' ∧ oa (.row lo sv.v e z m xs) (.row lo s'.v e z (m+k) (xs++ys)) w w':=by
 have fin:∀ v' w',(Builtin.append_ #[t,t] ty #[sv.v,sy.v]).run P w = .ok v' w' → w'.ownsRow lo e z v' (m+k) (xs++ys)→w.grownBy w' sv.v.ownBlock →
   (∀ j,v'.ownBlock=some j→sv.v.ownBlock=some j∨w.heap.size≤j) → ∃ (s':SV) (w':World),(Builtin.append_ #[t,t] ty #[sv.v,sy.v]).run P w = .ok s'.v w' ∧ oa (.row lo sv.v e z m xs) (.row lo s'.v e z (m+k) (xs++ys)) w w':=by
  intro v' w' hr h2 h3 h4
  have hv:∃ s':SV,v' = s'.v:=by
   rcases h2.2 with⟨rfl,h0⟩|⟨g,cap,cur,rfl,_⟩
   ·exact⟨SV.nil,rfl⟩
   ·exact⟨⟨some ⟨g,0,none⟩,_,cap⟩,rfl⟩
  obtain⟨s',rfl⟩:=hv
  exact⟨s',w',hr,⟨⟨h3.os,h3.tape,h3.output⟩,h3.size,fun k hk hf=>h3.block k hk fun e'=>hf (by simpa[di.fp]using e'.symm),h2,h4⟩⟩
 have hc:=hy.cells
 have vn:=hy.len
 have hn:=hy.n
 obtain⟨sa,sl,sc⟩:=sy
 cases sa with
 | some ad =>
  obtain⟨h2,h3⟩:=hc
  obtain⟨b,off,sp⟩:=ad
  simp only at h2 h3 vn
  subst h2 vn
  have hcell:∀ j u,ys[j]? = some u→w.cell? ((⟨b,off,none⟩ : Addr).add j)=some u:=fun j u hu=>by rw[eC];exact h3 j u hu
  obtain⟨v',w',hr,h4,h5,_⟩:=run_append_own (P:=P) w lo t ty e i zv z i.bytes ht hi hz hsize rfl tg hpos sv.v m xs hown ⟨b,off,none⟩ sl sc ys hn hcell h1 h63 od hlo
  exact fin v' w' hr h4 h5 (vS ht hi hz hsize rfl hown hn hcell h1 h63 od hr)
 | none =>
  obtain⟨h2,h3⟩:=hc
  simp only at h2 h3 vn
  subst h2 h3
  subst vn
  have hys:ys = []:=ab9 (by simpa using hn)
  subst hys
  refine fin sv.v w ?_ (by simpa using hown) ⟨rfl,rfl,rfl,aal _,fun _ _ _=>rfl⟩ fun j hj=>.inl hj
  have hcap:sv.len≤sv.cap:=by
   rcases hown.2 with⟨h,_⟩|⟨g,cap,cur,h,_,_,h',_⟩
   ·obtain⟨sa,sl,sc⟩:=sv;cases h;exact aal _
   ·obtain⟨sa,sl,sc⟩:=sv;cases h;exact h'
  obtain⟨sa,sl,sc⟩:=sv
  have AQ:sl≤sc:=hcap
  cases sa<;>simp[Builtin.append_,run_underlying ht,sizeOf,typeInfo,hi,Builtin.lenOf,Builtin.firstCells,storeCells,AQ]
theorem Ao{e lo k z b off len cap:Nat}{sy:SV}{xs ys:List Value}{t ty:Nat}{i:TypeInfo}{zv:Value}(ht:P.underlying t=some (.slice e))(hi:P.info? e=some i)(hz:i.zero=some zv)
  (hsize:i.size=z) (tg:zv.cells.size=z) (hx:Ah w ⟨some ⟨b,off,none⟩,len,cap⟩ len z xs) (hy:Ah w sy k z ys) (hg:cap<len+k)
  (h63:len+k≤maxLen) (od:(len+k)*i.bytes≤140737488355328) (hlo:lo≤w.heap.size) :
  ∃ (s':SV) (w':World),(Builtin.append_ #[t,t] ty #[.slice (some ⟨b,off,none⟩) len cap,sy.v]).run P w = .ok s'.v w' ∧ iz (.row lo s'.v e z (len+k) (xs++ys)) w w':=by
 subst hsize
 have hroom:=hx.room
 simp only at hroom
 have hc:=hy.cells
 have vn:=hy.len
 have hn:=hy.n
 obtain⟨sa,sl,sc⟩:=sy
 cases sa with
 | none=>have:=hc.1;omega
 | some ad =>
  obtain⟨h2,h3⟩:=hc
  obtain⟨b',off',sp⟩:=ad
  simp only at h2 h3 vn
  subst h2 vn
  have hcell:∀ j u,ys[j]? = some u→w.cell? ((⟨b',off',none⟩ : Addr).add j)=some u:=fun j u hu=>by rw[eC];exact h3 j u hu
  have EK:∀ j u,xs[j]? = some u→w.cell? ((⟨b,off,none⟩ : Addr).add j)=some u:=fun j u hu=>by rw[eC];exact hx.cells.2 j u hu
  have hm:(len+sl:Nat)≤9223372036854775807:=by simp only[maxLen]at h63;omega
  have hr:=run_append_grow (P:=P) w t ty e i zv ht hi hz ⟨b,off,none⟩ len cap xs hx.n EK ⟨b',off',none⟩ sl sc ys hn hcell hg ac_ (growslice_fits ac_ od)
  have hge:=grownCap_ge w (len+sl) cap e
  have hcm:grownCap w (len+sl) cap e≤maxLen:=grownCap_le_maxLen w (len+sl) cap e h63
  have hlen:(xs++ys).length=(len+sl)*i.size:=by rw[abT,hx.n,hn,ab4]
  refine⟨⟨some ⟨w.heap.size,0,none⟩,len+sl,grownCap w (len+sl) cap e⟩,_,hr,?_⟩
  refine⟨⟨⟨rfl,rfl,rfl⟩,by simp,fun j hj _=>heap_alloc_old (w:=w.drew) _ hj⟩,⟨hlen,.inr ⟨w.heap.size,_,_,rfl,hlo,heap_alloc_new w.drew _,hge,hcm,?_,?_⟩⟩,fun j hj=>?_⟩
  ·simp only[Array.size_append,abY,size_zeroCells,tg,hx.n,hn,←ab4]
   congr 1
   omega
  ·simp only[Array.toList_append,acW]
   rw[←acW,←hlen]
   exact List.take_left
  ·simp[di.fp,SV.v,Value.ownBlock]at hj;omega
end
end Go.Ev
end
