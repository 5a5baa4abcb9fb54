/- Ground for this claim: The call of TraceBytes returns true, and what is read reads as before. Condition: what is read is of bulk at most 1048576. -/
import Derived.Carry
import Derived.WalkKit
import Derived.ProofKit
import Derived.OpenShut
import Derived.Test.YtmgnkohlfbjjnaaGreatRTb8
section
namespace Go.Fw
open Go.ChangeShapes Go.WideShapes Go.ChangeAt Go.RowKit
set_option linter.unusedVariables false
set_option linter.unusedSimpArgs false
theorem kQ {o:Option Addr} {n m:Nat}:(Value.slice o n m).cells = #[.slice o n m]:=rfl
theorem kept_of {W w':World} (h:Keeps [] W w') (may:MemPlace → Prop):W.keptBut w' may:=by
  refine ⟨h.io.os,h.io.output,fun i hi=>?_⟩
  rw [h.block i hi (by simp)]
  cases W.heap[i]? with
  | none=>rfl
  | some o=>cases o <;> first | exact ⟨rfl,rfl,rfl,fun _ _=>rfl⟩ | exact .inr ⟨rfl,rfl⟩ | rfl
theorem aAk {W W':World} (h:Keeps [] W W') {p:MemPlace} (hp:p.block < W.heap.size):W.sameAt W' p:=by
  cases p with
  | cell b o=>exact World.cell?_of_block (w:=W) (h.block b hp (by simp))
  | map b=>exact h.block b hp (by simp)
theorem aAs {H:Type} {enc:TypeId × Value → H} {P:Program} {t:TypeId} (hl:laidOutB P = true) (hr:P.readableRec t = true) (hrow:t < P.types.size) {W W':World} {v:Value} {d:DataW H} {ps:List MemPlace}
    (h:DataW.Trod enc P W 0 (fun _=>true) true t v d ps) (hb:Keeps [] W W') (hlt:∀ x ∈ ps,x.block < W.heap.size) :
    DataW.Trod enc P W' 0 (fun b=>decide (b < W.heap.size)) true t v d ps :=
  WideElems.Trod_stays hl hr hrow h (fun x hx=>aAk hb (hlt x hx)) (fun x hx=>by simpa using hlt x hx)
theorem open_bytes {H:Type} {enc:TypeId × Value → H} {P:Program} {W:World} {r:Reach} {base:Nat} {sp:Nat → Bool} {t e:TypeId} {v:Value} {d:DataW H} {ps:List MemPlace} (ht:P.underlying t = some (.slice e)) (he:P.underlying e = some (.int .u8)) (hc:P.cellsOf e = 1)
    (hok:Value.okWide P W r base t v) (h:DataW.Trod enc P W 0 sp true t v d ps):∃ (s:SV) (l:List UInt8),v = s.v ∧ SliceOf 0 W s l ∧ (l = [] ∨ ∃ es sp,d = .slice es sp ∧ es.length = l.length):=by
  obtain ⟨n,h⟩:=h
  have hv:v = .slice none 0 0 ∨ ∃ a len cap,v = .slice (some a) len cap ∧ a.spot = none:=by
    simp only [Value.okWide,ht,Cell.okWide] at hok
    cases v <;> simp only [Cell.ok,ht] at hok <;> try contradiction
    rename_i o k c
    cases o with
    | none =>
      left
      cases k <;> cases c <;> simp at hok
      rfl
    | some a=>exact .inr ⟨a,k,c,rfl,hok.2.2.2.1⟩
  rcases open_ints ht he hc h with ⟨h1,_⟩ | ⟨a,len,cap,zs,h1,_,h3,_,h5,hx,h7,h8⟩
  · rcases hv with rfl | ⟨a,k,c,rfl,_⟩
    · exact ⟨SV.nil,[],rfl,SliceOf.nil 0 W,.inl rfl⟩
    · rw [kQ] at h1; simp at h1
  · rcases hv with rfl | ⟨a',k,c,rfl,hs⟩
    · rw [kQ] at h1; simp at h1
    · rw [kQ] at h1
      simp at h1
      obtain ⟨rfl,rfl,rfl⟩:=h1
      have hzl:k ≤ zs.length:=by rw [h5]; split <;> omega
      refine ⟨⟨some a',k,c⟩,(zs.take k).map (fun n=>UInt8.ofNat n.toNat),rfl,⟨by simp; omega,h3,.inr hs,Nat.zero_le _,?_⟩,.inr ⟨_,_,congrArg Prod.fst hx,by simp [lits]⟩⟩
      intro j u hj
      have hlen:(encs ((zs.take k).map (fun n=>UInt8.ofNat n.toNat))).length = k:=by rw [dP]; simp [Enc.sz]; omega
      have hjk:j < k:=by rw [← hlen]; exact (List.getElem?_eq_some_iff.1 hj).1
      have hget:=gR ((zs.take k).map (fun n=>UInt8.ofNat n.toNat)) j (UInt8.ofNat (zs.getD j 0).toNat) (by
        rw [List.getElem?_map,List.getElem?_take,if_pos hjk,List.getD_eq_getElem?_getD]
        rw [List.getElem?_eq_getElem (show j < zs.length by omega)]; rfl)
      have hu:(encs ((zs.take k).map (fun n=>UInt8.ofNat n.toNat)))[j]? = some (.int .u8 ((UInt8.ofNat (zs.getD j 0).toNat).toNat:Int)):=by
        have h0:(cut (encs ((zs.take k).map (fun n=>UInt8.ofNat n.toNat))) (j * 1) 1)[0]? = some (.int .u8 ((UInt8.ofNat (zs.getD j 0).toNat).toNat:Int)):=by
          have:=congrArg (·[0]?) hget
          exact this
        have:=(jC _ _ _ _ _ h0).2
        simpa using this
      rw [hu] at hj
      cases hj
      have hwf:=h8 (zs.getD j 0) (by
        rw [List.getD_eq_getElem?_getD,List.getElem?_eq_getElem (show j < zs.length by omega),Option.getD_some]; exact List.getElem_mem _)
      have hb:0 ≤ zs.getD j 0 ∧ zs.getD j 0 ≤ 255:=by
        simp only [Lit.wf,Bool.and_eq_true,decide_eq_true_eq] at hwf
        exact hwf
      have hcell:=h7 j (by omega)
      have e1:((UInt8.ofNat (zs.getD j 0).toNat).toNat:Int) = zs.getD j 0:=by
        rw [UInt8.toNat_ofNat']
        omega
      rw [e1]
      obtain ⟨ab,ao,asp⟩:=a'
      simp only at hs
      subst hs
      rw [← add_plain]
      exact hcell
end Go.Fw
end
