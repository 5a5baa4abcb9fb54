/- Ground for the claim TraceSends. -/
import Derived.Carry
import Derived.WalkKit
import Derived.ProofKit
import Derived.OpenShut
import Derived.Test.YtmgnkohlfbjjnaaGreatRSe11
set_option linter.unusedVariables false
set_option linter.unusedSimpArgs false
section
namespace Go.Fw
open Go.ChangeShapes Go.WideShapes Go.ChangeAt Go.RowKit
theorem xr{o:Option Addr}{n m:Nat}:(Value.slice o n m).cells = #[.slice o n m]:=rfl
theorem CQ{W w':World}(h:gw [] W w')(may:MemPlace→Prop):W.keptBut w' may:=by
 refine⟨h.io.os,h.io.output,fun i hi=>?_⟩
 rw[h.block i hi (by simp)]
 cases W.heap[i]? with
 | none=>rfl
 | some o=>cases o<;>first|exact⟨rfl,rfl,rfl,fun _ _=>rfl⟩|exact .inr ⟨rfl,rfl⟩|rfl
theorem V5{W W':World}(h:gw [] W W'){p:MemPlace}(hp:p.block<W.heap.size):W.sameAt W' p:=by
 cases p with
 | cell b o=>exact World.cell?_of_block (w:=W) (h.block b hp (by simp))
 | map b=>exact h.block b hp (by simp)
theorem WM{H:Type}{enc:TypeId×Value→H}{P:Program}{t:TypeId}(hl:laidOutB P=true)(hr:P.readableRec t=true)(hrow:t<P.types.size){W W':World}{v:Value}{d:DataW H}{ps:List MemPlace}
  (h:DataW.Trod enc P W 0 (fun _=>true) true t v d ps) (hb:gw [] W W') (hlt:∀ x∈ps,x.block<W.heap.size) :
  DataW.Trod enc P W' 0 (fun b=>decide (b<W.heap.size)) true t v d ps :=
 WideElems.Trod_stays hl hr hrow h (fun x hx=>V5 hb (hlt x hx)) (fun x hx=>by simpa using hlt x hx)
end Go.Fw
end
