/- The call of TraceForth returns true, whatever the bytes and the world, and the bytes read as before. No condition. -/
import Derived.Test.YtmgnkohlfbjjnaaGreatRTf9
import Derived.Test.YtmgnkohlfbjjnaaGreatRJTF
namespace Go.Proofs.YtmgnkohlfbjjnaaGreatR.traceForth
set_option linter.unusedSimpArgs false
open Go.ChangeShapes Go.WideShapes Go.ChangeAt Go.RowKit
set_option linter.unusedVariables false
theorem own : ownKnob Tryz.prog.godebug = none := by kernel_rfl
theorem walk (W : World) (s : Go.Fw.SV) (l : List UInt8) (h : Go.Fw.SliceOf 0 W s l) : Calls Tryz.prog 13 #[s.v] W fun e w' => e = .returned (.bool true) ∧ Go.Fw.Keeps [] W w' :=
  (law23_TraceForth_calls (x0 := l) (s1 := s) (Bf := fun w => Go.Fw.MemL w [.same W 0 [], .io W]) (Lr := [.same W 0 [], .io W]) (Go.Sp.forth_ok l) (Go.Fw.MemL.start W) (fun _ h => h)
    (fun w hM => h.keep (hM.keeps (i := 0) (j := 1) rfl rfl))).mono fun e w' h => by
      cases e <;> simp only [Go.Fw.Ret] at h
      exact ⟨by rw [h.1], h.2.keeps (i := 0) (j := 1) rfl rfl⟩
set_option maxRecDepth 100000 in
theorem lifted (os : Os) (started : os.Started) (H : Type) (enc : TypeId × Value → H) :
    ReturnsInHanded {} Tryz.checked os 13 .any (Rows.traceForthSpec.pre6 enc Tryz.prog Tryz.f13 Rows.traceForthRow.domain false) (Rows.traceForthSpec.post enc Tryz.prog Tryz.f13 false true false false) := by
  refine returnsInHanded_of_change (C := Tryz.checked) own started (by kernel_rfl) Tryz.func13
    (ChangeSpec.witness6 (enc := enc) (C := Tryz.checked) false ⟨#[], #[.slice none 0 0], []⟩ 8 (by kernel_rfl) (by kernel_rfl) (by kernel_rfl) (by kernel_rfl)) ?_
  intro W base args ds gs before hval0 hW hcnd _
  have hval : ∀ (j : Nat) t v, Tryz.f13.params[j]? = some t → args[j]? = some v → Value.okWide Tryz.prog W .any base t v := hval0
  have hW' := hW
  obtain ⟨p, q, hA0, hV, rfl, hfz, hnd⟩ := hW
  have hA : DataW.TrodAll enc Tryz.prog W 0 (fun _ => true) true Tryz.f13.params.toList args.toList ds p := hA0
  rw [Tryz.params13] at hA hval
  obtain ⟨v0, d0, rfl, rfl, h0⟩ := trodAll_one hA
  obtain ⟨rfl, rfl⟩ := trodVars_none hV
  obtain ⟨s, l, rfl, hs⟩ := Go.Fw.open_bytes Tryz.underlying23 Tryz.underlying5 oneCell (hval 0 23 v0 rfl rfl) h0
  clear hA0 hval0
  simp only [List.append_nil] at hW'
  have hlt : ∀ x ∈ p, x.block < W.heap.size := fun x hx => hW'.lt x hx
  refine (walk W s l hs).mono fun e W' ⟨he, hg⟩ => ?_
  subst he
  exact ⟨_, rfl, _, _, _, [], p, [], hW', (trodAll_cons_mk (shut_bool Tryz.underlying4 _) trodAll_mk0), trodAll_mk1 (Go.Fw.trod_of laid readable inTypes h0 hg hlt), rfl, Go.Fw.kept_of hg _, fun h => by cases h⟩
set_option maxRecDepth 100000 in
theorem inst : Tryz.f13.isInstance Tryz.prog Rows.traceForthRow.origin Rows.traceForthRow.targs := of_decide_eq_true (by kernel_rfl)
set_option maxRecDepth 100000 in
theorem wrap : Tryz.f13.isWrapper Tryz.prog Rows.traceForthRow.wrapper Rows.traceForthRow.mainSum := by
  unfold Func.isWrapper; first | (rw [if_pos (by decide +kernel)]; kernel_rfl) | (rw [if_neg (by decide +kernel)]; exact ⟨rfl, rfl⟩)
theorem over : Rows.traceForthRow.holds Tryz.pinned (OpenSpec.ofChange Rows.traceForthSpec) :=
  OpenClaim.holds_of_wide 13 Tryz.f13 rfl rfl rfl rfl rfl rfl rfl ⟨rfl, rfl, rfl, rfl, rfl⟩ rfl rfl rfl rfl rfl named Tryz.func13 jf
    inst wrap
    (fun os started H enc _ => lifted os started H enc)
/-- The statement. -/
theorem proved : Rows.TraceForthSaid := over
#print axioms proved
end Go.Proofs.YtmgnkohlfbjjnaaGreatR.traceForth
