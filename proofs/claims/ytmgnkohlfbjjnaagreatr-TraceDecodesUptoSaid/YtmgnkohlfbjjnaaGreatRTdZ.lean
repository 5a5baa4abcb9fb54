/- The call of TraceDecodes returns true, and the bytes read as before. Condition: what is read is of bulk at most 1048576. -/
import Derived.Deep.CondSized
import Derived.Test.YtmgnkohlfbjjnaaGreatRTd10
import Derived.Test.YtmgnkohlfbjjnaaGreatRJTD
namespace Go.Proofs.YtmgnkohlfbjjnaaGreatR.traceDecodes
set_option linter.unusedSimpArgs false
open Go.ChangeShapes Go.WideShapes Go.ChangeAt Go.RowKit
set_option linter.unusedVariables false
theorem own : ownKnob Tryz.prog.godebug = none := by kernel_rfl
theorem walk (W : World) (s : Go.Fw.SV) (l : List UInt8) (h : Go.Fw.SliceOf 0 W s l) (hl : l.length ≤ 1048576) : Calls Tryz.prog 9 #[s.v] W fun e w' => e = .returned (.bool true) ∧ Go.Fw.Keeps [] W w' :=
  (law23_TraceDecodes_calls (x0 := l) (s1 := s) (Bf := fun w => Go.Fw.MemL w [.same W 0 [], .io W]) (Lr := [.same W 0 [], .io W]) (Go.Sp.decodes_law l (by omega)) (Go.Fw.MemL.start W) (fun _ h => h)
    (fun w hM => h.keep (hM.keeps (i := 0) (j := 1) rfl rfl))).mono fun e w' h => by
      cases e <;> simp only [Go.Fw.Ret] at h
      exact ⟨by rw [h.1], h.2.keeps (i := 0) (j := 1) rfl rfl⟩
theorem short {H : Type} {d : DataW H} {l : List UInt8} (hd : l = [] ∨ ∃ es sp, d = .slice es sp ∧ es.length = l.length) (hk : Rows.uptoSmall H [d] = true) : l.length ≤ 1048576 := by
  rcases hd with rfl | ⟨es, sp, rfl, hl⟩
  · simp
  · have h : Rows.uptoBulkAll [DataW.slice es sp] ≤ 1048576 := of_decide_eq_true hk
    have hb : ∀ ds : List (DataW H), ds.length ≤ Rows.uptoBulkAll ds := by
      intro ds
      induction ds with
      | nil => simp [Rows.uptoBulkAll]
      | cons x r ih =>
        have h1 : 1 ≤ Rows.uptoBulk x := by
          cases x with
          | lit l => cases l <;> simp [Rows.uptoBulk]
          | nil => simp [Rows.uptoBulk]
          | ptr d => simp [Rows.uptoBulk]
          | slice elems spare => simp [Rows.uptoBulk]
          | agg parts => simp [Rows.uptoBulk]
          | iface t d => simp [Rows.uptoBulk]
          | map entries => simp [Rows.uptoBulk]
          | held h => simp [Rows.uptoBulk]
        simp only [Rows.uptoBulkAll, List.length_cons]; omega
    simp only [Rows.uptoBulkAll, Rows.uptoBulk] at h
    have := hb es
    omega
set_option maxRecDepth 100000 in
theorem contract (H : Type) (enc : TypeId × Value → H) (W : World) (base : Nat) (args : Array Value) (ds gs : List (DataW H)) (before : List MemPlace)
    (hval0 : ∀ (j : Nat) t v, Tryz.f9.params[j]? = some t → args[j]? = some v → Value.okWide Tryz.prog W .any base t v)
    (hW : DataW.Whole enc Tryz.prog Tryz.f9.params.toList Rows.traceDecodesSpec.vars false W args.toList ds gs before) (hk : Rows.uptoSmall H (ds ++ gs) = true) :
    Calls Tryz.prog 9 args W fun e W' => ∃ v, e = .returned v ∧ Rows.traceDecodesSpec.post enc Tryz.prog Tryz.f9 false true false false W args v W' := by
  have hval : ∀ (j : Nat) t v, Tryz.f9.params[j]? = some t → args[j]? = some v → Value.okWide Tryz.prog W .any base t v := hval0
  have hW' := hW
  obtain ⟨p, q, hA0, hV, rfl, hfz, hnd⟩ := hW
  have hA : DataW.TrodAll enc Tryz.prog W 0 (fun _ => true) true Tryz.f9.params.toList args.toList ds p := hA0
  rw [Tryz.params9] at hA hval
  obtain ⟨v0, d0, rfl, rfl, h0⟩ := trodAll_one hA
  obtain ⟨rfl, rfl⟩ := trodVars_none hV
  obtain ⟨s, l, rfl, hs, hd⟩ := Go.Fw.open_bytes Tryz.underlying23 Tryz.underlying5 oneCell (hval 0 23 v0 rfl rfl) h0
  clear hA0 hval0
  simp only [List.append_nil] at hW' hk
  have hlt : ∀ x ∈ p, x.block < W.heap.size := fun x hx => hW'.lt x hx
  refine (walk W s l hs (short hd hk)).mono fun e W' ⟨he, hg⟩ => ?_
  subst he
  exact ⟨_, rfl, _, _, _, [], p, [], hW', (trodAll_cons_mk (shut_bool Tryz.underlying4 _) trodAll_mk0), trodAll_mk1 (Go.Fw.trod_of laid readable inTypes h0 hg hlt), rfl, Go.Fw.kept_of hg _, fun h => by cases h⟩
set_option maxRecDepth 100000 in
theorem lifted (os : Os) (started : os.Started) (H : Type) (enc : TypeId × Value → H) (F : Stop.Interp) :
    ReturnsInHanded {} Tryz.checked os 9 .any ((Rows.OpenSpec.upto Rows.traceDecodesSpec).pre6 enc Tryz.prog Tryz.f9 Rows.traceDecodesUptoRow.domain false) (((Rows.OpenSpec.upto Rows.traceDecodesSpec).at F).post enc Tryz.prog Tryz.f9 false true false false) := by
  refine returnsInHanded_of_cond (C := Tryz.checked) (s := Rows.OpenSpec.upto Rows.traceDecodesSpec) (k := Rows.uptoSmall) rfl own started (by kernel_rfl) Tryz.func9
    (OpenSpec.witness (enc := enc) (C := Tryz.checked) (s := Rows.OpenSpec.upto Rows.traceDecodesSpec) (k := Rows.uptoSmall) rfl false ⟨#[], #[.slice none 0 0], []⟩ 8 (by kernel_rfl) (by kernel_rfl) (by kernel_rfl)
      (x := ([.nil], [], [])) (by kernel_rfl) rfl (by kernel_rfl)) ?_
  intro W base args ds gs before hval hW _ hk _
  exact contract H enc W base args ds gs before hval hW hk
set_option maxRecDepth 100000 in
theorem inst : Tryz.f9.isInstance Tryz.prog Rows.traceDecodesUptoRow.origin Rows.traceDecodesUptoRow.targs := of_decide_eq_true (by kernel_rfl)
set_option maxRecDepth 100000 in
theorem wrap : Tryz.f9.isWrapper Tryz.prog Rows.traceDecodesUptoRow.wrapper Rows.traceDecodesUptoRow.mainSum := by
  unfold Func.isWrapper; first | (rw [if_pos (by decide +kernel)]; kernel_rfl) | (rw [if_neg (by decide +kernel)]; exact ⟨rfl, rfl⟩)
theorem proved : Rows.TraceDecodesUptoSaid :=
  OpenClaim.holds_of_cond 9 Tryz.f9 rfl rfl rfl rfl rfl rfl rfl ⟨rfl, rfl, rfl, rfl, rfl⟩ rfl rfl rfl rfl rfl named Tryz.func9 jf
    inst wrap
    (fun os started H enc _ F => lifted os started H enc F)
#print axioms proved
end Go.Proofs.YtmgnkohlfbjjnaaGreatR.traceDecodes
