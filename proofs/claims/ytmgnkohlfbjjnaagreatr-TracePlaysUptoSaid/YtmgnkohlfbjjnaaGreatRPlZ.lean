/- The call of TracePlays returns true. Condition: the arguments are of bulk at most 1048576. -/
import Derived.Deep.CondSized
import Derived.Test.YtmgnkohlfbjjnaaGreatRJTPl
import Derived.Test.YtmgnkohlfbjjnaaGreatRPl10
namespace Go.Proofs.YtmgnkohlfbjjnaaGreatR.tracePlays
set_option linter.unusedSimpArgs false
open Go.ChangeShapes Go.WideShapes Go.ChangeAt Go.RowKit
set_option linter.unusedVariables false
theorem own : ownKnob Tryz.prog.godebug = none := by kernel_rfl
theorem recT : Go.Fw.RecT Tryz.prog where
  i3 := Tryz.underlying3
  b4 := Tryz.underlying4
  u5 := Tryz.underlying5
  e34 := Tryz.underlying34
  l23 := Tryz.underlying23
  l28 := Tryz.underlying28
  l33 := Tryz.underlying33
  l52 := Tryz.underlying52
  l56 := Tryz.underlying56
  l57 := Tryz.underlying57
  l58 := Tryz.underlying58
  a48 := Tryz.underlying48
  s46 := ⟨_, Tryz.underlying46, rfl⟩
  s50 := ⟨_, Tryz.underlying50, rfl⟩
  s128 := ⟨_, Tryz.underlying128, rfl⟩
  s151 := ⟨_, Tryz.underlying151, rfl⟩
  s156 := ⟨_, Tryz.underlying156, rfl⟩
  s60 := ⟨_, Tryz.underlying60, rfl⟩
  s30 := ⟨_, Tryz.underlying30, rfl⟩
  s36 := ⟨_, Tryz.underlying36, rfl⟩
  cells := cells
theorem bulk {H : Type} : Go.Fw.Bulk (H := H) Rows.uptoBulk Rows.uptoBulkAll where
  nil := by simp [Rows.uptoBulkAll]
  cons := fun d r => by simp [Rows.uptoBulkAll]
  slice := fun es sp => by simp only [Rows.uptoBulk]; omega
  agg := fun ps => by simp only [Rows.uptoBulk]; omega
  one := fun d => by
    cases d with
    | lit l => cases l <;> simp [Rows.uptoBulk]
    | nil => simp [Rows.uptoBulk]
    | ptr d => simp [Rows.uptoBulk]
    | slice elems spare => simp [Rows.uptoBulk]
    | agg parts => simp [Rows.uptoBulk]
    | iface t d => simp [Rows.uptoBulk]
    | map entries => simp [Rows.uptoBulk]
    | held h => simp [Rows.uptoBulk]
theorem walk (W : World) (y0 : Go.Fw.RRecord) (a0 : Go.Fx.QRecord) (e0 : Go.Fx.QRecordIn (Go.Fw.Keeps [] W) y0 a0) (b0 : Go.Fw.szRecord a0 ≤ 1048576) (r0 : Go.Fw.RanRecord a0) (a1 : Int) :
    Calls Tryz.prog 16 #[.agg (Go.Fw.RRecord.enc y0).toArray, .int .i64 a1] W fun e w' => e = .returned (.bool true) ∧ Go.Fw.Keeps [] W w' := by
  obtain ⟨s_0_0, s_0_1, h_0_0, s_0_2, h_0_1, rfl, r_0_0, r_0_1, p_0_0, r_0_2, p_0_1⟩ := e0
  exact (xK (x0 := a0) (x1 := a1) (Bf := Go.Fw.Keeps [] W) (Lr := [.same W 0 [], .io W]) (Go.Sp.plays_law b0 a1) (Go.Fw.MemL.start W) (fun _ h => h.keeps (i := 0) (j := 1) rfl rfl)
    r_0_0 r_0_1 p_0_0 r_0_2 p_0_1).mono fun e w' h => by
      cases e <;> simp only [Go.Fw.Ret] at h
      exact ⟨by rw [h.1], h.2.keeps (i := 0) (j := 1) rfl rfl⟩
set_option maxRecDepth 100000 in
theorem contract (H : Type) (enc : TypeId × Value → H) (W : World) (base : Nat) (args : Array Value) (ds gs : List (DataW H)) (before : List MemPlace)
    (hval0 : ∀ (j : Nat) t v, Tryz.f16.params[j]? = some t → args[j]? = some v → Value.okWide Tryz.prog W .any base t v)
    (hW : DataW.Whole enc Tryz.prog Tryz.f16.params.toList Rows.tracePlaysSpec.vars false W args.toList ds gs before) (hk : Rows.uptoSmall H (ds ++ gs) = true) :
    Calls Tryz.prog 16 args W fun e W' => ∃ v, e = .returned v ∧ Rows.tracePlaysSpec.post enc Tryz.prog Tryz.f16 false true false false W args v W' := by
  have hval : ∀ (j : Nat) t v, Tryz.f16.params[j]? = some t → args[j]? = some v → Value.okWide Tryz.prog W .any base t v := hval0
  have hW' := hW
  obtain ⟨p, q, hA0, hV, rfl, hfz, hnd⟩ := hW
  have hA : DataW.TrodAll enc Tryz.prog W 0 (fun _ => true) true Tryz.f16.params.toList args.toList ds p := hA0
  obtain ⟨rfl, rfl⟩ := trodVars_none hV
  simp only [List.append_nil] at hW' hk
  have hlt : ∀ x ∈ p, x.block < W.heap.size := fun x hx => hW'.lt x hx
  have hA1 := hA
  rw [Tryz.params16] at hA hval
  obtain ⟨v0, vs, d0, ds, p0, q0, eA, rfl, rfl, h0, hA⟩ := trodAll_cons hA
  obtain ⟨v1, vs, d1, ds, p1, q1, rfl, rfl, rfl, h1, hA⟩ := trodAll_cons hA
  obtain ⟨rfl, rfl, rfl⟩ := trodAll_nil hA
  obtain rfl : args = #[v0, v1] := by cases args; simp only at eA; rw [eA]
  have hbulk : Rows.uptoBulkAll [d0, d1] ≤ 1048576 := of_decide_eq_true hk
  simp only [Rows.uptoBulkAll] at hbulk
  obtain ⟨fuel0, h0'⟩ := h0
  obtain ⟨y0, a0, c1, e0, c3, r0⟩ := Go.Fw.opn_record bulk recT _ _ _ h0'
  obtain ⟨cs0, rfl⟩ : ∃ cs, v0 = .agg cs := by
    have := hval 0 36 v0 rfl rfl
    simp only [Value.okWide, Tryz.underlying36] at this
    obtain ⟨cs, h, _⟩ := this
    exact ⟨cs, h⟩
  obtain rfl : cs0 = (Go.Fw.RRecord.enc y0).toArray := by
    have : cs0.toList = Go.Fw.RRecord.enc y0 := c1
    rw [← this]
  have b0 : Go.Fw.szRecord a0 ≤ 1048576 := by have : Go.Fw.szRecord a0 ≤ Rows.uptoBulk d0 := c3; omega
  obtain ⟨a1, rfl, rfl, rfl, _⟩ := open_int Tryz.underlying3 (hval 1 3 v1 rfl rfl) h1
  refine (walk W y0 a0 e0 b0 r0 a1).mono fun e W' ⟨he, hg⟩ => ?_
  subst he
  exact ⟨_, rfl, _, _, _, [], _, [], hW', (trodAll_cons_mk (shut_bool Tryz.underlying4 _) trodAll_mk0), Go.Fw.trodAll_of laid hg readables hA1 hlt, rfl, Go.Fw.kept_of hg _, fun h => by cases h⟩
set_option maxRecDepth 100000 in
theorem lifted (os : Os) (started : os.Started) (H : Type) (enc : TypeId × Value → H) (F : Stop.Interp) :
    ReturnsInHanded {} Tryz.checked os 16 .any ((Rows.OpenSpec.upto Rows.tracePlaysSpec).pre6 enc Tryz.prog Tryz.f16 Rows.tracePlaysUptoRow.domain false) (((Rows.OpenSpec.upto Rows.tracePlaysSpec).at F).post enc Tryz.prog Tryz.f16 false true false false) := by
  refine returnsInHanded_of_cond (C := Tryz.checked) (s := Rows.OpenSpec.upto Rows.tracePlaysSpec) (k := Rows.uptoSmall) rfl own started (by kernel_rfl) Tryz.func16
    (OpenSpec.witness (enc := enc) (C := Tryz.checked) (s := Rows.OpenSpec.upto Rows.tracePlaysSpec) (k := Rows.uptoSmall) rfl false ⟨#[], #[.agg #[.slice none 0 0, .slice none 0 0, .slice none 0 0, .int .i64 0], .int .i64 0], []⟩ 8 (by kernel_rfl) (by kernel_rfl) (by kernel_rfl)
      (x := ([.agg [.agg [.nil, .nil], .nil, .lit (.int .i64 0)], .lit (.int .i64 0)], [], [])) (by kernel_rfl) rfl (by kernel_rfl)) ?_
  intro W base args ds gs before hval hW _ hk _
  exact contract H enc W base args ds gs before hval hW hk
set_option maxRecDepth 100000 in
theorem inst : Tryz.f16.isInstance Tryz.prog Rows.tracePlaysUptoRow.origin Rows.tracePlaysUptoRow.targs := of_decide_eq_true (by kernel_rfl)
set_option maxRecDepth 100000 in
theorem wrap : Tryz.f16.isWrapper Tryz.prog Rows.tracePlaysUptoRow.wrapper Rows.tracePlaysUptoRow.mainSum := by
  unfold Func.isWrapper; first | (rw [if_pos (by decide +kernel)]; kernel_rfl) | (rw [if_neg (by decide +kernel)]; exact ⟨rfl, rfl⟩)
theorem proved : Rows.TracePlaysUptoSaid :=
  OpenClaim.holds_of_cond 16 Tryz.f16 rfl rfl rfl rfl rfl rfl rfl ⟨rfl, rfl, rfl, rfl, rfl⟩ rfl rfl rfl rfl rfl named Tryz.func16 jf
    inst wrap
    (fun os started H enc _ F => lifted os started H enc F)
#print axioms proved
end Go.Proofs.YtmgnkohlfbjjnaaGreatR.tracePlays
