/- The call of TraceApplies returns true. Condition: the arguments are of bulk at most 1048576. -/
import Derived.Deep.CondSized
import Derived.Test.YtmgnkohlfbjjnaaGreatRJTAp
import Derived.Test.YtmgnkohlfbjjnaaGreatRAp11
namespace Go.Proofs.YtmgnkohlfbjjnaaGreatR.traceApplies
set_option linter.unusedSimpArgs false
open Go.ChangeShapes Go.WideShapes Go.ChangeAt Go.RowKit
set_option linter.unusedVariables false
theorem own : ownKnob Tryz.prog.godebug = none := by kernel_rfl
theorem recT : Go.Fw.RecT Tryz.prog where
  i3 := Tryz.underlying3
  b4 := Tryz.underlying4
  u5 := Tryz.underlying5
  e34 := Tryz.underlying34
  l23 := Tryz.underlying23
  l28 := Tryz.underlying28
  l33 := Tryz.underlying33
  l52 := Tryz.underlying52
  l56 := Tryz.underlying56
  l57 := Tryz.underlying57
  l58 := Tryz.underlying58
  a48 := Tryz.underlying48
  s46 := ⟨_, Tryz.underlying46, rfl⟩
  s50 := ⟨_, Tryz.underlying50, rfl⟩
  s128 := ⟨_, Tryz.underlying128, rfl⟩
  s151 := ⟨_, Tryz.underlying151, rfl⟩
  s156 := ⟨_, Tryz.underlying156, rfl⟩
  s60 := ⟨_, Tryz.underlying60, rfl⟩
  s30 := ⟨_, Tryz.underlying30, rfl⟩
  s36 := ⟨_, Tryz.underlying36, rfl⟩
  cells := cells
theorem bulk {H : Type} : Go.Fw.Bulk (H := H) Rows.uptoBulk Rows.uptoBulkAll where
  nil := by simp [Rows.uptoBulkAll]
  cons := fun d r => by simp [Rows.uptoBulkAll]
  slice := fun es sp => by simp only [Rows.uptoBulk]; omega
  agg := fun ps => by simp only [Rows.uptoBulk]; omega
  one := fun d => by
    cases d with
    | lit l => cases l <;> simp [Rows.uptoBulk]
    | nil => simp [Rows.uptoBulk]
    | ptr d => simp [Rows.uptoBulk]
    | slice elems spare => simp [Rows.uptoBulk]
    | agg parts => simp [Rows.uptoBulk]
    | iface t d => simp [Rows.uptoBulk]
    | map entries => simp [Rows.uptoBulk]
    | held h => simp [Rows.uptoBulk]
theorem stT : Go.Fw.StT Tryz.prog where
  a47 := Tryz.underlying47
  a51 := Tryz.underlying51
  s54 := ⟨_, Tryz.underlying54, rfl⟩
  cells := stCells
theorem walk (W : World) (y0 : Go.Fw.RState) (a0 : Go.Fx.QState) (e0 : Go.Fx.QStateIn (Go.Fw.Keeps [] W) y0 a0) (b0 : Go.Fw.szState a0 ≤ 1048576) (r0 : Go.Fw.RanState a0) (y1 : Go.Fw.RMark) (a1 : Go.Fx.QMark) (e1 : Go.Fx.QMarkIn (Go.Fw.Keeps [] W) y1 a1) (b1 : Go.Fw.szMark a1 ≤ 1048576) (r1 : Go.Fw.RanMark a1) :
    Calls Tryz.prog 18 #[.agg (Go.Fw.RState.enc y0).toArray, .agg (Go.Fw.RMark.enc y1).toArray] W fun e w' => e = .returned (.bool true) ∧ Go.Fw.Keeps [] W w' := by
  obtain ⟨s_0_0, s_0_1, h_0_0, s_0_2, rfl, r_0_0, r_0_1, p_0_0, r_0_2⟩ := e0
  obtain ⟨s_1_0, s_1_1, s_1_2, h_1_0, s_1_3, rfl, r_1_0, r_1_1, r_1_2, p_1_0, r_1_3⟩ := e1
  exact (uW (x0 := a0) (x1 := a1) (Bf := Go.Fw.Keeps [] W) (Lr := [.same W 0 [], .io W]) (Go.Sp.applies_law b0 b1) (Go.Fw.MemL.start W) (fun _ h => h.keeps (i := 0) (j := 1) rfl rfl)
    r_0_0 r_0_1 p_0_0 r_0_2 r_1_0 r_1_1 r_1_2 p_1_0 r_1_3).mono fun e w' h => by
      cases e <;> simp only [Go.Fw.Ret] at h
      exact ⟨by rw [h.1], h.2.keeps (i := 0) (j := 1) rfl rfl⟩
set_option maxRecDepth 100000 in
theorem contract (H : Type) (enc : TypeId × Value → H) (W : World) (base : Nat) (args : Array Value) (ds gs : List (DataW H)) (before : List MemPlace)
    (hval0 : ∀ (j : Nat) t v, Tryz.f18.params[j]? = some t → args[j]? = some v → Value.okWide Tryz.prog W .any base t v)
    (hW : DataW.Whole enc Tryz.prog Tryz.f18.params.toList Rows.traceAppliesSpec.vars false W args.toList ds gs before) (hk : Rows.uptoSmall H (ds ++ gs) = true) :
    Calls Tryz.prog 18 args W fun e W' => ∃ v, e = .returned v ∧ Rows.traceAppliesSpec.post enc Tryz.prog Tryz.f18 false true false false W args v W' := by
  have hval : ∀ (j : Nat) t v, Tryz.f18.params[j]? = some t → args[j]? = some v → Value.okWide Tryz.prog W .any base t v := hval0
  have hW' := hW
  obtain ⟨p, q, hA0, hV, rfl, hfz, hnd⟩ := hW
  have hA : DataW.TrodAll enc Tryz.prog W 0 (fun _ => true) true Tryz.f18.params.toList args.toList ds p := hA0
  obtain ⟨rfl, rfl⟩ := trodVars_none hV
  simp only [List.append_nil] at hW' hk
  have hlt : ∀ x ∈ p, x.block < W.heap.size := fun x hx => hW'.lt x hx
  have hA1 := hA
  rw [Tryz.params18] at hA hval
  obtain ⟨v0, vs, d0, ds, p0, q0, eA, rfl, rfl, h0, hA⟩ := trodAll_cons hA
  obtain ⟨v1, vs, d1, ds, p1, q1, rfl, rfl, rfl, h1, hA⟩ := trodAll_cons hA
  obtain ⟨rfl, rfl, rfl⟩ := trodAll_nil hA
  obtain rfl : args = #[v0, v1] := by cases args; simp only at eA; rw [eA]
  have hbulk : Rows.uptoBulkAll [d0, d1] ≤ 1048576 := of_decide_eq_true hk
  simp only [Rows.uptoBulkAll] at hbulk
  obtain ⟨fuel0, h0'⟩ := h0
  obtain ⟨y0, a0, c1, e0, c3, r0⟩ := Go.Fw.opn_state bulk recT stT _ _ _ h0'
  obtain ⟨cs0, rfl⟩ : ∃ cs, v0 = .agg cs := by
    have := hval 0 54 v0 rfl rfl
    simp only [Value.okWide, Tryz.underlying54] at this
    obtain ⟨cs, h, _⟩ := this
    exact ⟨cs, h⟩
  obtain rfl : cs0 = (Go.Fw.RState.enc y0).toArray := by
    have : cs0.toList = Go.Fw.RState.enc y0 := c1
    rw [← this]
  have b0 : Go.Fw.szState a0 ≤ 1048576 := by have : Go.Fw.szState a0 ≤ Rows.uptoBulk d0 := c3; omega
  obtain ⟨fuel1, h1'⟩ := h1
  obtain ⟨y1, a1, c1, e1, c3, r1⟩ := Go.Fw.opn_mark bulk recT _ _ _ h1'
  obtain ⟨cs1, rfl⟩ : ∃ cs, v1 = .agg cs := by
    have := hval 1 60 v1 rfl rfl
    simp only [Value.okWide, Tryz.underlying60] at this
    obtain ⟨cs, h, _⟩ := this
    exact ⟨cs, h⟩
  obtain rfl : cs1 = (Go.Fw.RMark.enc y1).toArray := by
    have : cs1.toList = Go.Fw.RMark.enc y1 := c1
    rw [← this]
  have b1 : Go.Fw.szMark a1 ≤ 1048576 := by have : Go.Fw.szMark a1 ≤ Rows.uptoBulk d1 := c3; omega
  refine (walk W y0 a0 e0 b0 r0 y1 a1 e1 b1 r1).mono fun e W' ⟨he, hg⟩ => ?_
  subst he
  exact ⟨_, rfl, _, _, _, [], _, [], hW', (trodAll_cons_mk (shut_bool Tryz.underlying4 _) trodAll_mk0), Go.Fw.trodAll_of laid hg readables hA1 hlt, rfl, Go.Fw.kept_of hg _, fun h => by cases h⟩
abbrev zv : List Value := [.int .i64 0, .int .i64 0, .int .i64 0, .int .i64 0]
abbrev zm : List Value := List.replicate 8 (.int .u8 0)
abbrev z1 : List Value := [.int .i64 0]
abbrev zt : List Value := [.slice none 0 0, .slice none 0 0, .slice none 0 0, .int .i64 0, .int .i64 0, .bool false]
abbrev zs : Value := .agg ((List.replicate 11 zv).flatten ++ (List.replicate 32 (zv ++ (zm ++ z1))).flatten ++ zt).toArray
abbrev dv (H : Type) : DataW H := .agg (List.replicate 4 (.lit (.int .i64 0)))
abbrev zd {H : Type} : DataW H := .agg [.agg (List.replicate 11 (dv H)), .agg (List.replicate 32 (.agg [dv H, .agg (List.replicate 8 (.lit (.int .u8 0))), .lit (.int .i64 0)])), .nil, .nil, .nil, .lit (.int .i64 0), .lit (.int .i64 0), .lit (.bool false)]
set_option maxRecDepth 100000 in
theorem lifted (os : Os) (started : os.Started) (H : Type) (enc : TypeId × Value → H) (F : Stop.Interp) :
    ReturnsInHanded {} Tryz.checked os 18 .any ((Rows.OpenSpec.upto Rows.traceAppliesSpec).pre6 enc Tryz.prog Tryz.f18 Rows.traceAppliesUptoRow.domain false) (((Rows.OpenSpec.upto Rows.traceAppliesSpec).at F).post enc Tryz.prog Tryz.f18 false true false false) := by
  refine returnsInHanded_of_cond (C := Tryz.checked) (s := Rows.OpenSpec.upto Rows.traceAppliesSpec) (k := Rows.uptoSmall) rfl own started (by kernel_rfl) Tryz.func18
    (OpenSpec.witness (enc := enc) (C := Tryz.checked) (s := Rows.OpenSpec.upto Rows.traceAppliesSpec) (k := Rows.uptoSmall) rfl false ⟨#[], #[zs, .agg #[.int .i64 0, .int .i64 0, .bool false, .slice none 0 0, .slice none 0 0, .slice none 0 0, .slice none 0 0]], []⟩ 8 (by kernel_rfl) (by kernel_rfl) (by kernel_rfl)
      (x := ([zd, .agg [.lit (.int .i64 0), .lit (.int .i64 0), .lit (.bool false), .nil, .nil, .nil, .nil]], [], [])) (by kernel_rfl) rfl (by kernel_rfl)) ?_
  intro W base args ds gs before hval hW _ hk _
  exact contract H enc W base args ds gs before hval hW hk
set_option maxRecDepth 100000 in
theorem inst : Tryz.f18.isInstance Tryz.prog Rows.traceAppliesUptoRow.origin Rows.traceAppliesUptoRow.targs := of_decide_eq_true (by kernel_rfl)
set_option maxRecDepth 100000 in
theorem wrap : Tryz.f18.isWrapper Tryz.prog Rows.traceAppliesUptoRow.wrapper Rows.traceAppliesUptoRow.mainSum := by
  unfold Func.isWrapper; first | (rw [if_pos (by decide +kernel)]; kernel_rfl) | (rw [if_neg (by decide +kernel)]; exact ⟨rfl, rfl⟩)
theorem proved : Rows.TraceAppliesUptoSaid :=
  OpenClaim.holds_of_cond 18 Tryz.f18 rfl rfl rfl rfl rfl rfl rfl ⟨rfl, rfl, rfl, rfl, rfl⟩ rfl rfl rfl rfl rfl named Tryz.func18 jf
    inst wrap
    (fun os started H enc _ F => lifted os started H enc F)
#print axioms proved
end Go.Proofs.YtmgnkohlfbjjnaaGreatR.traceApplies
