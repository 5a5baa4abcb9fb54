/- A call of closed code. No statement of the seat is proved here. -/
import Derived.Test.YtmgnkohlfbjjnaaGreatREvC4
namespace Go.Ev
set_option linter.unusedVariables false
set_option linter.unusedSimpArgs false
open Go.Fw

theorem SR.start (w0 : World) : SR ⟨fun _ => SV.nil, fun _ => #[], fun _ => 0⟩ [] w0 { h := .e, nx := 0 } w0 := by
  have no : ∀ n o, find (.e : Heap) n = some o → False := fun n o e => by simp [find, Tr.get_e] at e
  exact ⟨⟨Nat.le_refl _, fun _ _ _ _ => rfl⟩, Io.refl w0, fun n o e => (no n o e).elim, fun n o e => (no n o e).elim, fun n o e => (no n o e).elim, fun n m o o' e => (no n o e).elim, fun n h => absurd h (by simp), ⟨fun l L e => absurd e (by simp [envGet]), fun l L e => absurd e (by simp [envGet])⟩⟩

/-- It answers 'true'. -/
def okT : Option (AV × St) → Bool
  | some (.b true, _) => true
  | _ => false

theorem closed_true {P : Program} {f fuel k : Nat} (hm : P.follows .mixedOrders = true) (h : okT (acall (tabOf P) fuel k [] (.f f [] []) [] { h := .e, nx := 0 }) = true) (w0 : World) : Calls P f #[] w0 (Ret fun v w' => v = .bool true ∧ Keeps [] w0 w') := by
  cases hq : acall (tabOf P) fuel k [] (.f f [] []) [] { h := .e, nx := 0 } with
  | none => rw [hq] at h; cases h
  | some p =>
    obtain ⟨v, s'⟩ := p
    rw [hq] at h
    have hv : v = .b true := by
      cases v <;> simp only [okT, Bool.false_eq_true] at h
      rename_i b
      cases b
      · simp at h
      · rfl
    subst hv
    have := (acall_ok (w0 := w0) (fuel := fuel) hm k [] _ _ _ w0 _ _ _ hq (SR.start w0) ⟨trivial, trivial⟩ (by simp)).2
    simp only [List.append_nil, List.map_nil] at this
    refine Calls.mono this fun e w' he => ?_
    cases e <;> simp only [Ret] at he ⊢
    obtain ⟨I', hA⟩ := he
    exact ⟨by rw [hA.val]; simp [gam], ⟨hA.sr.io, hA.sr.old.size, fun j hj _ => hA.sr.old.block j (Nat.zero_le _) hj (by simp)⟩⟩
end Go.Ev
