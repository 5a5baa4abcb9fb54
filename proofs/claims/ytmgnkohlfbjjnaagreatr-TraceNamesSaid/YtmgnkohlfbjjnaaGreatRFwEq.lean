/- '==' on things without addresses. No statement of the seat is proved here. -/
import Derived.Test.YtmgnkohlfbjjnaaGreatRTy
namespace Go.Fw
set_option linter.unusedVariables false
set_option linter.unusedSimpArgs false

/-- '==' at this type tells whether the things are one. -/
def EqSpec (P : Program) (t : TypeId) {X : Type} [DecidableEq X] (v : X → Value) : Prop :=
  ∀ (d : Nat) (x y : X) (w : World), 1 ≤ d → (Op.equalIn d t (v x) (v y)).run P w = .ok (decide (x = y)) w

theorem EqSpec.int {P : Program} {t : TypeId} {k k' : IntKind} (ht : P.underlying t = some (.int k')) : EqSpec P t (fun x : Int => .int k x) := by
  intro d x y w hd
  obtain ⟨d, rfl⟩ : ∃ d', d = d' + 1 := ⟨d - 1, by omega⟩
  rw [run_equalIn_int w d t k k' x y ht]; rfl

theorem EqSpec.u8 {P : Program} {t : TypeId} {k' : IntKind} (ht : P.underlying t = some (.int k')) : EqSpec P t (fun x : UInt8 => .int .u8 (x.toNat : Int)) := by
  intro d x y w hd
  obtain ⟨d, rfl⟩ : ∃ d', d = d' + 1 := ⟨d - 1, by omega⟩
  rw [run_equalIn_int w d t .u8 k' _ _ ht]
  have : ((x.toNat : Int) == (y.toNat : Int)) = decide (x = y) := by
    rw [Bool.eq_iff_iff]
    simp only [beq_iff_eq, decide_eq_true_eq]
    constructor
    · intro h; exact UInt8.toNat_inj.1 (by omega)
    · intro h; rw [h]
  rw [this]

theorem EqSpec.bool {P : Program} {t : TypeId} (ht : P.underlying t = some .bool) : EqSpec P t (fun x : Bool => .bool x) := by
  intro d x y w hd
  obtain ⟨d, rfl⟩ : ∃ d', d = d' + 1 := ⟨d - 1, by omega⟩
  exact run_equalIn_bool d ht

def Op.eqElems (d : Nat) (e n : Nat) (xs ys : Array Value) : List Nat → Sem Bool
  | [] => pure true
  | i :: is => do
    let a ← part e xs (i * n)
    let b ← part e ys (i * n)
    let r ← Op.equalIn d e a b
    if (!r) = true then pure false else Op.eqElems d e n xs ys is

theorem run_equalIn_array {P : Program} (w : World) (d : Nat) {t e n len : Nat} (xs ys : Array Value) (ht : P.underlying t = some (.array len e)) (hn : ∀ w, (sizeOf e).run P w = .ok n w) :
    (Op.equalIn (d + 1) t (.agg xs) (.agg ys)).run P w = (Op.eqElems d e n xs ys (List.range len)).run P w := by
  simp only [Op.equalIn, Sem.run_bind, run_underlying ht, Result.andThen_ok, hn]
  rw [Std.Legacy.Range.forIn_eq_forIn_range']
  have hr : List.range' 0 (Std.Legacy.Range.size { start := 0, stop := len, step := 1, step_pos := by decide }) 1 = List.range len := by
    simp [Std.Legacy.Range.size, List.range_eq_range']
  simp only [hr]
  generalize List.range len = is
  induction is generalizing w with
  | nil => simp [Op.eqElems]
  | cons i is ih =>
    simp only [List.forIn_cons, Op.eqElems, Sem.run_bind]
    generalize (part e xs (i * n)).run P w = r1
    cases r1 with
    | halt x w1 => simp [Result.andThen]
    | ok a w1 =>
      simp only [Result.andThen_ok]
      generalize (part e ys (i * n)).run P w1 = r2
      cases r2 with
      | halt x w2 => simp [Result.andThen]
      | ok b w2 =>
        simp only [Result.andThen_ok]
        generalize (Op.equalIn d e a b).run P w2 = r3
        cases r3 with
        | halt x w3 => simp [Result.andThen]
        | ok r w3 =>
          cases r
          · simp
          · simpa using ih w3

theorem run_part_agg {P : Program} (w : World) {t sz off : Nat} {cs vs : List Value} (ha : ∀ w, (isAgg t).run P w = .ok true w) (hs : ∀ w, (sizeOf t).run P w = .ok sz w) (hc : cut cs off sz = vs) :
    (part t cs.toArray off).run P w = .ok (.agg vs.toArray) w := by
  subst hc
  simp [part, ha, hs, cut]
theorem run_part_one {P : Program} (w : World) {t off : Nat} {cs : List Value} {v : Value} (ha : ∀ w, (isAgg t).run P w = .ok false w) (hc : cs[off]? = some v) : (part t cs.toArray off).run P w = .ok v w := by
  simp [part, ha, hc]

theorem EqSpec.vecAgg {P : Program} {t e len : Nat} {X : Type} [Enc X] [DecidableEq X] (ht : P.underlying t = some (.array len e)) (hn : ∀ w, (sizeOf e).run P w = .ok (Enc.sz X) w) (ha : ∀ w, (isAgg e).run P w = .ok true w)
    (he : ∀ (d : Nat) (x y : X) (w : World), 8 ≤ d → (Op.equalIn d e (.agg (Enc.enc x).toArray) (.agg (Enc.enc y).toArray)).run P w = .ok (decide (x = y)) w) :
    ∀ (d : Nat) (x y : Vec X len) (w : World), 9 ≤ d → (Op.equalIn d t (.agg (encs x.l).toArray) (.agg (encs y.l).toArray)).run P w = .ok (decide (x = y)) w := by
  intro d x y w hd
  obtain ⟨d, rfl⟩ : ∃ d', d = d' + 1 := ⟨d - 1, by omega⟩
  rw [run_equalIn_array w d _ _ ht hn]
  have key : ∀ (k s : Nat), s + k = len → (Op.eqElems d e (Enc.sz X) (encs x.l).toArray (encs y.l).toArray (List.range' s k)).run P w = .ok (decide (x.l.drop s = y.l.drop s)) w := by
    intro k
    induction k with
    | zero =>
      intro s hs
      rw [List.drop_eq_nil_of_le (by rw [x.len]; omega), List.drop_eq_nil_of_le (by rw [y.len]; omega)]
      simp [Op.eqElems]
    | succ k ih =>
      intro s hs
      obtain ⟨a, hxa⟩ := x.get (i := s) (by omega)
      obtain ⟨b, hyb⟩ := y.get (i := s) (by omega)
      simp only [List.range'_succ, Op.eqElems, Sem.run_bind, run_part_agg w ha hn (encs_get x.l s a hxa), run_part_agg w ha hn (encs_get y.l s b hyb), Result.andThen_ok, he d a b w (by omega)]
      have hx : x.l.drop s = a :: x.l.drop (s + 1) := by
        obtain ⟨h1, h2⟩ := List.getElem?_eq_some_iff.1 hxa
        rw [← h2]; exact List.drop_eq_getElem_cons h1
      have hy : y.l.drop s = b :: y.l.drop (s + 1) := by
        obtain ⟨h1, h2⟩ := List.getElem?_eq_some_iff.1 hyb
        rw [← h2]; exact List.drop_eq_getElem_cons h1
      rw [hx, hy]
      by_cases hab : a = b
      · subst hab
        simp only [decide_true, Bool.not_true, Bool.false_eq_true, if_false, ih (s + 1) (by omega), List.cons.injEq, true_and]
      · simp [hab]
  have := key len 0 (by omega)
  rw [List.range_eq_range', this]
  simp only [List.drop_zero]
  congr 1
  rw [decide_eq_decide]
  exact ⟨fun h => Vec.ext h, fun h => by rw [h]⟩
theorem EqSpec.vecOne {P : Program} {t e len n : Nat} {X : Type} [Enc X] [DecidableEq X] {v : X → Value} (ht : P.underlying t = some (.array len e)) (hn : ∀ w, (sizeOf e).run P w = .ok n w) (hn1 : n = Enc.sz X) (ha : ∀ w, (isAgg e).run P w = .ok false w)
    (hv : ∀ x, Enc.enc x = [v x]) (he : EqSpec P e v) :
    ∀ (d : Nat) (x y : Vec X len) (w : World), 2 ≤ d → (Op.equalIn d t (.agg (encs x.l).toArray) (.agg (encs y.l).toArray)).run P w = .ok (decide (x = y)) w := by
  intro d x y w hd
  subst hn1
  obtain ⟨d, rfl⟩ : ∃ d', d = d' + 1 := ⟨d - 1, by omega⟩
  rw [run_equalIn_array w d _ _ ht hn]
  have key : ∀ (k s : Nat), s + k = len → (Op.eqElems d e (Enc.sz X) (encs x.l).toArray (encs y.l).toArray (List.range' s k)).run P w = .ok (decide (x.l.drop s = y.l.drop s)) w := by
    intro k
    induction k with
    | zero =>
      intro s hs
      rw [List.drop_eq_nil_of_le (by rw [x.len]; omega), List.drop_eq_nil_of_le (by rw [y.len]; omega)]
      simp [Op.eqElems]
    | succ k ih =>
      intro s hs
      obtain ⟨a, hxa⟩ := x.get (i := s) (by omega)
      obtain ⟨b, hyb⟩ := y.get (i := s) (by omega)
      have ga : (encs x.l)[s * Enc.sz X]? = some (v a) := by
        have := (cut_get (encs x.l) (s * Enc.sz X) (Enc.sz X) 0 (v a) (by rw [encs_get x.l s a hxa, hv]; rfl)).2
        simpa using this
      have gb : (encs y.l)[s * Enc.sz X]? = some (v b) := by
        have := (cut_get (encs y.l) (s * Enc.sz X) (Enc.sz X) 0 (v b) (by rw [encs_get y.l s b hyb, hv]; rfl)).2
        simpa using this
      simp only [List.range'_succ, Op.eqElems, Sem.run_bind, run_part_one w ha ga, run_part_one w ha gb, Result.andThen_ok, he d a b w (by omega)]
      have hx : x.l.drop s = a :: x.l.drop (s + 1) := by
        obtain ⟨h1, h2⟩ := List.getElem?_eq_some_iff.1 hxa
        rw [← h2]; exact List.drop_eq_getElem_cons h1
      have hy : y.l.drop s = b :: y.l.drop (s + 1) := by
        obtain ⟨h1, h2⟩ := List.getElem?_eq_some_iff.1 hyb
        rw [← h2]; exact List.drop_eq_getElem_cons h1
      rw [hx, hy]
      by_cases hab : a = b
      · subst hab
        simp only [decide_true, Bool.not_true, Bool.false_eq_true, if_false, ih (s + 1) (by omega), List.cons.injEq, true_and]
      · simp [hab]
  have := key len 0 (by omega)
  rw [List.range_eq_range', this]
  simp only [List.drop_zero]
  congr 1
  rw [decide_eq_decide]
  exact ⟨fun h => Vec.ext h, fun h => by rw [h]⟩

/-- One field's part of '==' on structs. -/
theorem eqFields_agg {P : Program} {w : World} {d : Nat} {cx cy ux uy : List Value} {f : Field} {fs : List Field} {sz : Nat} {r : Bool} (hn : f.name ≠ "_") (ha : ∀ w, (isAgg f.type).run P w = .ok true w) (hs : ∀ w, (sizeOf f.type).run P w = .ok sz w)
    (hx : cut cx f.offset sz = ux) (hy : cut cy f.offset sz = uy) (he : (Op.equalIn d f.type (.agg ux.toArray) (.agg uy.toArray)).run P w = .ok r w) :
    (Op.eqFields d cx.toArray cy.toArray (f :: fs)).run P w = if r then (Op.eqFields d cx.toArray cy.toArray fs).run P w else .ok false w := by
  simp only [Op.eqFields, if_pos hn, Sem.run_bind, run_part_agg w ha hs hx, run_part_agg w ha hs hy, Result.andThen_ok, he]
  cases r <;> simp
theorem eqFields_one {P : Program} {w : World} {d : Nat} {cx cy : List Value} {ux uy : Value} {f : Field} {fs : List Field} {r : Bool} (hn : f.name ≠ "_") (ha : ∀ w, (isAgg f.type).run P w = .ok false w)
    (hx : cx[f.offset]? = some ux) (hy : cy[f.offset]? = some uy) (he : (Op.equalIn d f.type ux uy).run P w = .ok r w) :
    (Op.eqFields d cx.toArray cy.toArray (f :: fs)).run P w = if r then (Op.eqFields d cx.toArray cy.toArray fs).run P w else .ok false w := by
  simp only [Op.eqFields, if_pos hn, Sem.run_bind, run_part_one w ha hx, run_part_one w ha hy, Result.andThen_ok, he]
  cases r <;> simp
theorem eqFields_nil {P : Program} {w : World} {d : Nat} {cx cy : Array Value} : (Op.eqFields d cx cy []).run P w = .ok true w := by simp [Op.eqFields]

section
variable {P : Program} {n : Nat} {F : List (Nat × Value)} {a : Act} {dd : List Deferred} {w : World} {o : Oper}
theorem r_eqlA {t yt : TypeId} {x y : Operand} {cx cy : List Value} {r : Bool} (hg : P.eqGuardType P.depth t = false) (he : (Op.equalIn 10000 t (.agg cx.toArray) (.agg cy.toArray)).run P w = .ok r w)
    (hF : Fr n F a dd) (ho : o.op = .binOp .eql t x y yt) (hx : ev F x = some (.agg cx.toArray)) (hy : ev F y = some (.agg cy.toArray)) : (execOp a.eval o).run P w = .ok (.value (.bool r)) w := by
  simp only [execOp, ho, hF.eval hx, hF.eval hy, Sem.run_bind, run_eqGuard_agg w .eql t x y _ _ hg, Result.andThen_ok, run_eql_struct, he, Sem.run_pure]
theorem r_neqA {t yt : TypeId} {x y : Operand} {cx cy : List Value} {r : Bool} (hg : P.eqGuardType P.depth t = false) (he : (Op.equalIn 10000 t (.agg cx.toArray) (.agg cy.toArray)).run P w = .ok r w)
    (hF : Fr n F a dd) (ho : o.op = .binOp .neq t x y yt) (hx : ev F x = some (.agg cx.toArray)) (hy : ev F y = some (.agg cy.toArray)) : (execOp a.eval o).run P w = .ok (.value (.bool (!r))) w := by
  simp only [execOp, ho, hF.eval hx, hF.eval hy, Sem.run_bind, run_eqGuard_agg w .neq t x y _ _ hg, Result.andThen_ok, run_neq_struct, he, Sem.run_pure]
end
end Go.Fw
