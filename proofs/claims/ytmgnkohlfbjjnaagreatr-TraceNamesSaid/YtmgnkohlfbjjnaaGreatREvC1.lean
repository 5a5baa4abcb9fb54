/- A run of closed code, reckoned over plain data: operations in their order; two ways that come to one thing. No statement of the seat is proved here. -/
import Derived.Test.YtmgnkohlfbjjnaaGreatREvA3
namespace Go.Ev
open Go.Fw
set_option linter.unusedSimpArgs false
set_option linter.unusedVariables false

theorem Yd.ex {P : Program} {o : Oper} {ρ : Operand → Value} {w : World} {J : Value → World → Prop} (h : Yd P o ρ w J) : ∃ v w', J v w' := by
  unfold Yd at h
  generalize (execOp ρ o).run P w = r at h
  cases r with
  | halt _ _ => exact h.elim
  | ok x w' =>
    cases x <;> simp only at h
    case value => exact ⟨_, _, h⟩
    case skip => exact ⟨_, _, h⟩
    case enter f args =>
      obtain ⟨e, w2, fr, hr, _⟩ := h []
      cases e <;> first | exact ⟨_, _, hr⟩ | exact hr.elim
    case round l f tmps assign body =>
      obtain ⟨e, w2, hr, _⟩ := h.2 default [] (room_wide _)
      cases e <;> first | exact ⟨_, _, hr⟩ | exact hr.elim

theorem SR.wr {I : Ip} {env : Env} {w0 w : World} {s : St} (h : SR I env w0 s w) (l : List Nat) : SR I env w0 { s with wr := l } w := ⟨h.old, h.io, h.ok, h.holds, h.low, h.apart, h.marks, h.env⟩

section
variable {r : Option Nat} {I : Ip} {env : Env} {n : Nat} {w0 w : World} {s s' : St} {F F' : Fm} {a : Act} {dd : List Deferred} {P : Program} {ops : Array Oper} {call : CallT} {Q : Exit → Act → World → Prop}

/-- What is asked behind it. -/
def Then (I : Ip) (env : Env) (w0 : World) (n : Nat) (dd : List Deferred) (s : St) (F' : Fm) (s' : St) (K : Act → World → Prop) : Prop :=
  ∀ I' a' w', Agree s.nx I I' → SR I' env w0 s' w' → FR I' s'.nx n F' a' dd → Step s s' → s'.marks = s.marks → K a' w'

theorem aops_ok (hC : CallOK P w0 env call) : ∀ (l : List Oper) {F : Fm} {s : St} {I : Ip} {a : Act} {w : World}, aops (tabOf P) call n ops l F s = some (F', s') → SR I env w0 s w → FR I s.nx n F a dd →
    Then I env w0 n dd s F' s' (Q .normal) → wpL r P ops Q l a w := by
  intro l
  induction l with
  | nil =>
    intro F s I a w hh h hF hQ
    simp only [aops, Option.some.injEq, Prod.mk.injEq] at hh
    obtain ⟨rfl, rfl⟩ := hh
    exact hQ I a w (Agree.refl _ _) h hF (Step.refl _) rfl
  | cons o l ih =>
    intro F s I a w hh h hF hQ
    simp only [aops, Option.bind_eq_bind] at hh
    rw [Option.bind_eq_some_iff] at hh
    obtain ⟨b, hb, hh⟩ := hh
    have hw := hF.want hb
    refine wpListIn_step fun _ hK => ?_
    rw [hw]
    cases b with
    | true =>
      simp only [if_true] at hh ⊢
      rw [Option.bind_eq_some_iff] at hh
      obtain ⟨⟨v, s1⟩, hq, hh⟩ := hh
      rw [force_eq, Option.bind_eq_some_iff] at hh
      obtain ⟨F1, hF1, hh⟩ := hh
      refine Yd.wp ((aop_ok h hF hC hq).mono fun u w' hA => ?_)
      obtain ⟨I', hA⟩ := hA
      refine hK _ _ (ih hh hA.sr (by rw [hA.val]; exact (hF.agree hA.ag hA.step.nx).setO hF1 hA.okv) ?_)
      intro I2 a2 w2 ag hs hf hst hm
      exact hQ I2 a2 w2 (hA.ag.trans ag hA.step.nx) hs hf (hA.step.trans hst) (hm.trans hA.marks)
    | false =>
      simp only [Bool.false_eq_true, if_false] at hh ⊢
      rw [Option.bind_eq_some_iff] at hh
      obtain ⟨F1, hF1, hh⟩ := hh
      exact ⟨fun _ _ => trivial, hK _ _ (ih hh h (by have := hF.setO hF1 (v := .und) trivial; simpa only [Ip.g, gam] using this) hQ)⟩

/-! ### Two ways -/
theorem eqMap {es es' : List (AV × AV × Nat)} (h1 : es.map (·.1) = es'.map (·.1)) (h2 : es.map (·.2.1) = es'.map (·.2.1)) (h3 : es.map (·.2.2) = es'.map (·.2.2)) : es = es' := by
  induction es generalizing es' with
  | nil => cases es' <;> simp at h1 ⊢
  | cons e es ih =>
    cases es' with
    | nil => simp at h1
    | cons e' es' =>
      simp only [List.map_cons, List.cons.injEq] at h1 h2 h3
      obtain ⟨a, b, c⟩ := e
      obtain ⟨a', b', c'⟩ := e'
      simp only at h1 h2 h3
      rw [ih h1.2 h2.2 h3.2, h1.1, h2.1, h3.1]

theorem eqO_eq {x y : AObj} (h : eqO x y = true) : x = y := by
  cases x <;> cases y <;> simp only [eqO, Bool.and_eq_true, Nat.beq_eq, decide_eq_true_eq, Bool.false_eq_true, beq_iff_eq] at h <;> try rfl
  case pt.pt => obtain ⟨⟨rfl, rfl⟩, h⟩ := h; rw [eqVs_eq _ _ h]
  case fz.fz => obtain ⟨⟨rfl, rfl⟩, h⟩ := h; rw [eqVs_eq _ _ h]
  case row.row => obtain ⟨⟨⟨rfl, rfl⟩, rfl⟩, h⟩ := h; rw [eqVs_eq _ _ h]
  case map.map => obtain ⟨⟨⟨rfl, h1⟩, h2⟩, h3⟩ := h; rw [eqMap (eqVs_eq _ _ h1) (eqVs_eq _ _ h2) h3]
  case loop.loop => obtain ⟨rfl, rfl⟩ := h; rfl
  case defd.defd => rw [h]

theorem rens_eq (f : Nat → Nat) (l : List AV) : rens f l = l.map (ren f) := by
  induction l with
  | nil => simp [rens]
  | cons v l ih => simp [rens, ih]

/-- With names changed. -/
def Ip.ren (I : Ip) (f : Nat → Nat) : Ip := ⟨fun m => I.sv (f m), fun m => I.arr (f m), fun m => I.fn (f m)⟩
theorem Ip.ren_g (I : Ip) (f : Nat → Nat) (v : AV) : (I.ren f).g v = I.g (Ev.ren f v) := (gam_ren I.sv f v).symm
theorem Ip.ren_map (I : Ip) (f : Nat → Nat) (l : List AV) : (rens f l).map I.g = l.map (I.ren f).g := by
  rw [rens_eq, List.map_map]; exact List.map_congr_left fun v _ => (I.ren_g f v).symm

theorem res_ren {f : Nat → Nat} {lo m : Nat} {o : AObj} (he : envGet env (f m) = envGet env m) (hL : ∀ L, envGet env m = some L → f m = m ∧ f L.d = L.d) : res (I.ren f) env lo m o = res I env lo (f m) (renO f o) := by
  cases o <;> simp only [res, renO, Ip.ren_map] <;> try rfl
  case map es c =>
    simp only [List.map_map]
    have e : (es.map fun e => (⟨(I.ren f).g e.1, (I.ren f).g e.2.1, e.2.2⟩ : MapEntry)) = es.map ((fun e => (⟨I.g e.1, I.g e.2.1, e.2.2⟩ : MapEntry)) ∘ fun e => (Ev.ren f e.1, Ev.ren f e.2.1, e.2.2)) :=
      List.map_congr_left fun e _ => by simp only [Function.comp, Ip.ren_g]
    rw [e]; rfl
  case loop st pd =>
    rw [he]
    cases hh : envGet env m with
    | none => rfl
    | some L =>
      obtain ⟨h1, h2⟩ := hL L hh
      simp only [loopOf, Ip.ren, h1, h2]

theorem nodupN_inj {l : List Nat} (h : nodupN l = true) : ∀ (i j x : Nat), l[i]? = some x → l[j]? = some x → i = j := by
  induction l with
  | nil => intro i j x hi; simp at hi
  | cons y l ih =>
    simp only [nodupN, Bool.and_eq_true, Bool.not_eq_true', List.contains_eq_mem, decide_eq_false_iff_not] at h
    intro i j x hi hj
    cases i with
    | zero =>
      cases j with
      | zero => rfl
      | succ j => simp at hi hj; subst hi; exact absurd (List.mem_of_getElem? hj) h.1
    | succ i =>
      cases j with
      | zero => simp at hi hj; subst hj; exact absurd (List.mem_of_getElem? hi) h.1
      | succ j => simp at hi hj; rw [ih h.2 i j x hi hj]

/-- What holds at the end of the one way holds at the end of the other, by other names. -/
theorem same_way {I0 : Ip} {s0 s1 s2 : St} {F1 F2 : Fm} {f : Nat → Nat} {wa : World} (hI0 : SR I0 env w0 s0 wa) (hf : ∀ m, m < s0.nx → f m = m) (hs : sameWay n s0.nx f F1 s1 F2 s2 = true)
    (st1 : Step s0 s1) (st2 : Step s0 s2) {I1 : Ip} {a1 : Act} {w1 : World} (h1 : SR I1 env w0 s1 w1) (hF1 : FR I1 s1.nx n F1 a1 dd)
    {I2 : Ip} {a2 : Act} {w2 : World} (ag : Agree s0.nx I0 I2) (h2 : SR I2 env w0 s2 w2) (hF2 : FR I2 s2.nx n F2 a2 dd) :
    Agree s0.nx I0 (I2.ren f) ∧ SR (I2.ren f) env w0 s1 w2 ∧ FR (I2.ren f) s1.nx n F1 a2 dd ∧ s2.nx = s1.nx := by
  simp only [sameWay, Bool.and_eq_true, List.all_eq_true, List.mem_range, Nat.beq_eq, decide_eq_true_eq, Bool.or_eq_true, List.mem_append, List.mem_filter, List.mem_map] at hs
  obtain ⟨⟨⟨⟨⟨⟨⟨hnx, hmk⟩, hrg⟩, hnd⟩, hfr⟩, hw1⟩, hw2⟩, hob⟩ := hs
  have hnx1 := st1.nx
  have agr : Agree s0.nx I0 (I2.ren f) := ⟨fun m hm => by simp only [Ip.ren, hf m hm]; exact ag.sv m hm, fun m hm => by simp only [Ip.ren, hf m hm]; exact ag.arr m hm, fun m hm => by simp only [Ip.ren, hf m hm]; exact ag.fn m hm⟩
  have agr2 : Agree s0.nx I2 (I2.ren f) := ⟨fun m hm => by simp only [Ip.ren, hf m hm], fun m hm => by simp only [Ip.ren, hf m hm], fun m hm => by simp only [Ip.ren, hf m hm]⟩
  have hge : ∀ m, s0.nx ≤ m → m < s1.nx → s0.nx ≤ f m ∧ f m < s1.nx := by
    intro m h3 h4
    have := hrg (m - s0.nx) (by omega)
    rw [show s0.nx + (m - s0.nx) = m by omega] at this
    exact ⟨Nat.le_of_ble_eq_true this.1, Nat.le_of_ble_eq_true this.2⟩
  have hinj : ∀ m m', m < s1.nx → m' < s1.nx → f m = f m' → m = m' := by
    intro m m' h3 h4 h5
    by_cases c1 : m < s0.nx
    · by_cases c2 : m' < s0.nx
      · rw [hf m c1, hf m' c2] at h5; exact h5
      · have := hge m' (by omega) h4; rw [hf m c1] at h5; omega
    · by_cases c2 : m' < s0.nx
      · have := hge m (by omega) h3; rw [hf m' c2] at h5; omega
      · have key := nodupN_inj hnd (m - s0.nx) (m' - s0.nx) (f m)
        have e1 : ((List.range (s1.nx - s0.nx)).map fun m => f (s0.nx + m))[m - s0.nx]? = some (f m) := by
          rw [List.getElem?_map, List.getElem?_range (by omega)]; simp only [Option.map_some]; rw [show s0.nx + (m - s0.nx) = m by omega]
        have e2 : ((List.range (s1.nx - s0.nx)).map fun m => f (s0.nx + m))[m' - s0.nx]? = some (f m) := by
          rw [List.getElem?_map, List.getElem?_range (by omega)]; simp only [Option.map_some]; rw [show s0.nx + (m' - s0.nx) = m' by omega, h5]
        have := key e1 e2
        omega
  -- each thing of the one way is one of the other
  have hobj : ∀ m o, find s1.h m = some o → ∃ o', find s2.h (f m) = some o' ∧ res (I2.ren f) env w0.heap.size m o = res I2 env w0.heap.size (f m) o' := by
    intro m o hm
    have hlt := (h1.ok m o hm).1
    by_cases c : m < s0.nx ∧ m ∉ s1.wr
    · obtain ⟨c1, c2⟩ := c
      have e1 : find s0.h m = some o := by rw [← st1.unch m c1 c2]; exact hm
      have c3 : m ∉ s2.wr := by
        intro hx
        rcases hw2 m hx with h3 | h3
        · exact c2 (memN_iff.1 h3)
        · have := Nat.le_of_ble_eq_true h3; omega
      refine ⟨o, by rw [hf m c1, st2.unch m c1 c3]; exact e1, ?_⟩
      rw [hf m c1]
      exact res_agree agr2 (fun L hL => (hI0.env.name m L hL).2) rfl (hI0.ok m o e1).2 c1
    · have hmem : (m ∈ s1.wr ∧ Nat.blt m s0.nx = true) ∨ ∃ q, q < s1.nx - s0.nx ∧ s0.nx + q = m := by
        by_cases c1 : m < s0.nx
        · exact .inl ⟨Classical.byContradiction fun x => c ⟨c1, x⟩, by rw [Nat.blt_eq]; exact c1⟩
        · exact .inr ⟨m - s0.nx, by omega, by omega⟩
      have := hob m hmem
      rw [hm] at this
      cases hx : find s2.h (f m) with
      | none => simp [hx] at this
      | some o' =>
        simp only [hx] at this
        have e := eqO_eq this
        refine ⟨o', rfl, ?_⟩
        rw [← e]
        refine res_ren ?_ fun L hL => ?_
        · by_cases c1 : m < s0.nx
          · rw [hf m c1]
          · have q1 : envGet env m = none := by
              cases q : envGet env m with
              | none => rfl
              | some L => have := (hI0.env.name m L q).1; omega
            have q2 : envGet env (f m) = none := by
              cases q : envGet env (f m) with
              | none => rfl
              | some L => have := (hI0.env.name _ L q).1; have := (hge m (by omega) hlt).1; omega
            rw [q1, q2]
        · obtain ⟨q1, q2⟩ := hI0.env.name m L hL
          exact ⟨hf m q1, hf _ q2⟩
  refine ⟨agr, ⟨h2.old, h2.io, h1.ok, fun m o hm => ?_, fun m o hm b hb => ?_, ?_, h1.marks, hI0.env.agree agr hnx1⟩, ?_, hnx.symm⟩
  · obtain ⟨o', e1, e2⟩ := hobj m o hm; rw [e2]; exact h2.holds _ _ e1
  · obtain ⟨o', e1, e2⟩ := hobj m o hm; rw [e2] at hb; exact h2.low _ _ e1 b hb
  · intro m m' o o' hm hm' hne b hb hb'
    obtain ⟨p, e1, e2⟩ := hobj m o hm
    obtain ⟨p', e1', e2'⟩ := hobj m' o' hm'
    rw [e2] at hb
    rw [e2'] at hb'
    exact h2.apart _ _ p p' e1 e1' (fun x => hne (hinj m m' (h1.ok m o hm).1 (h1.ok m' o' hm').1 x)) b hb hb'
  · refine ⟨hF2.defers, hF2.size, fun t v hv => ?_⟩
    obtain ⟨q1, q2, _⟩ := hF1.get t v hv
    refine ⟨q1, q2, ?_⟩
    have := hfr t q1
    rw [hv] at this
    cases hx : F2.get t with
    | none => simp [hx] at this
    | some v' =>
      simp only [hx] at this
      have e := eqV_eq _ _ this
      rw [Ip.ren_g, e]
      exact (hF2.get t v' hx).2.2
end
end Go.Ev
