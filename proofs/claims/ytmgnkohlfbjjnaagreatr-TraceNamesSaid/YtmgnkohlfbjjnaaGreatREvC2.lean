/- A run of closed code, reckoned over plain data: regions whose order is drawn. No statement of the seat is proved here. -/
import Derived.Test.YtmgnkohlfbjjnaaGreatREvC1
namespace Go.Ev
open Go.Fw
set_option linter.unusedSimpArgs false
set_option linter.unusedVariables false

/-! ### Who comes ahead of whom, as bits -/
theorem fold_bits {acc : List Nat} (l : List Nat) (m0 : Nat) (j : Nat) : (l.foldl (fun m p => m ||| 2 ^ p ||| acc.getD p 0) m0).testBit j = true → m0.testBit j = true ∨ ∃ p ∈ l, p = j ∨ (acc.getD p 0).testBit j = true := by
  induction l generalizing m0 with
  | nil => intro h; exact .inl h
  | cons p l ih =>
    intro h
    simp only [List.foldl_cons] at h
    rcases ih _ h with h | ⟨q, hq, h⟩
    · rw [Nat.testBit_or, Nat.testBit_or] at h
      simp only [Bool.or_eq_true] at h
      rcases h with (h | h) | h
      · exact .inl h
      · rw [Nat.testBit_two_pow] at h
        exact .inr ⟨p, List.mem_cons_self, .inl (by simpa using h)⟩
      · exact .inr ⟨p, List.mem_cons_self, .inr h⟩
    · exact .inr ⟨q, List.mem_cons_of_mem _ hq, h⟩

theorem masks_ok (ops : Array Oper) (k : Nat) : let acc := (List.range k).foldl (fun acc i => acc ++ [(aftOf ops i).foldl (fun m p => m ||| 2 ^ p ||| acc.getD p 0) 0]) ([] : List Nat)
    acc.length = k ∧ ∀ e j, e < k → (acc.getD e 0).testBit j = true → ∀ listed : Array Bool, listed.size = ops.size → (∀ i, i < ops.size → listed.getD i true = true → ∀ p ∈ aftOf ops i, listed.getD p true = true) →
      (∀ p ∈ aftOf ops e, listed.getD p true = true) → listed.getD j true = true := by
  induction k with
  | zero => simp
  | succ k ih =>
    simp only [List.range_succ, List.foldl_append, List.foldl_cons, List.foldl_nil] at ih ⊢
    generalize (List.range k).foldl (fun acc i => acc ++ [(aftOf ops i).foldl (fun m p => m ||| 2 ^ p ||| acc.getD p 0) 0]) ([] : List Nat) = acc at ih ⊢
    obtain ⟨h1, h2⟩ := ih
    refine ⟨by simp [h1], fun e j he hb listed hs hcl ha => ?_⟩
    by_cases hek : e < k
    · refine h2 e j hek ?_ listed hs hcl ha
      rw [List.getD_eq_getElem?_getD, List.getElem?_append_left (by omega)] at hb
      rw [List.getD_eq_getElem?_getD]; exact hb
    · have : e = k := by omega
      subst this
      rw [List.getD_eq_getElem?_getD, List.getElem?_append_right (by omega), h1, Nat.sub_self] at hb
      simp only [List.getElem?_cons_zero, Option.getD_some] at hb
      rcases fold_bits _ _ _ hb with hb | ⟨p, hp, hb⟩
      · simp at hb
      · have hl := ha p hp
        rcases hb with rfl | hb
        · exact hl
        · by_cases hpk : p < e
          · by_cases hps : p < ops.size
            · exact h2 p j hpk hb listed hs hcl (hcl p hps hl)
            · refine h2 p j hpk hb listed hs hcl ?_
              intro q hq
              simp [aftOf, Array.getElem?_eq_none (by omega : ops.size ≤ p)] at hq
          · rw [List.getD_eq_getElem?_getD, List.getElem?_eq_none (by omega)] at hb
            simp at hb

theorem syncM_P {ops : Array Oper} {T : List Nat} {e : Nat} (h : syncM ops T e = true) : SyncP ops T e := by
  intro listed hs hcl ha j hj
  have hb := List.all_eq_true.1 h j hj
  by_cases he : e < ops.size
  · exact (masks_ok ops ops.size).2 e j he hb listed hs hcl ha
  · have := (masks_ok ops ops.size).1
    unfold masks at hb
    rw [List.getD_eq_getElem?_getD, List.getElem?_eq_none (by omega)] at hb
    simp at hb

theorem mem_addNames {l acc : List Nat} {m : Nat} (h : m ∈ acc) : m ∈ l.foldl (fun acc n => bif memN n acc then acc else n :: acc) acc := by
  induction l generalizing acc with
  | nil => exact h
  | cons x l ih =>
    simp only [List.foldl_cons]
    refine ih ?_
    cases memN x acc <;> simp [h]
theorem mem_addName {F : Fm} {x : Operand} {acc : List Nat} {m : Nat} (h : m ∈ acc) : m ∈ addName F x acc := by
  unfold addName
  split
  · exact mem_addNames h
  · exact h
theorem mem_foldNames {F : Fm} {l : List Operand} {acc : List Nat} {m : Nat} (h : m ∈ acc) : m ∈ l.foldl (fun acc x => addName F x acc) acc := by
  induction l generalizing acc with
  | nil => exact h
  | cons x l ih => exact ih (mem_addName h)
theorem mem_opNames {F : Fm} {o : Op} {acc : List Nat} {m : Nat} (h : m ∈ acc) : m ∈ opNames F o acc := by
  unfold opNames
  split
  · exact mem_addName h
  · split <;> first | exact mem_addName h | exact h
  · exact mem_addName h
  · exact mem_addName h
  · split <;> first | exact mem_addName h | exact h
  · split <;> first | exact mem_addName h | exact h
  · exact mem_foldNames h
  · exact h

theorem pickQ_ok {p : Nat → Bool} {l : List Nat} {i : Nat} (h : pickQ p l = some i) : p i = true := by
  induction l with
  | nil => simp [pickQ] at h
  | cons x l ih =>
    simp only [pickQ] at h
    cases hb : p x with
    | true => simp only [hb, cond_true, Option.some.injEq] at h; subst h; exact hb
    | false => simp only [hb, cond_false] at h; exact ih h

theorem piName_id {nx0 : Nat} {l l' : Log} {m : Nat} (h : m < nx0) : piName nx0 l l' m = m := by
  unfold piName
  have : Nat.blt m nx0 = true := by rw [Nat.blt_eq]; exact h
  rw [this]; rfl

section
variable {r : Option Nat} {env : Env} {n : Nat} {w0 : World} {dd : List Deferred} {P : Program} {ops : Array Oper} {call : CallT} {Q : Exit → Act → World → Prop}

/-- What is looked at while others may come in between. -/
def Lk (I : Ip) (env : Env) (w0 : World) (rd : List Nat) (s : St) (w : World) : Prop := ∀ m ∈ rd, ∀ o, find s.h m = some o → (res I env w0.heap.size m o).holds w

theorem Lk.gk {I : Ip} {rd : List Nat} {s : St} {w wa : World} (h : Lk I env w0 rd s w) (ha : SR I env w0 s wa) : GK I env w0.heap.size s.nx w (lookAt rd s.h) := by
  have key : ∀ m o, lookAt rd s.h m = some o → m ∈ rd ∧ find s.h m = some o := by
    intro m o e
    unfold lookAt at e
    cases hb : memN m rd with
    | true => rw [hb] at e; exact ⟨memN_iff.1 hb, e⟩
    | false => rw [hb] at e; simp at e
  exact ⟨fun m o e => h m (key m o e).1 o (key m o e).2, fun m o e => ⟨(ha.ok m o (key m o e).2).2, (ha.ok m o (key m o e).2).1⟩⟩

/-- One step, done in a world. -/
theorem drawE_parts {next : DrawT} {R D : List Nat} {F : Fm} {rd : List Nat} {s : St} {lg : Log} {e : Nat} {x : Fm × St × Log} (h : drawE (tabOf P) call n ops next R D F rd s lg e = some x) :
    ∃ o v s1 rd' F1, ops[e]? = some o ∧ noSel o = true ∧ wantA ops F o = some true ∧ aop (tabOf P) call { s with wr := [] } F o.op = some (v, s1) ∧ drawRd ops D e s.nx rd s1.wr = some rd' ∧ setO n F o.dst v = some F1 ∧
      next (dropN e R) (e :: D) F1 rd' { s1 with wr := s1.wr ++ s.wr } ((e, s.nx, s1.nx) :: lg) = some x := by
  simp only [drawE, Option.bind_eq_bind] at h
  rw [Option.bind_eq_some_iff] at h
  obtain ⟨o, ho, h⟩ := h
  split at h
  · rename_i hc
    simp only [Bool.and_eq_true, beq_iff_eq] at hc
    rw [Option.bind_eq_some_iff] at h
    obtain ⟨⟨v, s1⟩, hq, h⟩ := h
    rw [Option.bind_eq_some_iff] at h
    obtain ⟨rd', hrd, h⟩ := h
    rw [force_eq, Option.bind_eq_some_iff] at h
    obtain ⟨F1, hF1, h⟩ := h
    exact ⟨o, v, s1, rd', F1, ho, hc.1, hc.2, hq, hrd, hF1, h⟩
  · cases h

theorem drawQ_parts {next : DrawT} {R D : List Nat} {F : Fm} {rd : List Nat} {s : St} {lg : Log} {i : Nat} {x : Fm × St × Log} (h : drawQ (tabOf P) n ops next R D F rd s lg i = some x) :
    ∃ o, ops[i]? = some o ∧ ((∃ v F1, wantA ops F o = some true ∧ aval (tabOf P) (lookAt (opNames F o.op rd) s.h) F o.op = some v ∧ setO n F o.dst v = some F1 ∧ next (dropN i R) (i :: D) F1 (opNames F o.op rd) s lg = some x) ∨
      (∃ F1, wantA ops F o = some false ∧ setO n F o.dst .und = some F1 ∧ next (dropN i R) (i :: D) F1 rd s lg = some x)) := by
  simp only [drawQ, Option.bind_eq_bind] at h
  rw [Option.bind_eq_some_iff] at h
  obtain ⟨o, ho, h⟩ := h
  refine ⟨o, ho, ?_⟩
  rw [Option.bind_eq_some_iff] at h
  obtain ⟨b, hb, h⟩ := h
  cases b with
  | true =>
    simp only [if_true] at h
    rw [Option.bind_eq_some_iff] at h
    obtain ⟨v, hv, h⟩ := h
    rw [force_eq, Option.bind_eq_some_iff] at h
    obtain ⟨F1, hF1, h⟩ := h
    exact .inl ⟨v, F1, hb, hv, hF1, h⟩
  | false =>
    simp only [Bool.false_eq_true, if_false] at h
    rw [Option.bind_eq_some_iff] at h
    obtain ⟨F1, hF1, h⟩ := h
    exact .inr ⟨F1, hb, hF1, h⟩

theorem Step.app {s s1 : St} (h : Step { s with wr := [] } s1) : Step s { s1 with wr := s1.wr ++ s.wr } :=
  ⟨h.nx, fun m _ hm => List.mem_append.2 (.inr hm), fun m hm hn => h.unch m hm fun x => hn (List.mem_append.2 (.inl x))⟩

/-- There is such an end. -/
def Ends (I : Ip) (env : Env) (w0 : World) (n : Nat) (dd : List Deferred) (s : St) (F' : Fm) (s' : St) : Prop :=
  ∃ I' a' w', Agree s.nx I I' ∧ SR I' env w0 s' w' ∧ FR I' s'.nx n F' a' dd ∧ Step s s' ∧ s'.marks = s.marks

theorem drawE_ex (hC : CallOK P w0 env call) {next : DrawT} (ih : ∀ R D F rd s lg x, next R D F rd s lg = some x → ∀ I a w, SR I env w0 s w → FR I s.nx n F a dd → Ends I env w0 n dd s x.1 x.2.1)
    {R D : List Nat} {F : Fm} {rd : List Nat} {s : St} {lg : Log} {e : Nat} {x : Fm × St × Log} (hh : drawE (tabOf P) call n ops next R D F rd s lg e = some x)
    {I : Ip} {a : Act} {w : World} (h : SR I env w0 s w) (hF : FR I s.nx n F a dd) : Ends I env w0 n dd s x.1 x.2.1 := by
  obtain ⟨o, v, s1, rd', F1, ho, _, _, hq, _, hF1, hn⟩ := drawE_parts hh
  obtain ⟨u, w', I', hA⟩ := Yd.ex (aop_ok (h.wr []) hF hC hq)
  obtain ⟨I2, a2, w2, q1, q2, q3, q4, q5⟩ := ih _ _ _ _ _ _ _ hn I' (a.put o.dst (I'.g v)) w' (hA.sr.wr _) ((hF.agree hA.ag hA.step.nx).setO hF1 hA.okv)
  exact ⟨I2, a2, w2, hA.ag.trans q1 hA.step.nx, q2, q3, hA.step.app.trans q4, q5.trans hA.marks⟩

theorem adraw_ex (hC : CallOK P w0 env call) : ∀ (k : Nat) (R D : List Nat) (F : Fm) (rd : List Nat) (s : St) (lg : Log) (x : Fm × St × Log), adraw (tabOf P) call n ops k R D F rd s lg = some x →
    ∀ I a w, SR I env w0 s w → FR I s.nx n F a dd → Ends I env w0 n dd s x.1 x.2.1 := by
  intro k
  induction k with
  | zero => intro R D F rd s lg x hh; simp [adraw] at hh
  | succ k ih =>
    intro R D F rd s lg x hh I a w h hF
    cases R with
    | nil =>
      simp only [adraw] at hh
      split at hh
      · simp only [Option.some.injEq] at hh; subst hh
        exact ⟨I, a, w, Agree.refl _ _, h, hF, Step.refl _, rfl⟩
      · cases hh
    | cons r0 R0 =>
      simp only [adraw] at hh
      split at hh
      · rename_i i hi
        obtain ⟨o, ho, hx⟩ := drawQ_parts hh
        rcases hx with ⟨v, F1, hw, hv, hF1, hn⟩ | ⟨F1, hw, hF1, hn⟩
        · have hlk : Lk I env w0 (opNames F o.op rd) s w := fun m _ o e => h.holds m o e
          obtain ⟨g1, g2⟩ := aval_ok (hlk.gk h) hF hv
          exact ih _ _ _ _ _ _ _ hn I (a.put o.dst (I.g v)) w h (hF.setO hF1 g2)
        · exact ih _ _ _ _ _ _ _ hn I (a.put o.dst undef) w h (by have := hF.setO hF1 (v := .und) trivial; simpa only [Ip.g, gam] using this)
      · split at hh
        · cases hh
        · rename_i e es he
          rw [Option.bind_eq_bind, Option.bind_eq_some_iff] at hh
          obtain ⟨x', hx, hh⟩ := hh
          split at hh
          · simp only [Option.some.injEq] at hh; subst hh
            exact drawE_ex hC ih hx h hF
          · cases hh

theorem drawE_ok (hC : CallOK P w0 env call) {next : DrawT}
    (ih : ∀ R D F rd s lg x, next R D F rd s lg = some x → ∀ I a, (∃ w, SR I env w0 s w) → FR I s.nx n F a dd → Then I env w0 n dd s x.1 x.2.1 (Q .normal) → DW r P ops Q D (Lk I env w0 rd s) (SR I env w0 s) a)
    {R D : List Nat} {F : Fm} {rd : List Nat} {s : St} {lg : Log} {e : Nat} {x : Fm × St × Log} (hh : drawE (tabOf P) call n ops next R D F rd s lg e = some x)
    {I : Ip} {a : Act} (hF : FR I s.nx n F a dd) (hQ : Then I env w0 n dd s x.1 x.2.1 (Q .normal)) : Ex r P ops Q D (Lk I env w0 rd s) (SR I env w0 s) a e := by
  obtain ⟨o, v, s1, rd', F1, ho, hns, hwt, hq, hrd, hF1, hn⟩ := drawE_parts hh
  refine ⟨o, ho, hF.want hwt, hns, fun w hCs hSR => ?_⟩
  refine (aop_ok (hSR.wr []) hF hC hq).mono fun u w' hA => ?_
  obtain ⟨I', hA⟩ := hA
  have hs1 : SR I' env w0 { s1 with wr := s1.wr ++ s.wr } w' := hA.sr.wr _
  refine ⟨Lk I' env w0 rd' { s1 with wr := s1.wr ++ s.wr }, SR I' env w0 { s1 with wr := s1.wr ++ s.wr }, fun m _ o e => hs1.holds m o e, hs1, ?_, ?_⟩
  · unfold drawRd at hrd
    split at hrd
    · rename_i hsy
      exact .inr (syncM_P hsy)
    · split at hrd
      · rename_i hall
        simp only [Option.some.injEq] at hrd
        subst hrd
        refine .inl fun y hy m hm ob hob => ?_
        obtain ⟨hlt, hok⟩ := hSR.ok m ob hob
        have hnw : m ∉ s1.wr := by
          intro hx
          have := List.all_eq_true.1 hall m hx
          simp only [Bool.or_eq_true, Bool.not_eq_true'] at this
          rcases this with h1 | h1
          · have := Nat.le_of_ble_eq_true h1; omega
          · rw [memN_iff.2 hm] at h1; cases h1
        have e1 : find s1.h m = some ob := by rw [hA.step.unch m hlt hnw]; exact hob
        have := hy m hm ob e1
        rwa [res_agree hA.ag (fun L hL => (hSR.env.name m L hL).2) rfl hok hlt] at this
      · cases hrd
  · rw [hA.val]
    refine ih _ _ _ _ _ _ _ hn I' (a.put o.dst (I'.g v)) ⟨w', hs1⟩ ((hF.agree hA.ag hA.step.nx).setO hF1 hA.okv) ?_
    intro I2 a2 w2 q1 q2 q3 q4 q5
    exact hQ I2 a2 w2 (hA.ag.trans q1 hA.step.nx) q2 q3 (hA.step.app.trans q4) (q5.trans hA.marks)

theorem adraw_ok (hC : CallOK P w0 env call) (hchk : chk ops = true) : ∀ (k : Nat) (R D : List Nat) (F : Fm) (rd : List Nat) (s : St) (lg : Log) (x : Fm × St × Log), adraw (tabOf P) call n ops k R D F rd s lg = some x →
    ∀ I a, (∃ w, SR I env w0 s w) → FR I s.nx n F a dd → Then I env w0 n dd s x.1 x.2.1 (Q .normal) → DW r P ops Q D (Lk I env w0 rd s) (SR I env w0 s) a := by
  intro k
  induction k with
  | zero => intro R D F rd s lg x hh; simp [adraw] at hh
  | succ k ih =>
    intro R D F rd s lg x hh I a hw hF hQ
    cases R with
    | nil =>
      simp only [adraw] at hh
      split at hh
      · rename_i hall
        simp only [Option.some.injEq] at hh; subst hh
        exact dw_end hchk hall fun w h => hQ I a w (Agree.refl _ _) h hF (Step.refl _) rfl
      · cases hh
    | cons r0 R0 =>
      simp only [adraw] at hh
      split at hh
      · rename_i i hi
        have hp := pickQ_ok hi
        simp only [Bool.and_eq_true] at hp
        obtain ⟨o, ho, hx⟩ := drawQ_parts hh
        obtain ⟨wa, ha⟩ := hw
        rcases hx with ⟨v, F1, hwt, hv, hF1, hn⟩ | ⟨F1, hwt, hF1, hn⟩
        · refine dw_more (Cs2 := Lk I env w0 (opNames F o.op rd) s) (fun w _ h m _ o e => h.holds m o e) (fun w h m hm => h m (mem_opNames hm)) ?_
          have hla : Lk I env w0 (opNames F o.op rd) s wa := fun m _ o e => ha.holds m o e
          have g2 := (aval_ok (P := P) (a := a) (o := o) (hla.gk ha) hF hv).2
          refine dw_q hchk ho hp.2 (v := I.g v) (fun w hlk => .inl ⟨hF.want hwt, (aval_ok (hlk.gk ha) hF hv).1⟩) ?_
          exact ih _ _ _ _ _ _ _ hn I _ ⟨wa, ha⟩ (hF.setO hF1 g2) hQ
        · refine dw_q hchk ho hp.2 (v := undef) (fun w hlk => .inr ⟨hF.want hwt, rfl⟩) ?_
          exact ih _ _ _ _ _ _ _ hn I _ ⟨wa, ha⟩ (by have := hF.setO hF1 (v := .und) trivial; simpa only [Ip.g, gam] using this) hQ
      · split at hh
        · cases hh
        · rename_i e es he
          rw [Option.bind_eq_bind, Option.bind_eq_some_iff] at hh
          obtain ⟨x', hx, hh⟩ := hh
          split at hh
          · rename_i hall
            simp only [Option.some.injEq] at hh; subst hh
            simp only [Bool.and_eq_true, List.all_eq_true] at hall
            obtain ⟨hb, hall⟩ := hall
            obtain ⟨wa, ha⟩ := hw
            have ihx := adraw_ex (dd := dd) (n := n) (ops := ops) hC k
            obtain ⟨I1, a1, w1, p1, p2, p3, p4, p5⟩ := drawE_ex hC ihx hx ha hF
            have hexes : ∀ e' ∈ es, Ex r P ops Q D (Lk I env w0 rd s) (SR I env w0 s) a e' := by
              intro e' he'
              have := hall e' he'
              split at this
              · rename_i x2 hx2
                obtain ⟨I2, a2, w2, q1, q2, q3, q4, q5⟩ := drawE_ex hC ihx hx2 ha hF
                refine drawE_ok hC ih hx2 hF ?_
                intro I3 a3 w3 t1 t2 t3 t4 t5
                obtain ⟨u1, u2, u3, u4⟩ := same_way ha (fun m hm => piName_id hm) this p4 q4 p2 p3 t1 t2 t3
                exact hQ _ a3 w3 u1 u2 u3 p4 p5
              · cases this
            have hall' : ∀ (A : List Nat), (∀ e' ∈ A, Ex r P ops Q D (Lk I env w0 rd s) (SR I env w0 s) a e') → exAll r P ops Q D (Lk I env w0 rd s) (SR I env w0 s) a A := by
              intro A
              induction A with
              | nil => intro _; trivial
              | cons y A ihA => intro hA; exact ⟨hA y List.mem_cons_self, ihA fun z hz => hA z (List.mem_cons_of_mem _ hz)⟩
            obtain ⟨o, v, s1, rd', F1, ho, _⟩ := drawE_parts hx
            have hmem : e ∈ (r0 :: R0).filter (isReady ops D) := by rw [he]; exact List.mem_cons_self
            have hrd := (List.mem_filter.1 hmem).2
            simp only [isReady, Bool.and_eq_true, Bool.not_eq_true'] at hrd
            refine dw_e hchk (e :: es) hb ⟨e, List.mem_cons_self, (Array.getElem?_eq_some_iff.1 ho).1, hrd.1⟩ (hall' _ ?_)
            intro y hy
            rcases List.mem_cons.1 hy with rfl | hy
            · exact drawE_ok hC ih hx hF hQ
            · exact hexes y hy
          · cases hh

theorem adrawn_ok (hm : P.follows .mixedOrders = true) (hC : CallOK P w0 env call) {F F' : Fm} {s s' : St} {id : Nat} {I : Ip} {a : Act} {w : World} (hh : adrawn (tabOf P) call n ops F s = some (F', s')) (h : SR I env w0 s w) (hF : FR I s.nx n F a dd)
    (hQ : Then I env w0 n dd s F' s' (Q .normal)) : Wp r P (.region id ops true) Q a w := by
  unfold adrawn at hh
  split at hh
  · rename_i hchk
    rw [Option.bind_eq_bind, Option.bind_eq_some_iff] at hh
    obtain ⟨x, hx, hh⟩ := hh
    simp only [Option.some.injEq, Prod.mk.injEq] at hh
    obtain ⟨rfl, rfl⟩ := hh
    have h' := h.keep Keeps.drew
    have hd := adraw_ok (r := r) hC hchk _ _ _ _ _ _ _ _ hx I a ⟨w, h⟩ hF hQ
    have e : ops = ops.toList.toArray := by simp
    rw [e] at hd ⊢
    exact c_draw hm (fun m hm => by cases hm) h' hd
  · cases hh
end
end Go.Ev
