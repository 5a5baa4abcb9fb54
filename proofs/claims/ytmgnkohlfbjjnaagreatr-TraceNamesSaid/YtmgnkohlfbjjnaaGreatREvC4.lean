/- A run of closed code, reckoned over plain data: code and calls. No statement of the seat is proved here. -/
import Derived.Test.YtmgnkohlfbjjnaaGreatREvC3
namespace Go.Ev
open Go.Fw
set_option linter.unusedSimpArgs false
set_option linter.unusedVariables false

section
variable {r : Option Nat} {env : Env} {n : Nat} {w0 : World} {P : Program} {call : Env → CallT} {fn : Nat} {ir : Bool} {fuel : Nat}

theorem FR.eqd {I : Ip} {k n : Nat} {F : Fm} {a : Act} {dd dd' : List Deferred} (h : FR I k n F a dd) (e : dd = dd') : FR I k n F a dd' := e ▸ h

theorem then_of {I : Ip} {s s' : St} {F' : Fm} {Q : Exit → Act → World → Prop} {w : World} (h : SR I env w0 s w) (hQ : ThenC I env w0 n s .n F' s' Q) : Then I env w0 n (ddOf I s.marks) s F' s' (Q .normal) := by
  intro I' a' w' ag sr fr st hm
  refine hQ I' a' w' ag sr (fr.eqd ?_) st
  rw [hm]; exact (ddOf_agree ag h.marks).symm

theorem acode_ok (hm : P.follows .mixedOrders = true) (hC : ∀ env, CallOK P w0 env (call env)) (hr : ir = false → r = none) : ∀ (c : Code) {F F' : Fm} {s s' : St} {ax : AX} {I : Ip} {a : Act} {w : World} {Q : Exit → Act → World → Prop},
    acode (tabOf P) call env fn n ir fuel c F s = some (ax, F', s') → SR I env w0 s w → FR I s.nx n F a (ddOf I s.marks) → ThenC I env w0 n s ax F' s' Q → Wp r P c Q a w := by
  intro c
  induction c with
  | skip =>
    intro F F' s s' ax I a w Q hh h hF hQ
    simp only [acode, Option.some.injEq, Prod.mk.injEq] at hh
    obtain ⟨rfl, rfl, rfl⟩ := hh
    exact c_skip (hQ I a w (Agree.refl _ _) h hF (Step.refl _))
  | region id ops draw =>
    intro F F' s s' ax I a w Q hh h hF hQ
    simp only [acode] at hh
    cases draw with
    | true =>
      simp only [if_true, Option.map_eq_some_iff] at hh
      obtain ⟨⟨F1, s1⟩, hq, hh⟩ := hh
      simp only [Prod.mk.injEq] at hh
      obtain ⟨rfl, rfl, rfl⟩ := hh
      exact adrawn_ok hm (hC env) hq h hF (then_of h hQ)
    | false =>
      simp only [Bool.false_eq_true, if_false, Option.map_eq_some_iff] at hh
      obtain ⟨⟨F1, s1⟩, hq, hh⟩ := hh
      simp only [Prod.mk.injEq] at hh
      obtain ⟨rfl, rfl, rfl⟩ := hh
      exact wpIn_region_list (aops_ok (hC env) _ hq h hF (then_of h hQ))
  | seq x y ihx ihy =>
    intro F F' s s' ax I a w Q hh h hF hQ
    simp only [acode, Option.bind_eq_bind] at hh
    rw [Option.bind_eq_some_iff] at hh
    obtain ⟨⟨ax1, F1, s1⟩, hq, hh⟩ := hh
    refine c_seq (ihx hq h hF ?_)
    intro I1 a1 w1 ag sr fr st
    cases ax1 with
    | n =>
      simp only at hh
      exact ihy hh sr fr fun I2 a2 w2 ag2 sr2 fr2 st2 => hQ I2 a2 w2 (ag.trans ag2 st.nx) sr2 fr2 (st.trans st2)
    | x id =>
      simp only [Option.some.injEq, Prod.mk.injEq] at hh
      obtain ⟨rfl, rfl, rfl⟩ := hh
      exact hQ I1 a1 w1 ag sr fr st
    | r =>
      simp only [Option.some.injEq, Prod.mk.injEq] at hh
      obtain ⟨rfl, rfl, rfl⟩ := hh
      exact hQ I1 a1 w1 ag sr fr st
  | cond c x y ihx ihy =>
    intro F F' s s' ax I a w Q hh h hF hQ
    simp only [acode, Option.bind_eq_bind] at hh
    rw [Option.bind_eq_some_iff] at hh
    obtain ⟨v, hv, hh⟩ := hh
    obtain ⟨h1, h2⟩ := hF.eval hv
    split at hh
    · exact wpIn_cond_true (by rw [h1]; simp [gam]) (ihx hh h hF hQ)
    · exact wpIn_cond_false (by rw [h1]; simp [gam]) (ihy hh h hF hQ)
    · cases hh
  | block id c ih =>
    intro F F' s s' ax I a w Q hh h hF hQ
    simp only [acode, Option.bind_eq_bind] at hh
    rw [Option.bind_eq_some_iff] at hh
    obtain ⟨⟨ax1, F1, s1⟩, hq, hh⟩ := hh
    simp only [Option.some.injEq, Prod.mk.injEq] at hh
    obtain ⟨rfl, rfl, rfl⟩ := hh
    refine c_block (ih hq h hF ?_)
    intro I1 a1 w1 ag sr fr st
    have := hQ I1 a1 w1 ag sr fr st
    cases ax1 with
    | n => exact n_block (by simpa [exitOf] using this)
    | r => exact r_block (by simpa [exitOf] using this)
    | x j =>
      by_cases hj : j = id
      · subst hj; exact x_hit (by simpa [exitOf] using this)
      · refine x_miss (i := id) (j := j) ?_ (by simpa [exitOf, hj] using this)
        cases hb : Nat.beq j id with
        | false => rfl
        | true => exact absurd (Nat.eq_of_beq_eq_true hb) hj
  | loop c ih =>
    intro F F' s s' ax I a w Q hh h hF hQ
    simp only [acode] at hh
    refine c_loop (X := Nat) (fun k a w => ∃ F s I, aloop (acode (tabOf P) call env fn n ir fuel c) k F s = some (ax, F', s') ∧ SR I env w0 s w ∧ FR I s.nx n F a (ddOf I s.marks) ∧ ThenC I env w0 n s ax F' s' Q) id fuel ⟨F, s, I, hh, h, hF, hQ⟩ ?_
    rintro k a w ⟨F, s, I, hh, h, hF, hQ⟩
    cases k with
    | zero => simp [aloop] at hh
    | succ k =>
      simp only [aloop, Option.bind_eq_bind] at hh
      rw [Option.bind_eq_some_iff] at hh
      obtain ⟨⟨ax1, F1, s1⟩, hq, hh⟩ := hh
      refine ih hq h hF ?_
      intro I1 a1 w1 ag sr fr st
      cases ax1 with
      | n =>
        simp only at hh
        exact ⟨k, ⟨F1, s1, I1, hh, sr, fr, fun I2 a2 w2 ag2 sr2 fr2 st2 => hQ I2 a2 w2 (ag.trans ag2 st.nx) sr2 fr2 (st.trans st2)⟩, Nat.lt_succ_self k⟩
      | x id =>
        simp only [Option.some.injEq, Prod.mk.injEq] at hh
        obtain ⟨rfl, rfl, rfl⟩ := hh
        exact hQ I1 a1 w1 ag sr fr st
      | r =>
        simp only [Option.some.injEq, Prod.mk.injEq] at hh
        obtain ⟨rfl, rfl, rfl⟩ := hh
        exact hQ I1 a1 w1 ag sr fr st
  | exit id =>
    intro F F' s s' ax I a w Q hh h hF hQ
    simp only [acode, Option.some.injEq, Prod.mk.injEq] at hh
    obtain ⟨rfl, rfl, rfl⟩ := hh
    exact c_exit (hQ I a w (Agree.refl _ _) h hF (Step.refl _))
  | ret =>
    intro F F' s s' ax I a w Q hh h hF hQ
    simp only [acode, Option.some.injEq, Prod.mk.injEq] at hh
    obtain ⟨rfl, rfl, rfl⟩ := hh
    exact c_ret (hQ I a w (Agree.refl _ _) h hF (Step.refl _))
  | rangeFunc g ps as bd iha ihb =>
    intro F F' s s' ax I a w Q hh h hF hQ
    simp only [acode, Option.bind_eq_bind] at hh
    split at hh
    · cases hh
    · rename_i hir
      have hir' : ir = false := by simpa using hir
      have := hr hir'
      subst this
      rw [Option.bind_eq_some_iff] at hh
      obtain ⟨gv, hg, hh⟩ := hh
      split at hh
      · cases hh
      · rename_i hisf
        rw [Option.bind_eq_some_iff] at hh
        obtain ⟨⟨d, s1⟩, hd, hh⟩ := hh
        rw [Option.bind_eq_some_iff] at hh
        obtain ⟨⟨l, s2⟩, hl, hh⟩ := hh
        rw [Option.bind_eq_some_iff] at hh
        obtain ⟨⟨v, sq⟩, hq, hh⟩ := hh
        rw [Option.bind_eq_some_iff] at hh
        obtain ⟨⟨e, s3⟩, he, hh⟩ := hh
        simp only [Option.some.injEq, Prod.mk.injEq] at hh
        obtain ⟨rfl, rfl, rfl⟩ := hh
        exact range_ok hC hg (by simpa using hisf) hd hl hq he h hF hQ
  | _ => intro F F' s s' ax I a w Q hh; simp [acode] at hh

/-! ### Calls -/
theorem enterF_get {vs : List AV} : ∀ (n i t : Nat) (v : AV), (enterF n i vs).get t = some v → i ≤ t ∧ t < i + n ∧ v = (vs[t - i]?).getD .und := by
  intro n
  induction n generalizing vs with
  | zero => intro i t v h; simp [enterF, Tr.get_e] at h
  | succ n ih =>
    intro i t v h
    cases vs with
    | nil =>
      simp only [enterF] at h
      rcases Tr.set_some h with ⟨rfl, rfl⟩ | ⟨hne, h⟩
      · exact ⟨Nat.le_refl _, by omega, by simp⟩
      · obtain ⟨h1, h2, h3⟩ := ih (i + 1) t v h
        exact ⟨by omega, by omega, by simpa using h3⟩
    | cons u vs =>
      simp only [enterF] at h
      rcases Tr.set_some h with ⟨rfl, rfl⟩ | ⟨hne, h⟩
      · exact ⟨Nat.le_refl _, by omega, by simp⟩
      · obtain ⟨h1, h2, h3⟩ := ih (i + 1) t v h
        refine ⟨by omega, by omega, ?_⟩
        rw [h3, show t - i = (t - (i + 1)) + 1 by omega]
        simp

theorem enter_FR {I : Ip} {k : Nat} {vs : List AV} (hv : ∀ v ∈ vs, okV k v) (hn : vs.length ≤ n) : FR I k n (enterF n 0 vs) { tmps := (vs.map I.g).toArray ++ Array.replicate (n - (vs.map I.g).toArray.size) undef, defers := [] } [] := by
  refine ⟨rfl, by simp; omega, fun t v h => ?_⟩
  obtain ⟨_, h2, h3⟩ := enterF_get _ _ _ _ h
  simp only [Nat.sub_zero, Nat.zero_add] at h2 h3
  refine ⟨h2, ?_, ?_⟩
  · subst h3
    cases hx : vs[t]? with
    | none => trivial
    | some u => exact hv u (List.mem_of_getElem? hx)
  · subst h3
    by_cases ht : t < vs.length
    · have : vs[t]? = some vs[t] := List.getElem?_eq_getElem ht
      rw [this]
      simp [Array.getElem?_append, ht]
    · rw [List.getElem?_eq_none (by omega)]
      simp only [Option.getD_none, Ip.g, gam]
      have h4 : t - vs.length < n - vs.length := by omega
      simp [Array.getElem?_append, ht, h4]

theorem setPs_ok {I : Ip} {k : Nat} : ∀ (ps : List Nat) (vs : List AV) {F F' : Fm} {tm : Array Value}, setPs n ps vs F = some F' → FR I k n F { tmps := tm, defers := [] } [] → (∀ v ∈ vs, okV k v) →
    ps.length = vs.length ∧ FR I k n F' { tmps := (ps.zip (vs.map I.g)).foldl (fun tmps p => tmps.setIfInBounds p.1 p.2) tm, defers := [] } [] := by
  intro ps
  induction ps with
  | nil =>
    intro vs F F' tm h hF hv
    cases vs with
    | nil => simp only [setPs, Option.some.injEq] at h; subst h; exact ⟨rfl, hF⟩
    | cons v vs => simp [setPs] at h
  | cons p ps ih =>
    intro vs F F' tm h hF hv
    cases vs with
    | nil => simp [setPs] at h
    | cons v vs =>
      simp only [setPs] at h
      split at h
      · rename_i hp
        have hp' : p < n := by rw [Nat.blt_eq] at hp; exact hp
        have hF1 := hF.set hp' (hv v List.mem_cons_self)
        simp only [Act.put] at hF1
        obtain ⟨h1, h2⟩ := ih vs h hF1 (fun u hu => hv u (List.mem_cons_of_mem _ hu))
        exact ⟨by simp [h1], h2⟩
      · cases h

theorem ares_ok {I : Ip} {w : World} {s : St} (h : SR I env w0 s w) : ∀ (rs : List ResultVar) {F : Fm} {a : Act} {dd : List Deferred} {vs : List AV}, ares (tabOf P) s F rs = some vs → FR I s.nx n F a dd → resOf P w a.tmps rs (vs.map I.g) ∧ ∀ v ∈ vs, okV s.nx v := by
  intro rs
  induction rs with
  | nil => intro F a dd vs hh hF; simp only [ares, Option.some.injEq] at hh; subst hh; exact ⟨trivial, by simp⟩
  | cons x rs ih =>
    intro F a dd vs hh hF
    cases x with
    | tmp t =>
      simp only [ares, Option.bind_eq_bind] at hh
      rw [Option.bind_eq_some_iff] at hh
      obtain ⟨v, hv, hh⟩ := hh
      rw [Option.bind_eq_some_iff] at hh
      obtain ⟨us, hus, hh⟩ := hh
      simp only [Option.some.injEq] at hh; subst hh
      obtain ⟨h1, h2⟩ := ih hus hF
      obtain ⟨_, q2, q3⟩ := hF.get t v hv
      refine ⟨⟨q3, h1⟩, fun u hu => ?_⟩
      rcases List.mem_cons.1 hu with rfl | hu
      · exact q2
      · exact h2 u hu
    | cell t ty =>
      simp only [ares, Option.bind_eq_bind] at hh
      rw [Option.bind_eq_some_iff] at hh
      obtain ⟨v, hv, hh⟩ := hh
      cases v <;> simp only at hh <;> try (cases hh; done)
      rename_i m off
      split at hh
      · rename_i N l T hm
        rw [Option.bind_eq_some_iff] at hh
        obtain ⟨u, hu, hh⟩ := hh
        rw [Option.bind_eq_some_iff] at hh
        obtain ⟨us, hus, hh⟩ := hh
        simp only [Option.some.injEq] at hh; subst hh
        obtain ⟨h1, h2⟩ := ih hus hF
        obtain ⟨_, q2, q3⟩ := hF.get t _ hv
        obtain ⟨hk, hok⟩ := h.ok m _ hm
        have hl := part_load (P := P) hu hok.1 (h.gk.cellsP hm)
        rw [Nat.zero_add] at hl
        refine ⟨⟨⟨⟨(I.sv m).blk, off, none⟩, by rw [q3]; simp only [Ip.g, gam], hl⟩, h1⟩, fun x hx => ?_⟩
        rcases List.mem_cons.1 hx with rfl | hx
        · exact (part_ok hu hok.1 hok.2.1 hok.2.2).1
        · exact h2 x hx
      · cases hh

def loopRec (I : Ip) (n : Nat) (L : LInfo) (st : LoopState) (pd : Option (Option Nat)) : Loop := { state := st, pending := pdCode pd, fn := I.fn n, tmps := I.arr n, params := L.ps.toArray, assign := L.asg, body := L.body, defers := (I.sv L.d).blk }

theorem leaves_ok {fnc : Func} {tmps : Array Value} {R : Value → World → Prop} {I : Ip} : ∀ (ms : List Nat) {s s' : St} {w : World}, takeMarks ms s = some s' → SR I env w0 s w →
    (∀ w', SR I env w0 s' w' → Step s s' → s'.nx = s.nx → s'.marks = s.marks → ∃ v, (results fnc tmps).run P w' = .ok v w' ∧ R v w') → LeavesInM (Wd none) 0 P fnc tmps (Ret R) (ddOf I ms) .returning w := by
  intro ms
  induction ms with
  | nil =>
    intro s s' w hh h hR
    simp only [takeMarks, Option.some.injEq] at hh
    subst hh
    exact hR w h (Step.refl _) rfl rfl
  | cons d ms ih =>
    intro s s' w hh h hR
    simp only [takeMarks] at hh
    split at hh
    · rename_i hd
      have hobj : w.heap[(I.sv d).blk]? = some (.deferred (some [])) := h.holds d _ hd
      refine ⟨by simp, .inl ⟨(I.sv d).blk, _, rfl, run_takeDeferred hobj, ?_⟩⟩
      have hU := Upd.putObj (o' := .deferred none) hobj
      have sr := h.chg hd (o' := .defd true) trivial hU
      refine ih hh sr fun w' sr' st hnx hmk => hR w' sr' ((Step.wrote _ _ _).trans st) hnx hmk
    · cases hh

theorem acall_ok (hm : P.follows .mixedOrders = true) : ∀ (k : Nat) (env : Env), CallOK P w0 env (acall (tabOf P) fuel k env) := by
  intro k
  induction k with
  | zero => intro env I s s' w g vs v hh; simp [acall] at hh
  | succ k ih =>
    intro env I s s' w g vs v hh h hg hvs
    cases g <;> try (simp [acall] at hh; done)
    case f f fs cs =>
      simp only [acall, Option.bind_eq_bind] at hh
      rw [Option.bind_eq_some_iff] at hh
      obtain ⟨⟨n, rs, body⟩, hfn, hh⟩ := hh
      simp only at hh
      split at hh
      · cases hh
      · rename_i hlen
        rw [Option.bind_eq_some_iff] at hh
        obtain ⟨⟨ax, F1, s1⟩, hq, hh⟩ := hh
        simp only [tabOf] at hfn
        rw [Option.bind_eq_some_iff] at hfn
        obtain ⟨fnc, hf, hfn⟩ := hfn
        split at hfn
        · cases hfn
        · rename_i hname
          obtain ⟨b, hb, hfn⟩ := Option.map_eq_some_iff.1 hfn
          simp only [Prod.mk.injEq] at hfn
          obtain ⟨rfl, rfl, rfl⟩ := hfn
          have hcall : ∀ args w, (callFunc f args).run P w = .ok (.enter f args) w := by
            intro args w
            have hn' : ¬ fnc.name = "runtime.NumGoroutine" := by simpa using hname
            simp [callFunc, program, Sem.run, hf, hn', hb]
          refine ⟨hcall, ?_⟩
          have hlen' : (fs ++ vs ++ cs).length ≤ fnc.ntmps := by simpa using hlen
          have hokall : ∀ u ∈ fs ++ vs ++ cs, okV s.nx u := by
            intro u hu
            rcases List.mem_append.1 hu with hu | hu
            · rcases List.mem_append.1 hu with hu | hu
              · exact okVs_iff.1 hg.1 u hu
              · exact hvs u hu
            · exact okVs_iff.1 hg.2 u hu
          refine callsIn_wide.1 (callsIn_of_wp_marks (F := Wd none) (n := 0) hf hb trivial ?_ rfl)
          have h' := h.setMarks [] s.wr (by simp)
          refine acode_ok hm ih (fun _ => rfl) b hq h' (enter_FR hokall hlen') ?_
          intro I1 a1 w1 ag sr fr st
          have fin : ax = .n ∨ ax = .r → bodyPostM (Wd none) 0 P fnc (Ret (Left I env w0 s s' v)) .ret a1 w1 := by
            intro hax
            have hh' : (takeMarks s1.marks s1).bind (fun s' => (ares (tabOf P) s' F1 fnc.results.toList).bind fun r => some (resV r, ({ s' with marks := s.marks, wr := s'.wr.filter (Nat.blt · s.nx) } : St))) = some (v, s') := by
              rcases hax with rfl | rfl <;> exact hh
            obtain ⟨s2, ht, hh2⟩ := Option.bind_eq_some_iff.1 hh'
            obtain ⟨rv, hrv, hh3⟩ := Option.bind_eq_some_iff.1 hh2
            simp only [Option.some.injEq, Prod.mk.injEq] at hh3
            obtain ⟨rfl, rfl⟩ := hh3
            show LeavesInM (Wd none) 0 P fnc a1.tmps (Ret _) a1.defers .returning w1
            rw [fr.defers]
            refine leaves_ok s1.marks ht sr fun w2 sr2 st2 hnx hmk => ?_
            have st' : Step s s2 := st.ofMarks.trans st2
            obtain ⟨q1, q2⟩ := ares_ok (P := P) sr2 fnc.results.toList hrv (fr.agree (Agree.refl _ _) (by rw [hnx]; exact Nat.le_refl _))
            refine ⟨_, run_results (by simp) q1, I1, ag, sr2.setMarks _ _ (fun m hm => ?_), ?_, ?_, ⟨st'.nx, fun m hm hx => ?_, fun m hm hx => ?_⟩, rfl⟩
            · have := h.marks m hm; have := st'.nx; omega
            · match rv with
              | [] => simp [resV, gam, gams]
              | [v] => simp [resV]
              | x :: y :: l => simp [resV, gam, gams, gams_eq]
            · match rv, q2 with
              | [], _ => trivial
              | [v], q2 => exact q2 v (by simp)
              | x :: y :: l, q2 => exact okVs_iff.2 q2
            · exact List.mem_filter.2 ⟨st'.mono m hm hx, by rw [Nat.blt_eq]; exact hm⟩
            · exact st'.unch m hm fun hy => hx (List.mem_filter.2 ⟨hy, by rw [Nat.blt_eq]; exact hm⟩)
          cases ax with
          | n => exact fin (.inl rfl)
          | r => exact fin (.inr rfl)
          | x id => simp at hh
    case y l =>
      simp only [acall, Option.bind_eq_bind] at hh
      rw [Option.bind_eq_some_iff] at hh
      obtain ⟨L, hL, hh⟩ := hh
      split at hh
      · rename_i pd0 hfl
        rw [Option.bind_eq_some_iff] at hh
        obtain ⟨F0, hF0, hh⟩ := hh
        rw [Option.bind_eq_some_iff] at hh
        obtain ⟨⟨ax, F1, s1⟩, hq, hh⟩ := hh
        have hresL : ∀ (I : Ip) st pd, res I env w0.heap.size l (.loop st pd) = .obj (I.sv l).blk (loopOf I l L st pd) := fun I st pd => by simp only [res, hL]
        have hobj : w.heap[(I.sv l).blk]? = some (loopOf I l L .ready pd0) := by have := h.holds l _ hfl; rw [hresL] at this; exact this
        obtain ⟨hlk, hdk⟩ := h.env.name l L hL
        obtain ⟨hps, hFR0⟩ := setPs_ok L.ps vs hF0 (h.env.fr l L hL) hvs
        have hy := run_yield (P := P) (args := (vs.map I.g).toArray) hobj (by simp [hps])
        refine ⟨_, _, _, _, hy, ?_⟩
        refine roundIn_of_wpIn (F := Wd none) trivial ?_
        have h' := h.setMarks [] s.wr (by simp)
        refine acode_ok (r := some (I.sv l).blk) hm ih (fun h => by cases h) L.asg hq h' (by have := hFR0; simpa [ddOf] using this) ?_
        intro I1 a1 w1 ag sr fr st
        simp only at hh
        split at hh
        · rename_i pd hfl1
          rw [Option.bind_eq_some_iff] at hh
          obtain ⟨⟨ax2, F2, s2⟩, hq2, hh⟩ := hh
          simp only at hh
          have hblk1 : (I1.sv l).blk = (I.sv l).blk := by rw [ag.sv l hlk]
          have hobj1 : w1.heap[(I.sv l).blk]? = some (loopOf I1 l L .ready pd) := by have := sr.holds l _ hfl1; rw [hresL, hblk1] at this; exact this
          have hU1 : Upd (res I1 env w0.heap.size l (.loop .ready pd)) (res I1 env w0.heap.size l (.loop .busy pd)) w1 (w1.putObj (I.sv l).blk (loopOf I1 l L .busy pd)) := by
            rw [hresL, hresL, hblk1]; exact Upd.putObj hobj1
          have sr1 := sr.chg hfl1 (o' := .loop .busy pd) trivial hU1
          refine ⟨_, run_beginRound hobj1 rfl, ?_⟩
          refine acode_ok (r := some (I.sv l).blk) hm ih (fun h => by cases h) L.body hq2 sr1 fr ?_
          intro I2 a2 w2 ag2 sr2 fr2 st2
          split at hh
          · rename_i st3 pd3 hfl2
            simp only [Option.some.injEq, Prod.mk.injEq] at hh
            obtain ⟨rfl, rfl⟩ := hh
            have hs01 : s.nx ≤ s1.nx := st.nx
            have hlk2 : l < s1.nx := by omega
            have hblk2 : (I2.sv l).blk = (I.sv l).blk := by rw [← ag2.sv l hlk2, hblk1]
            have hobj2 : w2.heap[(I.sv l).blk]? = some (loopOf I2 l L st3 pd3) := by have := sr2.holds l _ hfl2; rw [hresL, hblk2] at this; exact this
            have hiso : ∀ x : Option (Option Nat), (pdCode x).isNone = x.isNone := by
              intro x
              cases x with
              | none => rfl
              | some y => cases y <;> rfl
            have hU2 : ∀ st4, Upd (res I2 env w0.heap.size l (.loop st3 pd3)) (res I2 env w0.heap.size l (.loop st4 (pdOf ax2))) w2 (w2.putObj (I.sv l).blk (loopOf I2 l L st4 (pdOf ax2))) := by
              intro st4
              rw [hresL, hresL, hblk2]; exact Upd.putObj hobj2
            have sr3 := sr2.chg hfl2 (o' := .loop (if (pdOf ax2).isNone then .ready else .done) (pdOf ax2)) trivial (hU2 _)
            have hend := run_endRound (P := P) (pdCode (pdOf ax2)) hobj2
            have hst : Step s (wrote s2 l (.loop (if (pdOf ax2).isNone then .ready else .done) (pdOf ax2))) := ((st.ofMarks.trans (Step.wrote _ _ _)).trans st2).trans (Step.wrote _ _ _)
            have hfin : Left I env w0 s { wrote s2 l (.loop (if (pdOf ax2).isNone then .ready else .done) (pdOf ax2)) with marks := s.marks } (.b (pdOf ax2).isNone) (.bool (pdCode (pdOf ax2)).isNone)
                (w2.putObj (I.sv l).blk (.loop { loopRec I2 l L st3 pd3 with state := if (pdCode (pdOf ax2)).isNone then .ready else .done, pending := pdCode (pdOf ax2) })) := by
              refine ⟨I2, ag.trans ag2 st.nx, ?_, by simp only [Ip.g, gam, hiso], trivial, hst.setMarks _, rfl⟩
              have := sr3.setMarks s.marks (wrote s2 l (.loop (if (pdOf ax2).isNone then .ready else .done) (pdOf ax2))).wr (fun m hm => by have := h.marks m hm; have := hst.nx; omega)
              rw [hiso]
              exact this
            cases ax2 <;> exact ⟨_, _, hend, hfin⟩
          · cases hh
        · cases hh
      · cases hh
end
end Go.Ev
