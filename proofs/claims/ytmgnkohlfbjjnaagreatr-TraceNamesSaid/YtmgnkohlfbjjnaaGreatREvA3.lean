/- A run of closed code, reckoned over plain data: appends, calls, and all actions. No statement of the seat is proved here. -/
import Derived.Test.YtmgnkohlfbjjnaaGreatREvA2
namespace Go.Ev
open Go.Fw
set_option linter.unusedSimpArgs false
set_option linter.unusedVariables false

/-- What is asked of a call. -/
def CallOK (P : Program) (w0 : World) (env : Env) (call : CallT) : Prop :=
  ∀ (I : Ip) (s s' : St) (w : World) (g : AV) (vs : List AV) (v : AV), call g vs s = some (v, s') → SR I env w0 s w → okV s.nx g → (∀ u ∈ vs, okV s.nx u) →
    match g with
    | .f f fs cs => (∀ args w, (callFunc f args).run P w = .ok (.enter f args) w) ∧ Calls P f ((fs ++ vs ++ cs).map I.g).toArray w (Ret (Left I env w0 s s' v))
    | .y l => ∃ f tmps as bd, (Instr.yield (I.sv l).blk (vs.map I.g).toArray).run P w = .ok (.round (I.sv l).blk f tmps as bd) w ∧ RoundIn (Wd none) 0 P (I.sv l).blk f tmps as bd w (Ret (Left I env w0 s s' v))
    | _ => False

section
variable {I : Ip} {env : Env} {n : Nat} {w0 w : World} {s s' : St} {F : Fm} {a : Act} {dd : List Deferred} {P : Program}

theorem small_ok {e z : Nat} (h : (tabOf P).small e = true) (hz : (tabOf P).sz e = some z) : ∃ i zv, P.info? e = some i ∧ i.bytes ≤ 1000000 ∧ i.zero = some zv ∧ zv.cells.size = z ∧ i.size = z := by
  simp only [tabOf] at h hz
  obtain ⟨i, hi, rfl⟩ := Option.map_eq_some_iff.1 hz
  rw [hi] at h
  simp only [smallI, Bool.and_eq_true] at h
  obtain ⟨h1, h2⟩ := h
  cases hzv : i.zero with
  | none => simp [hzv] at h2
  | some zv =>
    simp only [hzv] at h2
    exact ⟨i, zv, hi, Nat.le_of_ble_eq_true h1, hzv, Nat.eq_of_beq_eq_true h2, rfl⟩

theorem SR.newRow (h : SR I env w0 s w) {m e z k : Nat} {l : List AV} {sv : SV} {w' : World} (hf : fresh s (.row e z k l) = some (m, s')) (hr : Row s.nx (k * z) l) (hz : 0 < z) (hA : Added (.row w0.heap.size sv.v e z k (l.map I.g)) w w') :
    Left I env w0 s s' (.row m []) sv.v w' := by
  have hst := Step.fresh hf
  obtain ⟨e1, e2⟩ := fresh_eq hf
  refine ⟨I.with s.nx sv #[], Agree.with _ _ _ _, h.add hf sv ⟨hr.n, hz, hr.one, fun v hv => okV_mono (Nat.le_succ _) v (hr.ok v hv)⟩ ?_, ?_, by rw [e2, e1]; exact Nat.lt_succ_self _, hst, by rw [e2]⟩
  · simp only [res]
    rw [(Agree.with I s.nx _ _).map hr.ok, with_sv]
    exact hA
  · simp only [Ip.g, gam, List.foldl_nil, e1, with_sv]

theorem a_append (h : SR I env w0 s w) (hF : FR I s.nx n F a dd) {call : CallT} {o : Oper} {xs : Array Operand} {ts : Array TypeId} {v : AV} (ho : o.op = .call { callee := .builtin .append, args := xs, argTypes := ts }) (hh : aact (tabOf P) call s F o.op = some (v, s')) : Yd P o a.eval w (Left I env w0 s s' v) := by
  rw [ho] at hh
  simp only [aact, Option.bind_eq_bind] at hh
  rw [Option.bind_eq_some_iff] at hh
  obtain ⟨us, hus, hh⟩ := hh
  obtain ⟨h1, h2⟩ := hF.evals hus
  split at hh
  · rename_i x y t t' hts
    split at hh
    · cases hh
    · rename_i htt
      simp only [ne_eq, Decidable.not_not] at htt
      subst htt
      rw [Option.bind_eq_some_iff] at hh
      obtain ⟨d, (hd : P.underlying t = some d), hh⟩ := hh
      cases d <;> simp only at hh <;> try (cases hh; done)
      rename_i e
      rw [Option.bind_eq_some_iff] at hh
      obtain ⟨z, hz, hh⟩ := hh
      rw [Option.bind_eq_some_iff] at hh
      obtain ⟨q, hq, hh⟩ := hh
      split at hh
      · cases hh
      · rename_i hc
        simp only [not_or, Bool.not_eq_false] at hc
        obtain ⟨hc1, hc2, hc3⟩ := hc
        obtain ⟨i, zv, hi, hby, hzv, hzs, hsize⟩ := small_ok hc3 hz
        obtain ⟨sy, hsy, hy, y1, y2⟩ := sliceOf_ok h.gk hq
        have yones : ∀ u ∈ q.2.map I.g, u.oneCell' = true := by
          intro u hu
          obtain ⟨u', hu', rfl⟩ := List.mem_map.1 hu
          exact oneA_gam (y1 u' hu')
        have hpos : 0 < z := by omega
        have hxs : xs.map a.eval = #[I.g x, sy.v] := by
          rw [← Array.toList_inj, Array.toList_map, h1]; simp [hsy]
        have hts' : ts = #[t, t] := by rw [← Array.toList_inj]; simpa using hts
        have fin : ∀ {u : Value} {w' : World}, (Builtin.append_ #[t, t] o.type #[I.g x, sy.v]).run P w = .ok u w' → (execOp a.eval o).run P w = .ok (.value u) w' := by
          intro u w' e
          simp only [execOp, ho, resolve, invoke, builtin, Sem.run_bind, Sem.run_pure, Result.andThen_ok, hxs, hts', e]
        have hrow : ∀ (m : Nat) (l : List AV), m ≤ 1000000 → Row s.nx (m * z) l → Row s.nx ((m + q.1) * z) (appR l q.2) := by
          intro m l _ hr
          rw [appR_eq]
          refine ⟨by rw [List.length_append, hr.n, Nat.add_mul]; have := hy.n; rw [List.length_map] at this; omega, fun u hu => ?_, fun u hu => ?_⟩
          · exact (List.mem_append.1 hu).elim (hr.one u) (y1 u)
          · exact (List.mem_append.1 hu).elim (hr.ok u) (y2 u)
        have hb1 : ∀ m, m ≤ 1000000 → m + q.1 ≤ maxLen ∧ (m + q.1) * i.bytes ≤ 140737488355328 := by
          intro m hm
          refine ⟨by simp only [maxLen]; omega, ?_⟩
          have : (m + q.1) * i.bytes ≤ 2000000 * 1000000 := Nat.mul_le_mul (by omega) hby
          omega
        split at hh
        · -- onto nothing
          split at hh
          · rename_i hq0
            simp only [Option.some.injEq, Prod.mk.injEq] at hh
            obtain ⟨rfl, rfl⟩ := hh
            refine Yd.ok' (v := I.g .nsl) (w' := w) (fin ?_) ⟨I, Agree.refl _ _, h, rfl, trivial, Step.refl _, rfl⟩
            have hl := hy.len
            rw [hq0] at hl
            obtain ⟨sa, sl, sc⟩ := sy
            simp only at hl; subst hl
            cases sa <;> simp [gam, Builtin.append_, run_underlying hd, sizeOf, typeInfo, hi, Builtin.lenOf, Builtin.firstCells, loadCells, loadCellsFrom]
          · rename_i hq0
            rw [Option.bind_eq_some_iff] at hh
            obtain ⟨⟨m, s1⟩, hf, hh⟩ := hh
            simp only [Option.some.injEq, Prod.mk.injEq] at hh
            obtain ⟨rfl, rfl⟩ := hh
            obtain ⟨hb2, hb3⟩ := hb1 0 (by omega)
            obtain ⟨sv', w', hr, hU⟩ := app_own (P := P) (ty := o.type) (sv := SV.nil) (xs := []) (m := 0) hd hi hzv hsize hzs hpos (World.ownsRow_nil w w0.heap.size e z) hy yones hb2 hb3 h.size
            refine Yd.ok' (fin hr) (h.newRow hf ⟨?_, y1, y2⟩ hpos ⟨⟨hU.io, hU.size, fun k hk _ => hU.block k hk (by simp [Res.fp, Value.ownBlock])⟩, ?_, fun k hk => ?_⟩)
            · have := hy.n; rwa [List.length_map] at this
            · have := hU.holds; simpa using this
            · rcases hU.fp k (by simpa [Res.fp] using hk) with h9 | h9
              · simp [Res.fp, Value.ownBlock] at h9
              · exact h9
        · -- onto a slice without room
          rename_i m off len cap
          split at hh
          · cases hh
          · rename_i hlc
            simp only [not_or, Nat.not_le, Nat.not_lt] at hlc
            obtain ⟨hl1, hl2⟩ := hlc
            rw [Option.bind_eq_some_iff] at hh
            obtain ⟨p, hp, hh⟩ := hh
            rw [Option.bind_eq_some_iff] at hh
            obtain ⟨⟨m', s1⟩, hf, hh⟩ := hh
            simp only [Option.some.injEq, Prod.mk.injEq] at hh
            obtain ⟨rfl, rfl⟩ := hh
            obtain ⟨sx, hsx, hx, x1, x2⟩ := sliceOf_ok h.gk hp
            have hsx' : sx = ⟨some ⟨(I.sv m).blk, off, none⟩, len, cap⟩ := by
              have e9 : (Value.slice (some ⟨(I.sv m).blk, off, none⟩) len cap) = sx.v := by rw [← hsx]; simp [gam]
              obtain ⟨a1, a2, a3⟩ := sx
              simp only [SV.v, Value.slice.injEq] at e9
              obtain ⟨r1, r2, r3⟩ := e9
              rw [r1, r2, r3]
            have hp1 : p.1 = len := by have := hx.len; rw [hsx'] at this; exact this.symm
            rw [hp1] at hx
            rw [hsx'] at hx
            obtain ⟨hb2, hb3⟩ := hb1 len hl2
            obtain ⟨sv', w', hr, hA⟩ := app_grow (P := P) (ty := o.type) (lo := w0.heap.size) hd hi hzv hsize hzs hx hy hl1 hb2 hb3 h.size
            have hxr : Row s.nx (len * z) p.2 := ⟨by have := hx.n; rwa [List.length_map] at this, x1, x2⟩
            refine Yd.ok' (v := sv'.v) (w' := w') (fin ?_) (h.newRow hf (hrow len p.2 hl2 hxr) hpos ?_)
            · rw [show I.g (.sl m off len cap) = .slice (some ⟨(I.sv m).blk, off, none⟩) len cap by simp [gam]]; exact hr
            · rw [appR_eq, List.map_append]; exact hA
        · -- onto a row
          rename_i m
          split at hh
          · rename_i e' z' c l hm
            split at hh
            · rename_i hcc
              obtain ⟨rfl, rfl, hcm⟩ := hcc
              rw [Option.bind_eq_some_iff] at hh
              obtain ⟨⟨m', s1⟩, hf, hh⟩ := hh
              simp only [Option.some.injEq, Prod.mk.injEq] at hh
              obtain ⟨rfl, rfl⟩ := hh
              obtain ⟨hk, hok⟩ := h.ok m _ hm
              have hown : w.ownsRow w0.heap.size e' z' (I.sv m).v c (l.map I.g) := h.holds m _ hm
              obtain ⟨hb2, hb3⟩ := hb1 c hcm
              obtain ⟨sv', w', hr, hU⟩ := app_own (P := P) (ty := o.type) hd hi hzv hsize hzs hpos hown hy yones hb2 hb3 h.size
              have hxr := hrow c l hcm ⟨hok.1, hok.2.2.1, hok.2.2.2⟩
              have hst : Step s s1 := (Step.wrote s m .dead).trans (Step.fresh hf)
              obtain ⟨e1, e2⟩ := fresh_eq hf
              have e1' : m' = s.nx := e1
              refine Yd.ok' (v := sv'.v) (w' := w') (fin ?_) ⟨I.with s.nx sv' #[], Agree.with _ _ _ _, h.move hm hf sv' ⟨hxr.n, hpos, hxr.one, fun v hv => okV_mono (Nat.le_succ _) v (hxr.ok v hv)⟩ ?_, ?_, by rw [e2, e1']; exact Nat.lt_succ_self _, hst, by rw [e2]; rfl⟩
              · rw [show I.g (.row m []) = (I.sv m).v by simp [gam]]; exact hr
              · simp only [res]
                rw [(Agree.with I s.nx _ _).map hxr.ok, with_sv, appR_eq, List.map_append]
                exact hU
              · simp only [Ip.g, gam, List.foldl_nil, e1', with_sv]
            · cases hh
          · cases hh
        · cases hh
  · cases hh

theorem a_call (h : SR I env w0 s w) (hF : FR I s.nx n F a dd) {call : CallT} (hC : CallOK P w0 env call) {o : Oper} {x : Operand} {xs : Array Operand} {ts : Array TypeId} {v : AV} (ho : o.op = .call { callee := .value x, args := xs, argTypes := ts }) (hh : aact (tabOf P) call s F o.op = some (v, s')) : Yd P o a.eval w (Left I env w0 s s' v) := by
  rw [ho] at hh
  simp only [aact, Option.bind_eq_bind] at hh
  rw [Option.bind_eq_some_iff] at hh
  obtain ⟨g, hg, hh⟩ := hh
  rw [Option.bind_eq_some_iff] at hh
  obtain ⟨us, hus, hh⟩ := hh
  obtain ⟨h1, h2⟩ := hF.evals hus
  obtain ⟨h3, h4⟩ := hF.eval hg
  have hxs : xs.map a.eval = (us.map I.g).toArray := by
    rw [← Array.toList_inj, Array.toList_map, h1]
  have hc := hC I s s' w g us v hh h h4 h2
  cases g <;> try (exact hc.elim)
  case f q fs cs =>
    obtain ⟨c1, c2⟩ := hc
    unfold Yd
    simp only [execOp, ho, resolve, h3, gam, gams_eq, Deferred.ofValue, invoke, Sem.run_bind, Sem.run_pure, Result.andThen_ok, hxs, List.append_toArray, c1]
    simp only [List.map_append] at c2
    exact c2
  case y l =>
    obtain ⟨f, tmps, as, bd, c1, c2⟩ := hc
    unfold Yd
    simp only [execOp, ho, resolve, h3, gam, Deferred.ofValue, invoke, Sem.run_bind, Sem.run_pure, Result.andThen_ok, hxs, Array.empty_append, c1]
    exact c2

theorem aact_ok (h : SR I env w0 s w) (hF : FR I s.nx n F a dd) {call : CallT} (hC : CallOK P w0 env call) {o : Oper} {v : AV} (hh : aact (tabOf P) call s F o.op = some (v, s')) : Yd P o a.eval w (Left I env w0 s s' v) := by
  have h0 := hh
  cases ho : o.op with
  | alloc e => exact a_alloc h hF ho hh
  | box e x => exact a_box h hF ho hh
  | store t x y => exact a_store h hF ho hh
  | buildSlice t len ps => exact a_buildSlice h hF ho hh
  | convert t t' x => exact a_convert h hF ho hh
  | makeMap t r =>
    cases r with
    | none => exact a_makeMap h ho hh
    | some r => rw [ho] at hh; simp [aact] at hh
  | mapUpdate t m k x => exact a_mapUpdate h hF ho hh
  | call c =>
    obtain ⟨callee, xs, ts⟩ := c
    cases callee with
    | builtin b =>
      cases b <;> first
        | exact a_append h hF ho hh
        | (rw [ho] at hh; simp [aact] at hh)
    | value x => exact a_call h hF hC ho hh
    | invoke x y => rw [ho] at hh; simp [aact] at hh
  | _ => rw [ho] at hh; simp [aact] at hh

theorem aop_ok (h : SR I env w0 s w) (hF : FR I s.nx n F a dd) {call : CallT} (hC : CallOK P w0 env call) {o : Oper} {v : AV} (hh : aop (tabOf P) call s F o.op = some (v, s')) : Yd P o a.eval w (Left I env w0 s s' v) := by
  unfold aop at hh
  have hact := aact_ok (P := P) h hF hC (o := o) (v := v) (s' := s')
  split at hh
  · split at hh
    · rename_i u hu
      simp only [Option.some.injEq, Prod.mk.injEq] at hh
      obtain ⟨rfl, rfl⟩ := hh
      obtain ⟨h1, h2⟩ := aval_ok h.gk hF hu
      exact Yd.ok' h1 ⟨I, Agree.refl _ _, h, rfl, h2, Step.refl _, rfl⟩
    · exact hact hh
  · exact hact hh
end
end Go.Ev
