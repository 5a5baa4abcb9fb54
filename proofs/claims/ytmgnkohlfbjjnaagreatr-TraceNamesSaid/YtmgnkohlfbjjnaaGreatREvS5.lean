/- A run of closed code, reckoned over plain data: built things, cuts, lengths, maps, comparisons. No statement of the seat is proved here. -/
import Derived.Test.YtmgnkohlfbjjnaaGreatREvS4
namespace Go.Ev
open Go.Fw
set_option linter.unusedSimpArgs false
set_option linter.unusedVariables false
section
variable {I : Ip} {env : Env} {lo k n : Nat} {w : World} {g : Look} {F : Fm} {a : Act} {dd : List Deferred} {P : Program}

theorem FR.parts (h : FR I k n F a dd) {xs : List (Nat × Operand)} {vs : List (Nat × AV)} (hx : aparts F xs = some vs) : xs.map (fun p => (p.1, a.eval p.2)) = vs.map (fun p => (p.1, I.g p.2)) ∧ ∀ p ∈ vs, okV k p.2 := by
  induction xs generalizing vs with
  | nil => simp [aparts] at hx; subst hx; simp
  | cons x xs ih =>
    obtain ⟨i, x⟩ := x
    simp only [aparts, Option.bind_eq_bind, Option.bind_eq_some_iff] at hx
    obtain ⟨v, hv, us, hus, hx⟩ := hx
    cases hx
    obtain ⟨h1, h2⟩ := h.eval hv
    obtain ⟨h3, h4⟩ := ih hus
    refine ⟨by simp [h1]; exact h3, ?_⟩
    intro p hp
    rcases List.mem_cons.1 hp with rfl | hp
    · exact h2
    · exact h4 p hp

/-- What a row of cells must be. -/
structure Row (k N : Nat) (l : List AV) : Prop where
  n : l.length = N
  one : ∀ u ∈ l, oneA u = true
  ok : ∀ u ∈ l, okV k u
theorem mem_put {l vs : List AV} {off : Nat} {u : AV} (h : u ∈ put l off vs) : u ∈ l ∨ u ∈ vs := by
  simp only [put, List.mem_append] at h
  rcases h with (h | h) | h
  · exact .inl (List.mem_of_mem_take h)
  · exact .inr h
  · exact .inl (List.mem_of_mem_drop h)
theorem putA_ok {N off m : Nat} {l vs r : List AV} (h : putA N l off m vs = some r) (hl : Row k N l) (hv : vs.length = m) (h1 : ∀ u ∈ vs, oneA u = true) (h2 : ∀ u ∈ vs, okV k u) : r = put l off vs ∧ Row k N r ∧ off + m ≤ N := by
  unfold putA at h
  cases hb : (Nat.beq off 0 && Nat.beq N m) with
  | true =>
    simp only [hb, cond_true, Option.some.injEq] at h
    simp only [Bool.and_eq_true, Nat.beq_eq] at hb
    obtain ⟨rfl, rfl⟩ := hb
    subst h
    exact ⟨by have := hl.n; simp [put]; omega, ⟨hv, h1, h2⟩, by omega⟩
  | false =>
    simp only [hb, cond_false] at h
    cases hc : Nat.ble (off + m) N with
    | true =>
      simp only [hc, cond_true, Option.some.injEq] at h
      have hle := Nat.le_of_ble_eq_true hc
      have hn := hl.n
      rw [putR_eq l vs off (by omega)] at h
      subst h
      refine ⟨rfl, ⟨by simp [put]; omega, fun u hu => ?_, fun u hu => ?_⟩, hle⟩
      · exact (mem_put hu).elim (hl.one u) (h1 u)
      · exact (mem_put hu).elim (hl.ok u) (h2 u)
    | false => simp [hc] at h
theorem map_put (f : AV → Value) (l vs : List AV) (off : Nat) : (put l off vs).map f = put (l.map f) off (vs.map f) := by
  simp [put, List.map_take, List.map_drop]

theorem fillA_ok {place : Nat → Option (Nat × Nat)} {N : Nat} : ∀ (vs : List (Nat × AV)) {l r : List AV}, fillA place N l vs = some r → Row k N l → (∀ p ∈ vs, okV k p.2) →
    Row k N r ∧ Instr.fill place (l.map I.g).toArray (vs.map fun p => (p.1, I.g p.2)) = some (r.map I.g).toArray := by
  intro vs
  induction vs with
  | nil => intro l r h hl _; simp only [fillA, Option.some.injEq] at h; subst h; exact ⟨hl, rfl⟩
  | cons p vs ih =>
    intro l r h hl hk
    obtain ⟨i, v⟩ := p
    simp only [fillA, Option.bind_eq_bind, Option.bind_eq_some_iff] at h
    obtain ⟨⟨off, size⟩, hp, h⟩ := h
    simp only at h
    split at h
    · cases h
    · rename_i hc
      simp only [not_or, ne_eq, Decidable.not_not, Bool.not_eq_false] at hc
      obtain ⟨hc1, hc2⟩ := hc
      obtain ⟨l', hl', h⟩ := Option.bind_eq_some_iff.1 h
      have hv := hk (i, v) (by simp)
      obtain ⟨q1, q2⟩ := cellsOf_ok hv hc2
      obtain ⟨e1, h3, hle⟩ := putA_ok hl' hl (by rw [lenOf_ok hv, hc1]) q1 q2
      obtain ⟨h4, h5⟩ := ih h h3 (fun p hp => hk p (by simp [hp]))
      refine ⟨h4, ?_⟩
      have hlen : ((cellsOf v).map I.g).length = size := by rw [List.length_map, lenOf_ok hv, hc1]
      have hf := foldl_set ((cellsOf v).map I.g) 0 off (l.map I.g) (by simp only [List.length_map, hl.n] at *; omega)
      simp only [Nat.add_zero] at hf
      simp only [List.map_cons, Instr.fill, hp]
      have hcells : (I.g v).cells = ((cellsOf v).map I.g).toArray := cellsOf_gam I.sv v
      rw [hcells]
      simp only [List.size_toArray, hlen, ne_eq, not_true_eq_false, decide_false, Bool.false_or, decide_eq_true_eq, List.length_map, hl.n]
      rw [if_neg (by omega), ← Array.foldl_toList, Array.toList_zipIdx]
      simp only [hf]
      rw [← map_put, ← e1]
      exact h5

theorem run_mapM_places {fs : Array Field} (h : ∀ f ∈ fs, ∃ z, (P.info? f.type).map (·.size) = some z) : ∃ pl : Array (Nat × Nat), (∀ w, (fs.mapM fun f => do pure (f.offset, ← sizeOf f.type) : Sem (Array (Nat × Nat))).run P w = .ok pl w) ∧
    ∀ i : Nat, pl[i]? = (fs[i]?).bind fun (f : Field) => ((P.info? f.type).map (·.size)).map fun z => (f.offset, z) := by
  obtain ⟨l⟩ := fs
  simp only [List.mem_toArray] at h
  have key : ∀ l : List Field, (∀ f ∈ l, ∃ z, (P.info? f.type).map (·.size) = some z) → ∃ pl : List (Nat × Nat), (∀ w, (l.mapM fun f => do pure (f.offset, ← sizeOf f.type) : Sem (List (Nat × Nat))).run P w = .ok pl w) ∧
      ∀ i : Nat, pl[i]? = (l[i]?).bind fun (f : Field) => ((P.info? f.type).map (·.size)).map fun z => (f.offset, z) := by
    intro l
    induction l with
    | nil => intro _; exact ⟨[], fun w => by simp, fun i => by simp⟩
    | cons f l ih =>
      intro h
      obtain ⟨pl, h1, h2⟩ := ih (fun f hf => h f (by simp [hf]))
      obtain ⟨z, hz⟩ := h f (by simp)
      refine ⟨(f.offset, z) :: pl, fun w => ?_, fun i => ?_⟩
      · simp only [List.mapM_cons, Sem.run_bind, run_sizeOf' hz, Result.andThen_ok, Sem.run_pure, h1]
      · cases i with
        | zero => simp only [List.getElem?_cons_zero, Option.bind_some, hz, Option.map_some]
        | succ i => simpa using h2 i
  obtain ⟨pl, h1, h2⟩ := key l h
  refine ⟨pl.toArray, fun w => ?_, fun i => by simpa using h2 i⟩
  rw [List.mapM_toArray, Sem.run_map, h1 w]; rfl

theorem v_build (hF : FR I k n F a dd) {o : Oper} {t : Nat} {ps : Array (Nat × Operand)} {v : AV} (ho : o.op = .build t ps) (h : aval (tabOf P) g F o.op = some v) : Good P I k w a o v := by
  rw [ho] at h
  simp only [aval, Option.bind_eq_bind, Option.bind_eq_some_iff] at h
  obtain ⟨vs, hvs, d, (hd : P.underlying t = some d), z, hz, h⟩ := h
  obtain ⟨h1, h2⟩ := hF.parts hvs
  obtain ⟨hz1, hz2, hz3⟩ := run_zeroValue' (P := P) hz I k w
  have hps : (ps.map fun (i, x) => (i, a.eval x)).toList = vs.map fun p => (p.1, I.g p.2) := by rw [← h1]; simp
  cases d <;> cases z <;> simp only at h <;> try (cases h; done)
  case struct.agg fs m l =>
    split at h
    · cases h
    · rename_i hall
      obtain ⟨r, hr, h⟩ := Option.bind_eq_some_iff.1 h
      cases h
      obtain ⟨q1, q2, q3⟩ := okV_agg.1 hz2
      have hall' : ∀ f ∈ fs, ∃ z, (P.info? f.type).map (·.size) = some z := by
        intro f hf
        simp only [Bool.not_eq_true', Bool.not_eq_false, List.all_eq_true] at hall
        have := hall f (by simpa using hf)
        exact Option.isSome_iff_exists.1 this
      obtain ⟨pl, hp1, hp2⟩ := run_mapM_places hall'
      have hpl : (fun i : Nat => (fs[i]?).bind fun (f : Field) => ((tabOf P).sz f.type).bind fun z => some (f.offset, z)) = (pl[·]?) := by
        funext i
        rw [hp2 i]
        cases fs[i]? with
        | none => rfl
        | some f =>
          simp only [Option.bind_some, tabOf]
          cases P.info? f.type <;> rfl
      obtain ⟨h3, h4⟩ := fillA_ok (I := I) vs hr ⟨q1, q2, q3⟩ h2
      rw [hpl] at h4
      refine ⟨?_, okV_agg.2 ⟨h3.n, h3.one, h3.ok⟩⟩
      have hzc : (I.g (.agg m l)).cells = (l.map I.g).toArray := cellsOf_gam I.sv (.agg m l)
      simp only [execOp, ho, Instr.build, Sem.run_bind, hz1, Result.andThen_ok, hzc, run_underlying hd, hp1, hps, h4, Sem.run_pure]
      simp [gam, gams_eq]
  case array.agg len e m l =>
    obtain ⟨sz, hsz, h⟩ := Option.bind_eq_some_iff.1 h
    obtain ⟨r, hr, h⟩ := Option.bind_eq_some_iff.1 h
    cases h
    obtain ⟨q1, q2, q3⟩ := okV_agg.1 hz2
    obtain ⟨h3, h4⟩ := fillA_ok (I := I) vs hr ⟨q1, q2, q3⟩ h2
    refine ⟨?_, okV_agg.2 ⟨h3.n, h3.one, h3.ok⟩⟩
    have hzc : (I.g (.agg m l)).cells = (l.map I.g).toArray := cellsOf_gam I.sv (.agg m l)
    have hs := run_sizeOf' (P := P) hsz
    simp only [execOp, ho, Instr.build, Sem.run_bind, hz1, Result.andThen_ok, hzc, run_underlying hd, hs, hps, h4, Sem.run_pure]
    simp [gam, gams_eq]

theorem FR.evalO (h : FR I k n F a dd) {x : Option Operand} {v : Option AV} (hx : agetO F x = some v) : x.map a.eval = v.map I.g := by
  cases x with
  | none => simp [agetO] at hx; subst hx; rfl
  | some x =>
    simp only [agetO, Option.map_eq_some_iff] at hx
    obtain ⟨u, hu, rfl⟩ := hx
    simp [(h.eval hu).1]

theorem run_bound {v : AV} {i c : Nat} {bc : BoundsCode} (h : asNat v = some i) (hc : i ≤ c) : (Instr.sliceBound (I.g v) c bc).run P w = .ok i w := by
  obtain ⟨q, hq⟩ := asNat_ok (I := I) h
  have hq' : (0 : Int) ≤ (i : Int) ∧ (i : Int) ≤ (c : Int) := by omega
  simp only [Instr.sliceBound, hq, asIntOf, Sem.run_bind, Sem.run_pure, Result.andThen_ok, if_pos hq', Int.toNat_natCast]

theorem run_bounds {sl : Bool} {ln cap i j : Nat} {l r : Option AV} (hi : boundA 0 l = some i) (hj : boundA ln r = some j) (hij : i ≤ j) (hjl : j ≤ ln) (hc : ln ≤ cap) :
    (Instr.sliceBounds sl ln cap (l.map I.g) (r.map I.g) none).run P w = .ok (i, j, cap) w := by
  cases l <;> cases r <;> simp only [boundA] at hi hj
  · cases hi; cases hj; simp [Instr.sliceBounds]
  · cases hi; rename_i v; simp [Instr.sliceBounds, run_bound (P := P) (I := I) (w := w) hj (show j ≤ cap by omega)]
  · cases hj; rename_i v; simp [Instr.sliceBounds, run_bound (P := P) (I := I) (w := w) hi hij]
  · rename_i u v; simp [Instr.sliceBounds, run_bound (P := P) (I := I) (w := w) hj (show j ≤ cap by omega), run_bound (P := P) (I := I) (w := w) hi hij]

theorem v_slice (hg : GK I env lo k w g) (hF : FR I k n F a dd) {o : Oper} {t : Nat} {x : Operand} {ol oh : Option Operand} {v : AV} (ho : o.op = .slice t x ol oh none) (h : aval (tabOf P) g F o.op = some v) : Good P I k w a o v := by
  rw [ho] at h
  simp only [aval, Option.bind_eq_bind, Option.bind_eq_some_iff] at h
  obtain ⟨l, hl, r, hr, i, hi, d, (hd : P.underlying t = some d), u, hu, h⟩ := h
  have e1 := hF.evalO hl
  have e2 := hF.evalO hr
  obtain ⟨h1, h2⟩ := hF.eval hu
  split at h
  · rename_i e
    rw [Option.bind_eq_some_iff] at h
    obtain ⟨z, hz, h⟩ := h
    rw [Option.bind_eq_some_iff] at h
    obtain ⟨q, hq, h⟩ := h
    rw [Option.bind_eq_some_iff] at h
    obtain ⟨j, hj, h⟩ := h
    have hz' := run_sizeOf' (P := P) hz
    split at h
    · rename_i hij
      obtain ⟨s, hs, hsl, _⟩ := sliceOf_ok hg hq
      have hb := run_bounds (P := P) (I := I) (w := w) (sl := true) (cap := s.cap) hi hj hij.1 hij.2 (by rw [← hsl.len]; exact hsl.room)
      have key : (execOp a.eval o).run P w = .ok (.value (s.cut i j z).v) w := by
        have hln := hsl.len
        obtain ⟨sa, sl, sc⟩ := s
        simp only at hln; subst hln
        by_cases hc : sc = i
        · subst hc
          simp only at hb
          simp [execOp, ho, h1, hs, e1, e2, Instr.sliceAt, Instr.slice, run_underlying hd, hb, hz', SV.cut, SV.v]
        · have hc' : ¬ sc - i = 0 := by have := hsl.room; simp only at this; omega
          simp [execOp, ho, h1, hs, e1, e2, Instr.sliceAt, Instr.slice, run_underlying hd, hb, hz', SV.cut, SV.v, hc, hc']
      cases u <;> simp only at h <;> try (cases h; done)
      case nsl =>
        simp only [Option.some.injEq] at h; subst h
        simp only [sliceOf, Option.some.injEq] at hq
        subst hq
        refine ⟨?_, trivial⟩
        rw [key]
        have : s = SV.nil := by obtain ⟨x, y, z⟩ := s; simp only [gam] at hs; cases hs; rfl
        subst this
        simp only at hij
        have : j = 0 := by omega
        subst this
        have : i = 0 := by omega
        subst this
        rfl
      case sl m off len cap =>
        simp only [Option.some.injEq] at h; subst h
        refine ⟨?_, h2⟩
        rw [key]
        have : s = ⟨some ⟨(I.sv m).blk, off, none⟩, len, cap⟩ := by obtain ⟨x, y, z⟩ := s; simp only [gam] at hs; cases hs; rfl
        subst this
        have hr2 := hsl.room
        have hl2 := hsl.len
        simp only at hr2 hl2
        by_cases hc : cap = i
        · simp [SV.cut, gam, hc]
        · have hc' : ¬ cap - i = 0 := by omega
          simp [SV.cut, gam, hc, hc', addr_add]
      case row m cuts =>
        simp only [Option.some.injEq] at h; subst h
        refine ⟨?_, h2⟩
        rw [key]
        have : s = cuts.foldl (fun s c => s.cut c.1 c.2.1 c.2.2) (I.sv m) := by
          have : s.v = (cuts.foldl (fun s c => s.cut c.1 c.2.1 c.2.2) (I.sv m)).v := hs.symm.trans rfl
          obtain ⟨x, y, z⟩ := s
          generalize (cuts.foldl (fun s c => s.cut c.1 c.2.1 c.2.2) (I.sv m)) = t at this
          obtain ⟨x', y', z'⟩ := t
          cases this; rfl
        rw [this]
        simp [gam]
    · cases h
  · rename_i len e m off
    rw [Option.bind_eq_some_iff] at h
    obtain ⟨z, hz, h⟩ := h
    rw [Option.bind_eq_some_iff] at h
    obtain ⟨j, hj, h⟩ := h
    have hz' := run_sizeOf' (P := P) hz
    split at h
    · rename_i hij
      obtain ⟨h3, h4, h5, h6⟩ := hij
      simp only [Option.some.injEq] at h; subst h h5
      have hb := run_bounds (P := P) (I := I) (w := w) (sl := false) (cap := len) hi hj h3 h4 (Nat.le_refl _)
      refine ⟨?_, h2⟩
      have h0 : ¬ len = 0 := by omega
      simp [execOp, ho, h1, gam, e1, e2, Instr.sliceAt, Instr.sureAddr, run_underlying hd, hb, hz', addr_add]
    · cases h
  · cases h

theorem v_builtin (hg : GK I env lo k w g) (hF : FR I k n F a dd) {o : Oper} {b : Builtin} {xs : Array Operand} {ts : Array TypeId} {v : AV} (ho : o.op = .call { callee := .builtin b, args := xs, argTypes := ts }) (h : aval (tabOf P) g F o.op = some v) : Good P I k w a o v := by
  rw [ho] at h
  simp only [aval, Option.bind_eq_bind, Option.bind_eq_some_iff] at h
  obtain ⟨vs, hvs, h⟩ := h
  obtain ⟨h1, h2⟩ := hF.evals hvs
  have h1' : xs.map a.eval = (vs.map I.g).toArray := by rw [← h1, ← List.map_toArray, Array.toArray_toList]
  have fin : ∀ (u : Value), (∀ c ty, (builtin b ts ty c (vs.map I.g).toArray).run P w = .ok (.value u) w) → (execOp a.eval o).run P w = .ok (.value u) w := by
    intro u hu
    simp only [execOp, ho, resolve, invoke, Sem.run_bind, Sem.run_pure, Result.andThen_ok, h1', hu]
  split at h
  · rename_i u t r hts
    rw [Option.bind_eq_some_iff] at h
    obtain ⟨d, (ht : P.underlying t = some d), h⟩ := h
    have ht0 : ts[0]? = some t := by
      obtain ⟨l⟩ := ts
      simp only at hts; subst hts; rfl
    split at h
    · simp only [Option.some.injEq] at h; subst h
      refine ⟨fin _ fun c ty => ?_, trivial⟩
      simp [builtin, Builtin.len_, ht0, run_underlying ht, gam, goInt]
      rfl
    · rename_i e
      rw [Option.bind_eq_some_iff] at h
      obtain ⟨z, hz, h⟩ := h
      rw [Option.bind_eq_some_iff] at h
      obtain ⟨q, hq, h⟩ := h
      simp only [Option.some.injEq] at h; subst h
      obtain ⟨s, hs, hsl, _⟩ := sliceOf_ok hg hq
      refine ⟨fin _ fun c ty => ?_, trivial⟩
      simp [builtin, Builtin.len_, ht0, run_underlying ht, hs, goInt, gam, hsl.len]
    · cases h
  · simp only [Option.some.injEq] at h; subst h
    refine ⟨fin _ fun c ty => ?_, trivial⟩
    simp [builtin, Builtin.min_, Builtin.min2, gam]
  · simp only [Option.some.injEq] at h; subst h
    refine ⟨fin _ fun c ty => ?_, trivial⟩
    simp [builtin, Builtin.max_, Builtin.max2, gam]
  · cases h

theorem mapFind_ok {key : AV} : ∀ {es : List (AV × AV × Nat)} {r : Option AV} (kd : IntKind) (i : Nat), mapFind key es = some r →
    (∃ q x, key = .i q x) → ∃ r' : Option (Nat × Value), Instr.findNow (.int kd) (I.g key) (es.map fun e => (⟨I.g e.1, I.g e.2.1, e.2.2⟩ : MapEntry)) i = some r' ∧ r'.map (·.2) = r.map I.g := by
  intro es
  induction es with
  | nil => intro r kd i h _; simp only [mapFind, Option.some.injEq] at h; subst h; exact ⟨none, rfl, rfl⟩
  | cons e es ih =>
    intro r kd i h hk
    obtain ⟨k', v, c⟩ := e
    obtain ⟨q, x, rfl⟩ := hk
    simp only [mapFind] at h
    cases k' <;> simp only at h <;> try (cases h; done)
    rename_i q' y
    split at h
    · rename_i hq
      subst hq
      simp only [List.map_cons, Instr.findNow, gam, Ip.g, Instr.sameNow, if_true]
      split at h
      · rename_i hx
        subst hx
        simp only [Option.some.injEq] at h; subst h
        simp
      · rename_i hx
        have hb : (x == y) = false := by simp [hx]
        rw [hb]
        exact ih kd (i + 1) h ⟨q, x, rfl⟩
    · cases h
theorem mapFind_mem {key : AV} : ∀ {es : List (AV × AV × Nat)} {v : AV}, mapFind key es = some (some v) → ∃ e ∈ es, e.2.1 = v := by
  intro es
  induction es with
  | nil => intro v h; simp [mapFind] at h
  | cons e es ih =>
    intro v h
    obtain ⟨k', u, c⟩ := e
    cases key <;> simp only [mapFind] at h <;> try (cases h; done)
    cases k' <;> simp only at h <;> try (cases h; done)
    split at h
    · split at h
      · simp only [Option.some.injEq] at h; subst h; exact ⟨_, List.mem_cons_self, rfl⟩
      · obtain ⟨e, he, h⟩ := ih h; exact ⟨e, by simp [he], h⟩
    · cases h

theorem mapOf_ok (hg : GK I env lo k w g) {m : AV} {es : List (AV × AV × Nat)} (h : mapOf g m = some es) : (∀ e ∈ es, okV k e.2.1) ∧
    ((I.g m = .map none ∧ es = []) ∨ ∃ r c, I.g m = .map (some r) ∧ w.heap[r]? = some (.map (es.map fun e => (⟨I.g e.1, I.g e.2.1, e.2.2⟩ : MapEntry)).toArray c)) := by
  cases m <;> simp only [mapOf] at h <;> try (cases h; done)
  · cases h; exact ⟨by simp, .inl ⟨rfl, rfl⟩⟩
  · rename_i n
    cases hn : g n with
    | none => simp [hn] at h
    | some o =>
      cases o <;> simp only [hn] at h <;> try (cases h; done)
      cases h
      exact ⟨fun e he => ((hg.ok n _ hn).1 e he).2, .inr ⟨_, _, rfl, hg.holds n _ hn⟩⟩

theorem run_checkKey_any {kt : Nat} {kd : IntKind} (h : P.underlying kt = some (.int kd)) (b : Bool) (n : Nat) (q : IntKind) (x : Int) : (Instr.checkKey b (n + 1) kt (.int q x)).run P w = .ok () w := by
  unfold Instr.checkKey
  simp [run_underlying h]
theorem run_checkKey_int {kt : Nat} {kd : IntKind} (h : P.underlying kt = some (.int kd)) (b : Bool) (q : IntKind) (x : Int) : (Instr.checkKey b 10000 kt (.int q x)).run P w = .ok () w := run_checkKey_any h b 9999 q x

theorem v_lookup (hg : GK I env lo k w g) (hF : FR I k n F a dd) {o : Oper} {t : Nat} {x y : Operand} {ok : Bool} {v : AV} (ho : o.op = .lookup t x y ok) (h : aval (tabOf P) g F o.op = some v) : Good P I k w a o v := by
  rw [ho] at h
  simp only [aval, Option.bind_eq_bind, Option.bind_eq_some_iff] at h
  obtain ⟨key, hkey, d, (hd : P.underlying t = some d), m, hm, h⟩ := h
  obtain ⟨h1, h2⟩ := hF.eval hkey
  obtain ⟨h3, h4⟩ := hF.eval hm
  split at h
  · rename_i kt e
    rw [Option.bind_eq_some_iff] at h
    obtain ⟨dk, (hdk : P.underlying kt = some dk), h⟩ := h
    split at h
    · rename_i kd es q y hes
      rw [Option.bind_eq_some_iff] at h
      obtain ⟨r, hr, h⟩ := h
      rw [Option.bind_eq_some_iff] at h
      obtain ⟨z, hz, h⟩ := h
      simp only [Option.some.injEq] at h
      obtain ⟨r', hf, hv⟩ := mapFind_ok (I := I) kd 0 hr ⟨q, y, rfl⟩
      obtain ⟨hz1, hz2, _⟩ := run_zeroValue' (P := P) hz I k w
      obtain ⟨hok, hmap⟩ := mapOf_ok hg hes
      have hfk : (Instr.findKey kt (I.g (.i q y)) (es.map fun e => (⟨I.g e.1, I.g e.2.1, e.2.2⟩ : MapEntry))).run P w = .ok r' w := by
        simp [Instr.findKey, run_underlying hdk, hf]
      have hck : ∀ b, (Instr.checkKey b 10000 kt (I.g (.i q y))).run P w = .ok () w := fun b => run_checkKey_int hdk b q y
      have hv' : okV k v := by
        subst h
        cases r with
        | none => cases ok <;> simp [lookV, okV, okVs, hz2]
        | some u =>
          have hu : okV k u := by obtain ⟨e, he, rfl⟩ := mapFind_mem hr; exact hok e he
          cases ok <;> simp [lookV, okV, okVs, hu]
      refine ⟨?_, hv'⟩
      have hl : (Instr.lookup t (I.g m) (I.g (.i q y)) ok).run P w = .ok (I.g v) w := by
        have hstep : (Instr.lookup t (I.g m) (I.g (.i q y)) ok).run P w = (do
            let (v, ok') ← match r' with
              | some (_, v) => pure (v, true)
              | none => pure (← zeroValue e, false)
            pure (if ok then .tuple #[v, .bool ok'] else v) : Sem Value).run P w := by
          rcases hmap with ⟨e1, rfl⟩ | ⟨b, c, e1, e2⟩
          · simp only [Instr.lookup, Sem.run_bind, run_underlying hd, Result.andThen_ok, e1, Sem.run_pure, hck]
            simp only [List.map_nil] at hfk
            rw [hfk]; rfl
          · simp only [Instr.lookup, Sem.run_bind, run_underlying hd, Result.andThen_ok, e1, Sem.run_pure, hck, MapKept.run_getObj_map e2]
            rw [hfk]; rfl
        rw [hstep]
        subst h
        cases r' with
        | none =>
          cases r with
          | some u => simp at hv
          | none => cases ok <;> simp [hz1, lookV, gam, gams]
        | some p =>
          cases r with
          | none => simp at hv
          | some u =>
            simp only [Option.map_some, Option.some.injEq] at hv
            cases ok <;> simp [lookV, gam, gams, hv]
      simp only [execOp, ho, h1, h3, Sem.run_bind, hl, Result.andThen_ok, Sem.run_pure]
    · cases h
  · cases h
end
end Go.Ev
