/- A run of closed code, reckoned over plain data: what only looks is reckoned rightly, one operation after the other. No statement of the seat is proved here. -/
import Derived.Test.YtmgnkohlfbjjnaaGreatREvS2
namespace Go.Ev
open Go.Fw
set_option linter.unusedSimpArgs false
set_option linter.unusedVariables false

/-! ### Slices -/
/-- The header reads as these cells. -/
structure SlU (w : World) (s : SV) (ln z : Nat) (xs : List Value) : Prop where
  len : s.len = ln
  room : s.len ≤ s.cap
  n : xs.length = ln * z
  cells : match s.a with
    | none => ln = 0 ∧ s.cap = 0
    | some ad => ad.spot = none ∧ Cells w ad.block ad.off xs

theorem SlU.cut {w : World} {s : SV} {len z i j : Nat} {xs : List Value} (h : SlU w s len z xs) (hij : i ≤ j) (hj : j ≤ len) : SlU w (s.cut i j z) (j - i) z ((xs.drop (i * z)).take ((j - i) * z)) := by
  have hl := h.len
  have hr := h.room
  have hc := h.cells
  have hn := h.n
  have e1 : i * z + (j - i) * z ≤ len * z := by rw [← Nat.add_mul]; exact Nat.mul_le_mul_right _ (by omega)
  refine ⟨rfl, by simp only [SV.cut]; omega, by simp; omega, ?_⟩
  obtain ⟨sa, sl, sc⟩ := s
  simp only at hl hr
  subst hl
  by_cases h0 : sc - i = 0
  · simp only [SV.cut, if_pos h0]
    have hd : (xs.drop (i * z)).take ((j - i) * z) = [] := by rw [show j - i = 0 by omega]; simp
    cases sa with
    | none => exact ⟨by omega, h0⟩
    | some ad => exact ⟨hc.1, by rw [hd]; intro k v hv; simp at hv⟩
  · simp only [SV.cut, if_neg h0]
    cases sa with
    | none => exact ⟨by simp at hc; omega, by simp at hc; omega⟩
    | some ad =>
      obtain ⟨b, off, sp⟩ := ad
      obtain ⟨h1, h2⟩ := hc
      simp only at h1; subst h1
      simp only [Option.map_some, addr_add]
      exact ⟨trivial, h2.sub (i * z) ((j - i) * z) rfl⟩

theorem cutLen_ok {w : World} {z : Nat} : ∀ (cuts : List (Nat × Nat × Nat)) {s : SV} {len r : Nat} {l : List AV} {ρ : Nat → SV}, cutLen z len cuts = some r → SlU w s len z (l.map (gam ρ)) →
    SlU w (cuts.foldl (fun s c => s.cut c.1 c.2.1 c.2.2) s) r z ((cutCells cuts l).map (gam ρ)) ∧ (∀ v ∈ cutCells cuts l, v ∈ l) := by
  intro cuts
  induction cuts with
  | nil => intro s len r l ρ h hs; simp only [cutLen, Option.some.injEq] at h; subst h; exact ⟨hs, fun v hv => hv⟩
  | cons c cuts ih =>
    intro s len r l ρ h hs
    obtain ⟨i, j, z'⟩ := c
    simp only [cutLen] at h
    split at h
    · rename_i hc
      obtain ⟨h1, h2, rfl⟩ := hc
      have hs' := hs.cut h1 h2
      rw [← map_takeR] at hs'
      obtain ⟨h3, h4⟩ := ih h hs'
      exact ⟨h3, fun v hv => takeR_mem (h4 v hv)⟩
    · cases h
/-- Where the first element lies, if there is one. -/
theorem cut_addr {z b : Nat} : ∀ (cuts : List (Nat × Nat × Nat)) {s : SV} {len r off : Nat}, cutLen z len cuts = some r → 0 < r → s.a = some ⟨b, off, none⟩ → len ≤ s.cap →
    ((cuts.foldl (fun s c => s.cut c.1 c.2.1 c.2.2) s)).a = some ⟨b, off + startOf cuts * z, none⟩ := by
  intro cuts
  induction cuts with
  | nil => intro s len r off _ _ h _; simpa [startOf] using h
  | cons c cuts ih =>
    intro s len r off h hr hs hc
    obtain ⟨i, j, z'⟩ := c
    simp only [cutLen] at h
    split at h
    · rename_i hq
      obtain ⟨h1, h2, rfl⟩ := hq
      have mono : ∀ (q : List (Nat × Nat × Nat)) (l : Nat), cutLen z' l q = some r → r ≤ l := by
        intro q
        induction q with
        | nil => intro l h; simp [cutLen] at h; omega
        | cons c q ih =>
          intro l h
          obtain ⟨i, j, z⟩ := c
          simp only [cutLen] at h
          split at h
          · have := ih _ h; omega
          · cases h
      have hm := mono _ _ h
      have h0 : ¬ s.cap - i = 0 := by omega
      have := ih (s := s.cut i j z') h hr (off := off + i * z') (by simp [SV.cut, h0, hs, addr_add]) (by simp only [SV.cut]; omega)
      simp only [List.foldl_cons, this, startOf, Nat.add_mul, Nat.add_assoc]
    · cases h

section
variable {I : Ip} {env : Env} {lo k n : Nat} {w : World} {g : Look} {F : Fm} {a : Act} {dd : List Deferred} {P : Program}

theorem own_slU {lo e z m : Nat} {s : SV} {xs : List Value} (h : w.ownsRow lo e z s.v m xs) : SlU w s m z xs := by
  rcases h.2 with ⟨h1, h2⟩ | ⟨q, cap, cur, h1, h3, h4, h5, h6, h7, h8⟩
  · obtain ⟨sa, sl, sc⟩ := s
    cases h1
    exact ⟨h2.symm, Nat.le_refl _, h.1, h2, rfl⟩
  · have hc := ownBlk h
    obtain ⟨sa, sl, sc⟩ := s
    cases h1
    exact ⟨rfl, h5, h.1, rfl, hc⟩

theorem sliceOf_ok (hg : GK I env lo k w g) {z : Nat} {v : AV} {q : Nat × List AV} (h : sliceOf g z v = some q) : ∃ s : SV, I.g v = s.v ∧ SlU w s q.1 z (q.2.map I.g) ∧ (∀ u ∈ q.2, oneA u = true) ∧ ∀ u ∈ q.2, okV k u := by
  cases v <;> simp only [sliceOf] at h <;> try (cases h; done)
  case nsl => cases h; exact ⟨SV.nil, rfl, ⟨rfl, Nat.le_refl _, by simp, rfl, rfl⟩, by simp, by simp⟩
  case sl m off len cap =>
    have fin : ∀ {N : Nat} {l : List AV}, l.length = N → (∀ u ∈ l, oneA u = true) → (∀ u ∈ l, okV k u) → Cells w (I.sv m).blk 0 (l.map I.g) → off + len * z ≤ N ∧ len ≤ cap →
        q = (len, bif Nat.beq off 0 && Nat.beq N (len * z) then l else takeR (dropR l off) (len * z)) →
        ∃ s : SV, I.g (.sl m off len cap) = s.v ∧ SlU w s q.1 z (q.2.map I.g) ∧ (∀ u ∈ q.2, oneA u = true) ∧ ∀ u ∈ q.2, okV k u := by
      intro N l h1 h2 h3 hc hle e
      subst e
      refine ⟨⟨some ⟨(I.sv m).blk, off, none⟩, len, cap⟩, rfl, ?_, ?_⟩
      · cases hb : (Nat.beq off 0 && Nat.beq N (len * z)) with
        | true =>
          simp only [Bool.and_eq_true, Nat.beq_eq] at hb
          obtain ⟨rfl, rfl⟩ := hb
          simp only [cond_true]
          exact ⟨rfl, hle.2, by simp [h1], rfl, hc⟩
        | false =>
          simp only [cond_false]
          refine ⟨rfl, hle.2, by rw [List.length_map]; exact takeR_len h1 (by rw [Nat.ble_eq]; exact hle.1), rfl, ?_⟩
          have := hc.sub off (len * z) (us := (takeR (dropR l off) (len * z)).map I.g) (by rw [map_takeR]; rfl)
          simpa using this
      · cases hb : (Nat.beq off 0 && Nat.beq N (len * z)) with
        | true => exact ⟨h2, h3⟩
        | false => exact ⟨fun u hu => h2 u (takeR_mem hu), fun u hu => h3 u (takeR_mem hu)⟩
    cases ho : g m with
    | none => simp [ho] at h
    | some o =>
      cases o <;> simp only [ho] at h <;> try (cases h; done)
      case pt N l T =>
        split at h
        · rename_i hle
          obtain ⟨⟨h1, h2, h3⟩, h4⟩ := hg.ok m _ ho
          exact fin h1 h2 h3 (hg.cellsP ho) hle (Option.some.inj h).symm
        · cases h
      case fz N l T =>
        split at h
        · rename_i hle
          obtain ⟨⟨h1, h2, h3⟩, h4⟩ := hg.ok m _ ho
          exact fin h1 h2 h3 (hg.cellsF ho) hle (Option.some.inj h).symm
        · cases h
  case row m cuts =>
    cases ho : g m with
    | none => simp [ho] at h
    | some o =>
      cases o <;> simp only [ho] at h <;> try (cases h; done)
      rename_i e z' c l
      split at h
      · rename_i hz
        subst hz
        simp only [Option.bind_eq_bind, Option.bind_eq_some_iff, Option.some.injEq] at h
        obtain ⟨len, hl, rfl⟩ := h
        obtain ⟨⟨h1, h0, h2, h3⟩, h4⟩ := hg.ok m _ ho
        have ho' : w.ownsRow lo e z' (I.sv m).v c (l.map I.g) := hg.holds m _ ho
        obtain ⟨h5, h6⟩ := cutLen_ok cuts hl (own_slU ho')
        exact ⟨_, rfl, h5, fun u hu => h2 u (h6 u hu), fun u hu => h3 u (h6 u hu)⟩
      · cases h

theorem row_addr (hg : GK I env lo k w g) {z m i : Nat} {cuts : List (Nat × Nat × Nat)} {q : Nat × List AV} (h : sliceOf g z (.row m cuts) = some q) (hi : i < q.1) :
    ∃ cap, I.g (.row m cuts) = .slice (some ⟨(I.sv m).blk, startOf cuts * z, none⟩) q.1 cap := by
  obtain ⟨s, hs, hsl, _⟩ := sliceOf_ok hg h
  simp only [sliceOf] at h
  cases ho : g m with
  | none => simp [ho] at h
  | some o =>
    cases o <;> simp only [ho] at h <;> try (cases h; done)
    rename_i e z' c l
    split at h
    · rename_i hz
      subst hz
      simp only [Option.bind_eq_bind, Option.bind_eq_some_iff, Option.some.injEq] at h
      obtain ⟨len, hl, rfl⟩ := h
      have ho' : w.ownsRow lo e z' (I.sv m).v c (l.map I.g) := hg.holds m _ ho
      have hpos : 0 < len := by simp only at hi; omega
      have hc : 0 < c := by
        have mono : ∀ (q : List (Nat × Nat × Nat)) (l : Nat), cutLen z' l q = some len → len ≤ l := by
          intro q
          induction q with
          | nil => intro l h; simp [cutLen] at h; omega
          | cons c q ih =>
            intro l h
            obtain ⟨i, j, z⟩ := c
            simp only [cutLen] at h
            split at h
            · have := ih _ h; omega
            · cases h
        have := mono _ _ hl; omega
      rcases ho'.2 with ⟨h1, h2⟩ | ⟨b, cap, cur, h1, h3, h4, h5, _⟩
      · omega
      · have hsv : I.sv m = ⟨some ⟨b, 0, none⟩, c, cap⟩ := by
          cases hx : I.sv m; rw [hx] at h1; cases h1; rfl
        have ha := cut_addr cuts (s := I.sv m) (b := b) (off := 0) hl hpos (by rw [hsv]) (by rw [hsv]; exact h5)
        have hl' := hsl.len
        have hb : (I.sv m).blk = b := by rw [hsv]; rfl
        refine ⟨s.cap, ?_⟩
        have hs2 : s = cuts.foldl (fun s c => s.cut c.1 c.2.1 c.2.2) (I.sv m) := by
          have : s.v = (cuts.foldl (fun s c => s.cut c.1 c.2.1 c.2.2) (I.sv m)).v := hs.symm.trans rfl
          obtain ⟨x, y, z⟩ := s
          generalize (cuts.foldl (fun s c => s.cut c.1 c.2.1 c.2.2) (I.sv m)) = t at this
          obtain ⟨x', y', z'⟩ := t
          cases this; rfl
        rw [hs, hb]
        have ha' : s.a = some ⟨b, 0 + startOf cuts * z', none⟩ := by rw [hs2]; exact ha
        obtain ⟨x, y, zz⟩ := s
        simp only at ha' hl'
        subst ha' hl'
        simp
    · cases h

/-! ### One operation -/
abbrev Good (P : Program) (I : Ip) (k : Nat) (w : World) (a : Act) (o : Oper) (v : AV) : Prop := (execOp a.eval o).run P w = .ok (.value (I.g v)) w ∧ okV k v

theorem v_move (hF : FR I k n F a dd) {o : Oper} {x : Operand} {v : AV} (ho : o.op = .move x) (h : aget F x = some v) : Good P I k w a o v := by
  obtain ⟨h1, h2⟩ := hF.eval h
  exact ⟨by simp [execOp, ho, h1], h2⟩
theorem v_assign (hF : FR I k n F a dd) {o : Oper} {x : Operand} {v : AV} (ho : o.op = .assign x) (h : aget F x = some v) : Good P I k w a o v := by
  obtain ⟨h1, h2⟩ := hF.eval h
  exact ⟨by simp [execOp, ho, h1], h2⟩
theorem v_pick (hF : FR I k n F a dd) {o : Oper} {c x y : Operand} {v : AV} (ho : o.op = .pick c x y) (h : aval (tabOf P) g F o.op = some v) : Good P I k w a o v := by
  rw [ho] at h
  simp only [aval, Option.bind_eq_bind, Option.bind_eq_some_iff] at h
  obtain ⟨u, hu, h⟩ := h
  obtain ⟨h1, h2⟩ := hF.eval hu
  cases u <;> simp only at h <;> try (cases h; done)
  rename_i b
  cases b
  · simp only [Bool.false_eq_true, if_false] at h
    obtain ⟨h3, h4⟩ := hF.eval h
    exact ⟨by simp [execOp, ho, h1, gam, asBool, h3], h4⟩
  · simp only [if_true] at h
    obtain ⟨h3, h4⟩ := hF.eval h
    exact ⟨by simp [execOp, ho, h1, gam, asBool, h3], h4⟩
theorem v_unOp (hF : FR I k n F a dd) {o : Oper} {q : UnOp} {t : Nat} {x : Operand} {v : AV} (ho : o.op = .unOp q t x) (h : aval (tabOf P) g F o.op = some v) : Good P I k w a o v := by
  rw [ho] at h
  simp only [aval, Option.bind_eq_bind, Option.bind_eq_some_iff] at h
  obtain ⟨u, hu, h⟩ := h
  obtain ⟨h1, h2⟩ := hF.eval hu
  cases q <;> cases u <;> simp only at h <;> try (cases h; done)
  · cases h; exact ⟨by simp [execOp, ho, h1, gam, Op.unary, Op.intArith], trivial⟩
  · cases h; exact ⟨by simp [execOp, ho, h1, gam, Op.unary], trivial⟩
theorem v_extract (hF : FR I k n F a dd) {o : Oper} {i : Nat} {x : Operand} {v : AV} (ho : o.op = .extract x i) (h : aval (tabOf P) g F o.op = some v) : Good P I k w a o v := by
  rw [ho] at h
  simp only [aval, Option.bind_eq_bind, Option.bind_eq_some_iff] at h
  obtain ⟨u, hu, h⟩ := h
  obtain ⟨h1, h2⟩ := hF.eval hu
  cases u <;> simp only at h <;> try (cases h; done)
  rename_i l
  rw [getR_eq] at h
  refine ⟨?_, okVs_iff.1 h2 v (List.mem_of_getElem? h)⟩
  simp [execOp, ho, h1, gam, gams_eq, Instr.extract, h]
theorem v_nilCheck (hF : FR I k n F a dd) {o : Oper} {x : Operand} {v : AV} (ho : o.op = .nilCheck x) (h : aval (tabOf P) g F o.op = some v) : Good P I k w a o v := by
  rw [ho] at h
  simp only [aval, Option.bind_eq_bind, Option.bind_eq_some_iff] at h
  obtain ⟨u, hu, h⟩ := h
  obtain ⟨h1, h2⟩ := hF.eval hu
  cases u <;> simp only at h <;> try (cases h; done)
  · cases h; exact ⟨by simp [execOp, ho, h1, gam], h2⟩
  · cases h; exact ⟨by simp [execOp, ho, h1, gam], h2⟩
theorem v_makeFunc (hF : FR I k n F a dd) {o : Oper} {q : Fn} {fs cs : Array Operand} {v : AV} (ho : o.op = .makeFunc q fs cs) (h : aval (tabOf P) g F o.op = some v) : Good P I k w a o v := by
  rw [ho] at h
  cases q <;> simp only [aval] at h <;> try (cases h; done)
  simp only [Option.bind_eq_bind, Option.bind_eq_some_iff, Option.some.injEq] at h
  obtain ⟨x, hx, y, hy, rfl⟩ := h
  obtain ⟨h1, h2⟩ := hF.evals hx
  obtain ⟨h3, h4⟩ := hF.evals hy
  refine ⟨?_, by simp only [okV, okVs_iff]; exact ⟨h2, h4⟩⟩
  have e1 : fs.map a.eval = (x.map I.g).toArray := by rw [← h1, ← List.map_toArray, Array.toArray_toList]
  have e2 : cs.map a.eval = (y.map I.g).toArray := by rw [← h3, ← List.map_toArray, Array.toArray_toList]
  simp [execOp, ho, Instr.makeFunc, e1, e2, gam, gams_eq]
theorem v_load (hg : GK I env lo k w g) (hF : FR I k n F a dd) {o : Oper} {t : Nat} {x : Operand} {v : AV} (ho : o.op = .load t x) (h : aval (tabOf P) g F o.op = some v) : Good P I k w a o v := by
  rw [ho] at h
  simp only [aval, Option.bind_eq_bind, Option.bind_eq_some_iff] at h
  obtain ⟨u, hu, h⟩ := h
  obtain ⟨h1, h2⟩ := hF.eval hu
  cases u <;> simp only at h <;> try (cases h; done)
  rename_i m off
  have fin : ∀ {N : Nat} {l : List AV}, Ev.part (tabOf P) t N l off = some v → l.length = N → (∀ u ∈ l, oneA u = true) → (∀ u ∈ l, okV k u) → Cells w (I.sv m).blk 0 (l.map I.g) → Good P I k w a o v := by
    intro N l hp hN h3 h4 hc
    have := part_load (P := P) hp hN hc
    rw [Nat.zero_add] at this
    refine ⟨?_, (part_ok hp hN h3 h4).1⟩
    simp [execOp, ho, h1, gam, Instr.loadAt, Instr.sureAddr, this]
  cases hq : g m with
  | none => simp [hq] at h
  | some ob =>
    cases ob <;> simp only [hq] at h <;> try (cases h; done)
    · obtain ⟨⟨q1, q2, q3⟩, _⟩ := hg.ok m _ hq
      exact fin h q1 q2 q3 (hg.cellsP hq)
    · obtain ⟨⟨q1, _, q2, q3⟩, _⟩ := hg.ok m _ hq
      exact fin h q1 q2 q3 (hg.cellsR hq)
theorem v_fieldAddr (hF : FR I k n F a dd) {o : Oper} {t f : Nat} {x : Operand} {v : AV} (ho : o.op = .fieldAddr t x f) (h : aval (tabOf P) g F o.op = some v) : Good P I k w a o v := by
  rw [ho] at h
  simp only [aval, tabOf, Option.bind_eq_bind, Option.bind_eq_some_iff] at h
  obtain ⟨d, hd, u, hu, h⟩ := h
  obtain ⟨h1, h2⟩ := hF.eval hu
  cases d <;> cases u <;> simp only at h <;> try (cases h; done)
  rename_i fs m off
  obtain ⟨fl, hf, h⟩ := Option.bind_eq_some_iff.1 h
  obtain ⟨z, hz, h⟩ := Option.bind_eq_some_iff.1 h
  split at h
  · cases h
  · rename_i hz0
    cases h
    obtain ⟨i, hi, rfl⟩ := Option.map_eq_some_iff.1 hz
    refine ⟨?_, h2⟩
    simp [execOp, ho, h1, gam, Instr.fieldAt, run_underlying hd, hf, Instr.sureAddr, fieldPlace, sizeOf, typeInfo, hi, hz0, addr_add]
theorem v_field (hF : FR I k n F a dd) {o : Oper} {t f : Nat} {x : Operand} {v : AV} (ho : o.op = .field t x f) (h : aval (tabOf P) g F o.op = some v) : Good P I k w a o v := by
  rw [ho] at h
  simp only [aval, Option.bind_eq_bind, Option.bind_eq_some_iff] at h
  obtain ⟨d, hd, u, hu, h⟩ := h
  obtain ⟨h1, h2⟩ := hF.eval hu
  cases d <;> cases u <;> simp only at h <;> try (cases h; done)
  rename_i fs m l
  obtain ⟨fl, hf, h⟩ := Option.bind_eq_some_iff.1 h
  obtain ⟨q1, q2, q3⟩ := okV_agg.1 h2
  refine ⟨?_, (part_ok h q1 q2 q3).1⟩
  have := part_part (P := P) (w := w) (I := I) h q1
  simp [execOp, ho, h1, gam, gams_eq, Instr.field, run_underlying (P := P) (show P.underlying t = _ from hd), hf, asAgg, this]
end
end Go.Ev
