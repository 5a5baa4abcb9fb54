/- A run of closed code, reckoned over plain data: comparisons and sums. No statement of the seat is proved here. -/
import Derived.Test.YtmgnkohlfbjjnaaGreatREvS5
namespace Go.Ev
open Go.Fw
set_option linter.unusedSimpArgs false
set_option linter.unusedVariables false
section
variable {I : Ip} {env : Env} {lo k n : Nat} {w : World} {g : Look} {F : Fm} {a : Act} {dd : List Deferred} {P : Program}

theorem aeq_ok : ∀ (d : Nat) {t : Nat} {x y : AV} {r : Bool}, aeq (tabOf P) d t x y = some r → okV k x → okV k y → ∀ D, d ≤ D → ∀ w : World, (Op.equalIn D t (I.g x) (I.g y)).run P w = .ok r w := by
  intro d
  induction d with
  | zero => intro t x y r h; simp [aeq] at h
  | succ d ih =>
    intro t x y r h hkx hky D hD w
    obtain ⟨D, rfl⟩ : ∃ D', D = D' + 1 := ⟨D - 1, by omega⟩
    have hD' : d ≤ D := by omega
    simp only [aeq, Option.bind_eq_bind] at h
    rw [Option.bind_eq_some_iff] at h
    obtain ⟨td, (ht : P.underlying t = some td), h⟩ := h
    split at h
    · simp only [Option.some.injEq] at h; subst h
      exact Fw.run_equalIn_bool D ht
    · split at h
      · rename_i hk
        subst hk
        simp only [Option.some.injEq] at h; subst h
        exact run_equalIn_int w D t _ _ _ _ ht
      · cases h
    · rename_i fs n xs m ys
      split at h
      · cases h
      · rename_i hpl
        simp only [tabOf, Bool.not_eq_true', Bool.not_eq_false, Bool.and_eq_true] at hpl
        have hfs : P.fieldsOf t = fs := by simp [Program.fieldsOf, ht]
        have e1 := run_equalIn_struct (P := P) w D t (xs.map I.g).toArray (ys.map I.g).toArray (by rw [hfs]; exact ht) hpl.2
        have g1 : I.g (.agg n xs) = .agg (xs.map I.g).toArray := by simp [gam, gams_eq]
        have g2 : I.g (.agg m ys) = .agg (ys.map I.g).toArray := by simp [gam, gams_eq]
        rw [g1, g2, e1, hfs]
        generalize fs.toList = l at h
        clear e1
        obtain ⟨qx1, qx2, qx3⟩ := okV_agg.1 hkx
        obtain ⟨qy1, qy2, qy3⟩ := okV_agg.1 hky
        induction l generalizing r with
        | nil => simp only [allO, Option.some.injEq] at h; subst h; exact eqFields_nil
        | cons f l ihl =>
          simp only [allO, Option.bind_eq_bind] at h
          rw [Option.bind_eq_some_iff] at h
          obtain ⟨b, hb, h⟩ := h
          split at hb
          · cases hb
          · rename_i hname
            rw [Option.bind_eq_some_iff] at hb
            obtain ⟨px, hpx, hb⟩ := hb
            rw [Option.bind_eq_some_iff] at hb
            obtain ⟨py, hpy, hb⟩ := hb
            have he := ih hb (part_ok hpx qx1 qx2 qx3).1 (part_ok hpy qy1 qy2 qy3).1 D hD' w
            have hn : f.name ≠ "_" := by simpa using hname
            have p1 : (Go.part f.type (xs.map I.g).toArray f.offset).run P w = .ok (I.g px) w := by
              exact part_part hpx qx1
            have p2 : (Go.part f.type (ys.map I.g).toArray f.offset).run P w = .ok (I.g py) w := by
              exact part_part hpy qy1
            simp only [Op.eqFields, if_pos hn, Sem.run_bind, p1, p2, Result.andThen_ok, he]
            cases b
            · simp only [Bool.false_eq_true, if_false, Option.some.injEq] at h; subst h; simp
            · simp only [if_true] at h
              simpa using ihl h
    · rename_i len e n xs m ys
      rw [Option.bind_eq_some_iff] at h
      obtain ⟨z, hz, h⟩ := h
      have hz' := run_sizeOf' (P := P) hz
      cases hc : (Nat.beq n (len * z) && Nat.beq m (len * z)) with
      | false => simp [hc] at h
      | true =>
        simp only [hc, cond_true] at h
        rw [Option.bind_eq_some_iff] at h
        obtain ⟨de, (hde : P.underlying e = some de), h⟩ := h
        have hag := run_isAgg' hde
        have e1 := Fw.run_equalIn_array (P := P) w D (xs.map I.g).toArray (ys.map I.g).toArray ht hz'
        have g1 : I.g (.agg n xs) = .agg (xs.map I.g).toArray := by simp [gam, gams_eq]
        have g2 : I.g (.agg m ys) = .agg (ys.map I.g).toArray := by simp [gam, gams_eq]
        rw [g1, g2, e1]
        obtain ⟨qx1, qx2, qx3⟩ := okV_agg.1 hkx
        obtain ⟨qy1, qy2, qy3⟩ := okV_agg.1 hky
        simp only [Bool.and_eq_true, Nat.beq_eq] at hc
        obtain ⟨hc1, hc2⟩ := hc
        split at h
        · rename_i hA
          rw [hA] at hag
          have key : ∀ (rem s : Nat) (r : Bool), s + rem = len → allZ (fun a b => aeq (tabOf P) d e (.agg z a) (.agg z b)) z rem (xs.drop (s * z)) (ys.drop (s * z)) = some r →
              (Op.eqElems D e z (xs.map I.g).toArray (ys.map I.g).toArray (List.range' s rem)).run P w = .ok r w := by
            intro rem
            induction rem with
            | zero => intro s r hs h; simp only [allZ, Option.some.injEq] at h; subst h; simp [Op.eqElems]
            | succ rem ihr =>
              intro s r hs h
              simp only [allZ, Option.bind_eq_bind] at h
              rw [Option.bind_eq_some_iff] at h
              obtain ⟨b, hb, h⟩ := h
              rw [takeR_eq, takeR_eq] at hb
              have hle : s * z + z ≤ len * z := by rw [← Nat.succ_mul]; exact Nat.mul_le_mul_right _ (by omega)
              have o1 : okV k (.agg z ((xs.drop (s * z)).take z)) := okV_agg.2 ⟨by simp; omega, fun v hv => qx2 v (List.mem_of_mem_drop (List.mem_of_mem_take hv)), fun v hv => qx3 v (List.mem_of_mem_drop (List.mem_of_mem_take hv))⟩
              have o2 : okV k (.agg z ((ys.drop (s * z)).take z)) := okV_agg.2 ⟨by simp; omega, fun v hv => qy2 v (List.mem_of_mem_drop (List.mem_of_mem_take hv)), fun v hv => qy3 v (List.mem_of_mem_drop (List.mem_of_mem_take hv))⟩
              have he := ih hb o1 o2 D hD' w
              have p1 := run_part_agg (P := P) w hag hz' (cs := xs.map I.g) (off := s * z) (vs := ((xs.drop (s * z)).take z).map I.g) (by simp [cut, List.map_take, List.map_drop])
              have p2 := run_part_agg (P := P) w hag hz' (cs := ys.map I.g) (off := s * z) (vs := ((ys.drop (s * z)).take z).map I.g) (by simp [cut, List.map_take, List.map_drop])
              have he' : (Op.equalIn D e (.agg (((xs.drop (s * z)).take z).map I.g).toArray) (.agg (((ys.drop (s * z)).take z).map I.g).toArray)).run P w = .ok b w := by
                have := he
                simpa [gam, gams_eq] using this
              simp only [List.range'_succ, Op.eqElems, Sem.run_bind, p1, p2, Result.andThen_ok, he']
              cases b
              · simp only [Bool.false_eq_true, if_false, Option.some.injEq] at h; subst h; simp
              · simp only [if_true] at h
                rw [dropR_eq, dropR_eq, List.drop_drop, List.drop_drop] at h
                rw [show s * z + z = (s + 1) * z by rw [Nat.add_mul, Nat.one_mul]] at h
                simpa using ihr (s + 1) r (by omega) h
          have := key len 0 r (by omega) (by simpa using h)
          rwa [← List.range_eq_range'] at this
        · rename_i hA
          have hA' : isAggD de = false := by simpa using hA
          rw [hA'] at hag
          generalize List.range len = is at h
          induction is generalizing r with
          | nil => simp only [allO, Option.some.injEq] at h; subst h; simp [Op.eqElems]
          | cons i is ihl =>
            simp only [allO, Option.bind_eq_bind] at h
            rw [Option.bind_eq_some_iff] at h
            obtain ⟨b, hb, h⟩ := h
            rw [Option.bind_eq_some_iff] at hb
            obtain ⟨px, hpx, hb⟩ := hb
            rw [Option.bind_eq_some_iff] at hb
            obtain ⟨py, hpy, hb⟩ := hb
            rw [getR_eq] at hpx hpy
            have he := ih hb (qx3 _ (List.mem_of_getElem? hpx)) (qy3 _ (List.mem_of_getElem? hpy)) D hD' w
            have p1 := run_part_one (P := P) w hag (cs := xs.map I.g) (off := i * z) (v := I.g px) (by rw [List.getElem?_map, hpx]; rfl)
            have p2 := run_part_one (P := P) w hag (cs := ys.map I.g) (off := i * z) (v := I.g py) (by rw [List.getElem?_map, hpy]; rfl)
            simp only [Op.eqElems, Sem.run_bind, p1, p2, Result.andThen_ok, he]
            cases b
            · simp only [Bool.false_eq_true, if_false, Option.some.injEq] at h; subst h; simp
            · simp only [if_true] at h
              simpa using ihl h
    · cases h

theorem intBin_ok {q : BinOp} {kd : IntKind} {x y : Int} {v : AV} (h : intBin q kd x y = some v) : (match q with
    | .add | .sub | .mul => Op.intArith q kd x y
    | .quo | .rem => Op.intDiv q kd x y
    | .and | .or | .xor | .andNot => Op.intBits q kd x y
    | _ => Op.intCmp q x y : Sem Value).run P w = .ok (I.g v) w ∧ okV k v := by
  cases q <;> simp only [intBin] at h <;> try (cases h; done)
  all_goals first
    | (simp only [Option.some.injEq] at h; subst h; refine ⟨?_, trivial⟩; simp [Op.intArith, Op.intBits, Op.intCmp, gam, band, bor, bxor, bandn]; try rfl; done)
    | (split at h
       · cases h
       · rename_i hy
         simp only [Option.some.injEq] at h; subst h; refine ⟨?_, trivial⟩; simp [Op.intDiv, hy, gam])

theorem g_bool {q : BinOp} {t : Nat} {x y : Operand} {A B : Bool} : (eqGuard q t x y (.bool A) (.bool B)).run P w = .ok () w := by
  unfold eqGuard; cases q <;> simp
theorem g_int {q : BinOp} {t : Nat} {x y : Operand} {c d : IntKind} {A B : Int} : (eqGuard q t x y (.int c A) (.int d B)).run P w = .ok () w := by
  unfold eqGuard; cases q <;> simp
theorem g_str {q : BinOp} {t : Nat} {x y : Operand} {A B : ByteArray} : (eqGuard q t x y (.string A) (.string B)).run P w = .ok () w := by
  unfold eqGuard; cases q <;> simp
theorem g_slice {q : BinOp} {t : Nat} {x y : Operand} {A B : Option Addr} {c d e f : Nat} : (eqGuard q t x y (.slice A c d) (.slice B e f)).run P w = .ok () w := by
  unfold eqGuard; cases q <;> simp

theorem v_binOp (hg : GK I env lo k w g) (hF : FR I k n F a dd) {o : Oper} {q : BinOp} {t t' : Nat} {x y : Operand} {v : AV} (ho : o.op = .binOp q t x y t') (h : aval (tabOf P) g F o.op = some v) : Good P I k w a o v := by
  rw [ho] at h
  simp only [aval, Option.bind_eq_bind] at h
  rw [Option.bind_eq_some_iff] at h
  obtain ⟨u, hu, h⟩ := h
  rw [Option.bind_eq_some_iff] at h
  obtain ⟨u', hu', h⟩ := h
  obtain ⟨h1, h2⟩ := hF.eval hu
  obtain ⟨h3, h4⟩ := hF.eval hu'
  have fin : ∀ {r : Value}, (eqGuard q t x y (I.g u) (I.g u')).run P w = .ok () w → (binOp q t (I.g u) (I.g u')).run P w = .ok r w → (execOp a.eval o).run P w = .ok (.value r) w := by
    intro r e1 e2
    simp only [execOp, ho, h1, h3, Sem.run_bind, e1, Result.andThen_ok, e2, Sem.run_pure]
  cases u <;> cases u' <;> simp only [abin, Option.bind_eq_bind] at h <;> try (cases h; done)
  case b.b x y =>
    rw [show (I.g (AV.b x)) = .bool x from rfl, show (I.g (AV.b y)) = .bool y from rfl] at fin
    rw [Option.bind_eq_some_iff] at h
    obtain ⟨d, (hd : P.underlying t = some d), h⟩ := h
    split at h
    · simp only [Option.some.injEq] at h; subst h
      exact ⟨fin g_bool (by simp [binOp, Fw.run_equal_bool hd, gam]), trivial⟩
    · simp only [Option.some.injEq] at h; subst h
      exact ⟨fin g_bool (by simp [binOp, Fw.run_equal_bool hd, gam]), trivial⟩
    · cases h
  case i.i kd x kd' y =>
    rw [show (I.g (AV.i kd x)) = .int kd x from rfl, show (I.g (AV.i kd' y)) = .int kd' y from rfl] at fin
    split at h
    · split at h
      · cases h
      · rename_i hy
        simp only [Option.some.injEq] at h; subst h
        exact ⟨fin g_int (by simp [binOp, Op.shift, hy, shl, gam]), trivial⟩
    · split at h
      · cases h
      · rename_i hy
        simp only [Option.some.injEq] at h; subst h
        exact ⟨fin g_int (by simp [binOp, Op.shift, hy, shr, gam]), trivial⟩
    · rename_i hn1 hn2
      split at h
      · rename_i hk
        subst hk
        obtain ⟨e1, e2⟩ := intBin_ok (P := P) (I := I) (k := k) (w := w) h
        refine ⟨fin g_int ?_, e2⟩
        cases q <;> simp only [binOp, ne_eq, not_true_eq_false, if_false] <;> first | exact e1 | exact absurd rfl hn1 | exact absurd rfl hn2 | skip
      · cases h
  case s.s x y =>
    rw [show (I.g (AV.s x)) = .string ⟨x.toArray⟩ from rfl, show (I.g (AV.s y)) = .string ⟨y.toArray⟩ from rfl] at fin
    split at h
    · simp only [Option.some.injEq] at h; subst h
      refine ⟨fin g_str ?_, trivial⟩
      by_cases hxy : x = y <;> simp [binOp, Op.stringOp, gam, hxy]
    · simp only [Option.some.injEq] at h; subst h
      refine ⟨fin g_str ?_, trivial⟩
      by_cases hxy : x = y <;> simp [binOp, Op.stringOp, gam, hxy]
    · cases h
  case agg.agg m xs m' ys =>
    have g1 : I.g (.agg m xs) = .agg (xs.map I.g).toArray := by simp [gam, gams_eq]
    have g2 : I.g (.agg m' ys) = .agg (ys.map I.g).toArray := by simp [gam, gams_eq]
    split at h
    · split at h
      · cases h
      · rename_i hpl
        simp only [tabOf, Bool.not_eq_true', Bool.not_eq_false, Bool.and_eq_true] at hpl
        rw [Option.bind_eq_some_iff] at h
        obtain ⟨b, hb, h⟩ := h
        simp only [Option.some.injEq] at h; subst h
        have he := aeq_ok (I := I) 20 hb h2 h4 10000 (by omega) w
        rw [g1, g2] at fin he
        exact ⟨fin (run_eqGuard_agg w _ t x y _ _ hpl.1) (by rw [run_eql_struct, he]; rfl), trivial⟩
    · split at h
      · cases h
      · rename_i hpl
        simp only [tabOf, Bool.not_eq_true', Bool.not_eq_false, Bool.and_eq_true] at hpl
        rw [Option.bind_eq_some_iff] at h
        obtain ⟨b, hb, h⟩ := h
        simp only [Option.some.injEq] at h; subst h
        have he := aeq_ok (I := I) 20 hb h2 h4 10000 (by omega) w
        rw [g1, g2] at fin he
        exact ⟨fin (run_eqGuard_agg w _ t x y _ _ hpl.1) (by rw [run_neq_struct, he]; rfl), trivial⟩
    · cases h
  case nsl.nsl =>
    rw [show (I.g AV.nsl) = .slice none 0 0 from rfl] at fin
    rw [Option.bind_eq_some_iff] at h
    obtain ⟨d, (hd : P.underlying t = some d), h⟩ := h
    split at h
    · simp only [Option.some.injEq] at h; subst h
      refine ⟨fin g_slice ?_, trivial⟩
      simp only [binOp, Sem.run_bind, run_equal_slice_nil w t _ _ _ _ hd, Result.andThen_ok, Sem.run_pure]; rfl
    · cases h
  case sl.nsl m off len cap =>
    rw [show (I.g AV.nsl) = .slice none 0 0 from rfl, show I.g (.sl m off len cap) = .slice (some ⟨(I.sv m).blk, off, none⟩) len cap from rfl] at fin
    rw [Option.bind_eq_some_iff] at h
    obtain ⟨d, (hd : P.underlying t = some d), h⟩ := h
    split at h
    · simp only [Option.some.injEq] at h; subst h
      refine ⟨fin g_slice ?_, trivial⟩
      simp only [binOp, Sem.run_bind, run_equal_slice_nil w t _ _ _ _ hd, Result.andThen_ok, Sem.run_pure]; rfl
    · cases h
  case row.nsl m cuts =>
    rw [Option.bind_eq_some_iff] at h
    obtain ⟨d, (hd : P.underlying t = some d), h⟩ := h
    split at h
    · rename_i e e' z c l hm
      split at h
      · cases h
      · rename_i hc
        simp only [Option.some.injEq] at h; subst h
        have ho' : w.ownsRow lo e' z (I.sv m).v c (l.map I.g) := hg.holds m _ hm
        have hsome : ∃ ad, (I.sv m).a = some ad := by
          rcases ho'.2 with ⟨q1, q2⟩ | ⟨b, cap, cur, q1, _⟩
          · exact absurd q2 hc
          · cases hx : I.sv m; rw [hx] at q1; cases q1; exact ⟨_, rfl⟩
        have key : ∀ (cuts : List (Nat × Nat × Nat)) (s : SV), (∃ ad, s.a = some ad) → ∃ ad, (cuts.foldl (fun s c => s.cut c.1 c.2.1 c.2.2) s).a = some ad := by
          intro cuts
          induction cuts with
          | nil => intro s h; exact h
          | cons c cuts ih =>
            intro s ⟨ad, h⟩
            refine ih _ ?_
            simp only [SV.cut]
            split
            · exact ⟨ad, h⟩
            · exact ⟨_, by rw [h]; rfl⟩
        obtain ⟨ad, had⟩ := key cuts _ hsome
        have hrow : I.g (.row m cuts) = (cuts.foldl (fun s c => s.cut c.1 c.2.1 c.2.2) (I.sv m)).v := rfl
        rw [show (I.g AV.nsl) = .slice none 0 0 from rfl, hrow] at fin
        refine ⟨fin g_slice ?_, trivial⟩
        simp only [binOp, Sem.run_bind, run_equal_slice_nil w t _ _ _ _ hd, Result.andThen_ok, Sem.run_pure, had]; rfl
    · cases h
end
end Go.Ev
