/- Ground for this claim: The call of TraceDecodes returns true, and the bytes read as before. Condition: what is read is of bulk at most 1048576. -/
import Derived.Laws.MakeOwn
import Derived.Test.YtmgnkohlfbjjnaaGreatRTd4
section
namespace Go.Fx
open Go Go.Fw
set_option linter.unusedVariables false
set_option linter.unusedSimpArgs false
def mk {X : Type} (bytes : Nat) (z : X) (n : Int) : Option (List X) := if 0 ≤ n ∧ (bytes : Int) * n ≤ 281474976710656 ∧ n ≤ 4611686018427387904 then some (List.replicate n.toNat z) else none
theorem mk_some {X : Type} {bytes : Nat} {z : X} {n : Int} {l : List X} (h : mk bytes z n = some l) : (0 ≤ n ∧ (bytes : Int) * n ≤ 281474976710656 ∧ n ≤ 4611686018427387904) ∧ l = List.replicate n.toNat z := by
  unfold mk at h
  split at h
  · cases h; exact ⟨by assumption, rfl⟩
  · cases h
def cpy {X : Type} (l m : List X) : Option (List X) := if m.length ≤ l.length then some (m ++ l.drop m.length) else none
theorem cpy_some {X : Type} {l m r : List X} (h : cpy l m = some r) : m.length ≤ l.length ∧ r = m ++ l.drop m.length := by
  unfold cpy at h
  split at h
  · cases h; exact ⟨by assumption, rfl⟩
  · cases h
theorem encs_rep (n : Nat) : encs (List.replicate n (0 : UInt8)) = List.replicate n (.int .u8 0) := by
  induction n with
  | zero => rfl
  | succ n ih => rw [List.replicate_succ, encs_cons, ih]; rfl
theorem made_bytes (n : Nat) : (madeCells #[.int .u8 0] n).toList = List.replicate n (.int .u8 0) := by
  apply List.ext_getElem?
  intro i
  simp only [madeCells, Array.toList_map, Array.toList_range, List.getElem?_map, List.getElem?_range', List.getElem?_replicate]
  by_cases h : i < n
  · simp [h, Nat.mod_one]
  · simp [h]
section
variable {P : Program} {n : Nat} {F : List (Nat × Value)} {a : Act} {dd : List Deferred} {w : World} {o : Oper} {J : Value → World → Prop}
theorem w_makeB {x y : Operand} {t e bytes : Nat} {c : Int} {k k' : IntKind} {l : List UInt8} {i : TypeInfo} (hr : Fx.mk bytes (0 : UInt8) c = some l) (ht : P.underlying t = some (.slice e)) (hi : P.info? e = some i) (hz : i.zero = some (.int .u8 0))
    (hsize : i.size = 1) (hby : i.bytes = bytes) (hF : Fr n F a dd) (ho : o.op = .makeSlice t x y) (hx : ev F x = some (.int k c)) (hy : ev F y = some (.int k' c))
    (next : ∀ (s : SV) w', Added (rowL 0 s e l) w w' → J s.v w') : Yd P o a.eval w J := by
  subst hby
  obtain ⟨hb, rfl⟩ := mk_some hr
  have hrun := run_make (P := P) w t e i (.int .u8 0) ht hi hz k k' c c hb.1 (Int.le_refl _) hb.2.1 (by omega)
  have hA : Added (rowL 0 ⟨some ⟨w.heap.size, 0, none⟩, c.toNat, c.toNat⟩ e (List.replicate c.toNat (0 : UInt8))) w (w.alloc (.cells (madeCells (Value.int .u8 0).cells (c.toNat * i.size)) e)) := by
    have hm : (madeCells (Value.int .u8 0).cells (c.toNat * i.size)).toList = List.replicate c.toNat (.int .u8 0) := by rw [hsize, Nat.mul_one]; exact made_bytes _
    refine ⟨Keeps.alloc w _, ⟨by rw [encs_len], .inr ⟨w.heap.size, c.toNat, _, by simp [SV.v], Nat.zero_le _, heap_alloc_new w _, by simp, by simp only [maxLen]; omega, ?_, ?_⟩⟩, fun k hk => by simp [Res.fp, SV.v, Value.ownBlock] at hk; omega⟩
    · rw [size_madeCells, hsize]; rfl
    · rw [hm, encs_rep, List.length_replicate]
      exact List.take_of_length_le (by rw [List.length_replicate]; exact Nat.le_of_eq (Nat.mul_one _).symm)
  have h := next _ _ hA
  unfold Yd
  simp only [execOp, ho, hF.eval hx, hF.eval hy, Sem.run_bind, hrun, Result.andThen_ok, Sem.run_pure]
  exact h
theorem w_copyX {X : Type} [Enc X] {t dT e lo' : Nat} {s sx : SV} {l xs r : List X} {ti : TypeInfo} {x y : Operand} (hr : Fx.cpy l xs = some r) (ht : P.underlying dT = some (.slice e)) (hi : P.info? e = some ti) (hs1 : ti.size = 1) (hX : Enc.sz X = 1)
    (hF : Fr n F a dd) (ho : o.op = .call { callee := .builtin .copy, args := #[x, y], argTypes := #[dT, t] }) (hx : ev F x = some s.v) (hy : ev F y = some sx.v)
    (hown : Own 0 w e s l) (hsx : SliceOf lo' w sx xs)
    (next : ∀ w', Upd (rowL 0 s e l) (rowL 0 s e r) w w' → J (.int .i64 (xs.length : Nat)) w') : Yd P o a.eval w J := by
  obtain ⟨h1, rfl⟩ := cpy_some hr
  have hc : s.cut 0 l.length 1 = s := by
    have h0 : ∀ o : Option Addr, o.map (·.add (0 * 1)) = o := by intro o; cases o <;> simp [Addr.add]
    show (⟨if s.cap - 0 = 0 then s.a else s.a.map (·.add (0 * 1)), l.length - 0, s.cap - 0⟩ : SV) = s
    rw [h0, ite_self, Nat.sub_zero, Nat.sub_zero, ← hown.len]
  have hp : put l 0 xs = xs ++ l.drop xs.length := by simp [put]
  refine w_copyRow (ty := 0) (i := 0) (l := l) ht hi hs1 hX hF ho (by rw [hc]; exact hx) hy hown hsx (by omega) fun w' hU => next w' ?_
  rw [hp] at hU; exact hU
end
end Go.Fx
end
section
namespace Go.Proofs
open Go Go.Fw Go.Fx
set_option maxRecDepth 10000
set_option linter.unusedVariables false
set_option linter.unusedSimpArgs false
noncomputable def Sh.law00_behind (x0 : Int) : Option UInt8 :=
  (some (Fw.byteOf (IntKind.i64.wrap (151 + (IntKind.i64.wrap (7 * x0))))))
noncomputable def Sh.law00_Lender_Back_j3 (v392 : Int) (v403 : Bool) : Option (((Bool × Int) ⊕ (Bool ⊕ (Bool × QLender)))) :=
  (some (Sum.inl (v403, (IntKind.i64.wrap (v392 + 1)))))
noncomputable def Sh.law00_Lender_Back_l2 (x0 : QLender) (x1 : List UInt8) (v391 : Bool) (v392 : Int) : Option (((Bool × Int) ⊕ (Bool ⊕ (Bool × QLender)))) :=
  (bif (decide (v392 < (IntKind.i64.wrap ((x1.length : Int) + 70)))) then (Fx.seq (bif v391 then ((Fx.get x0.room (IntKind.i64.wrap ((x1.length : Int) + v392))).bind fun x405 => ((Sh.law00_behind v392).bind fun y407 => (some (Sum.inl (decide ((x405.toNat : Int) = (y407.toNat : Int))))))) else (some (Sum.inl false))) fun v403 => Sh.law00_Lender_Back_j3 v392 v403) else (some (Sum.inr (Sum.inl v391))))
noncomputable def Sh.law00_Lender_Back_l5 (x1 : List UInt8) (v495 : QLender) (v498 : Int) : Option (((QLender × Int) ⊕ (QLender ⊕ (Bool × QLender)))) :=
  (bif (decide (v498 < (x1.length : Int))) then ((Fx.get v495.room v498).bind fun x504 => ((Fx.get v495.room v498).bind fun x505 => (some (Sum.inl ((QLender.mk (v495.room.set (v498 : Int).toNat (Fw.byteOf (((BitVec.ofInt 8 (x504.toNat : Int) ^^^ BitVec.ofInt 8 90).toNat : Int))))), (IntKind.i64.wrap (v498 + 1))))))) else (some (Sum.inr (Sum.inl v495))))
noncomputable def Sh.law00_Lender_Back_j4 (v358 : Bool) (v472 : QLender) : Option ((Bool × QLender)) :=
  (some (v358, v472))
noncomputable def Sh.law00_Lender_Back_j1 (x0 : QLender) (x1 : List UInt8) (v358 : Bool) : Option ((Bool × QLender)) :=
  (Fx.seq (Fx.loop (fun (v495, v498) => Sh.law00_Lender_Back_l5 x1 v495 v498) (x0, 0)) fun v472 => Sh.law00_Lender_Back_j4 v358 v472)
noncomputable def Sh.law00_Lender_Back (x0 : QLender) (x1 : List UInt8) : Option ((Bool × QLender)) :=
  ((Fx.slc x0.room 0 (x1.length : Int)).bind fun x257 => ((Sh.law00_SameBytes x257 x1).bind fun y259 => (Fx.seq (Fx.loop (fun (v391, v392) => Sh.law00_Lender_Back_l2 x0 x1 v391 v392) (y259, 0)) fun v358 => Sh.law00_Lender_Back_j1 x0 x1 v358)))
noncomputable def Sh.law23_TraceDecodes_l4 (x0 : List UInt8) (v614 : QLender) (v617 : Int) : Option (((QLender × Int) ⊕ (QLender ⊕ ((List UInt8 × QLender) ⊕ Bool)))) :=
  (bif (decide (v617 < (IntKind.i64.wrap ((x0.length : Int) + 70)))) then ((Sh.law00_behind v617).bind fun y625 => ((Fx.get v614.room (IntKind.i64.wrap ((x0.length : Int) + v617))).bind fun x626 => (some (Sum.inl ((QLender.mk (v614.room.set ((IntKind.i64.wrap ((x0.length : Int) + v617)) : Int).toNat y625)), (IntKind.i64.wrap (v617 + 1))))))) else (some (Sum.inr (Sum.inl v614))))
noncomputable def Sh.law23_TraceDecodes_j3 (x0 : List UInt8) (v587 : QLender) : Option (((List UInt8 × QLender) ⊕ Bool)) :=
  ((Fx.slc v587.room 0 (x0.length : Int)).bind fun x628 => (some (Sum.inl (x628, v587))))
noncomputable def Sh.law23_TraceDecodes_j2 (x0 : List UInt8) (v502 : QLender) : Option (((List UInt8 × QLender) ⊕ Bool)) :=
  ((Fx.cpy v502.room x0).bind fun x510 => (Fx.seq (Fx.loop (fun (v614, v617) => Sh.law23_TraceDecodes_l4 x0 v614 v617) ((QLender.mk x510), 0)) fun v587 => Sh.law23_TraceDecodes_j3 x0 v587))
noncomputable def Sh.law23_TraceDecodes_j5 (v683 : QLender) (v686 : Bool) : Option Bool :=
  (some v686)
noncomputable def Sh.law23_TraceDecodes_c1 (x0 : List UInt8) (v490 : List UInt8) (v493 : QLender) : Option Bool :=
  ((Sh.trace_Decode v490).bind fun y630 => ((Sh.ref23_Decode x0).bind fun y645 => (Fx.seq (bif (decide (y630.2.2 = y645.2.2)) then (bif (decide (y630.2.1 = y645.2.1)) then ((Sh.law23_sameRecord y630.1 y645.1).bind fun y690 => (bif y690 then ((Sh.law00_Lender_Back v493 x0).bind fun y693 => (bif y693.1 then ((Sh.law23_sameRecord y630.1 y645.1).bind fun y698 => (some (Sum.inl (y693.2, y698)))) else (some (Sum.inl (y693.2, false))))) else (some (Sum.inl (v493, false))))) else (some (Sum.inl (v493, false)))) else (some (Sum.inl (v493, false)))) fun (v683, v686) => Sh.law23_TraceDecodes_j5 v683 v686)))
noncomputable def Sh.law23_TraceDecodes (x0 : List UInt8) : Option Bool :=
  ((Sh.law23_known).bind fun y355 => (bif (!y355) then (some false) else (Fx.seq (Fx.seq (bif (decide (0 < (IntKind.i64.wrap ((IntKind.i64.wrap (2 * (x0.length : Int))) + 70)))) then ((Fx.mk 1 (0 : UInt8) (IntKind.i64.wrap ((IntKind.i64.wrap (4 * (x0.length : Int))) + 200))).bind fun x506 => (some (Sum.inl (QLender.mk x506)))) else (some (Sum.inl (QLender.mk [])))) fun v502 => Sh.law23_TraceDecodes_j2 x0 v502) fun (v490, v493) => Sh.law23_TraceDecodes_c1 x0 v490 v493)))
end Go.Proofs
end
section
namespace Go.Sp
open Go Go.Fw Go.Fx
set_option linter.unusedVariables false
set_option linter.unusedSimpArgs false
theorem w64 {x : Int} (h : -9223372036854775808 ≤ x ∧ x ≤ 9223372036854775807) : IntKind.i64.wrap x = x := wrap64_id h
def lows : Nat → Int → List UInt8
  | 0, _ => []
  | n + 1, x => Fw.byteOf x :: lows n (x.fdiv 256)
theorem lows_len (n : Nat) (x : Int) : (lows n x).length = n := by
  induction n generalizing x with
  | zero => rfl
  | succ n ih => simp [lows, ih]
def num : List UInt8 → Nat
  | [] => 0
  | b :: l => b.toNat + 256 * num l
theorem num_lt (l : List UInt8) : num l < 256 ^ l.length := by
  induction l with
  | nil => simp [num]
  | cons b l ih =>
    simp only [num, List.length_cons, Nat.pow_succ]
    have := b.toNat_lt
    omega
theorem num_snoc (l : List UInt8) (b : UInt8) : num (l ++ [b]) = num l + 256 ^ l.length * b.toNat := by
  induction l with
  | nil => simp [num]
  | cons a l ih =>
    simp only [List.cons_append, num, ih, List.length_cons, Nat.pow_succ, Nat.mul_add]
    rw [Nat.mul_comm (256 ^ l.length) 256, Nat.mul_assoc]
    omega
theorem wrap_eq (x : Int) : ∃ k : Int, IntKind.i64.wrap x = x + 18446744073709551616 * k := by
  unfold IntKind.wrap
  simp only [IntKind.signed, IntKind.bits, Bool.true_and, decide_eq_true_eq]
  have h := Int.emod_add_mul_ediv x (2 ^ 64)
  split
  · exact ⟨-(x / 2 ^ 64) - 1, by omega⟩
  · exact ⟨-(x / 2 ^ 64), by omega⟩
theorem byteOf_mod (x y : Int) (h : x % 256 = y % 256) : Fw.byteOf x = Fw.byteOf y := by unfold Fw.byteOf; rw [h]
theorem lows_add (n : Nat) : ∀ (x k : Int), lows n (x + 256 ^ n * k) = lows n x := by
  induction n with
  | zero => intro x k; rfl
  | succ n ih =>
    intro x k
    have e : x + 256 ^ (n + 1) * k = x + 256 * (256 ^ n * k) := by rw [Int.pow_succ, Int.mul_comm (256 ^ n) 256, Int.mul_assoc]
    simp only [lows]
    rw [e]
    congr 1
    · exact byteOf_mod _ _ (by omega)
    · rw [Int.fdiv_eq_ediv_of_nonneg _ (by decide), Int.fdiv_eq_ediv_of_nonneg _ (by decide), Int.add_mul_ediv_left _ _ (by decide)]
      exact ih _ _
theorem byteOf_nat (b : UInt8) (k : Nat) : Fw.byteOf ((b.toNat + 256 * k : Nat) : Int) = b := by
  unfold Fw.byteOf
  have := b.toNat_lt
  have e : ((((b.toNat + 256 * k : Nat) : Int) % 256).toNat) = b.toNat := by omega
  rw [e]; exact UInt8.ofNat_toNat
theorem lows_num0 (l : List UInt8) : lows l.length (num l : Nat) = l := by
  induction l with
  | nil => rfl
  | cons b l ih =>
    simp only [List.length_cons, lows, num]
    congr 1
    · exact byteOf_nat b _
    · rw [Int.fdiv_eq_ediv_of_nonneg _ (by decide)]
      have := b.toNat_lt
      have e : (((b.toNat + 256 * num l : Nat) : Int) / 256) = (num l : Nat) := by omega
      rw [e]; exact ih
theorem lows_num (l : List UInt8) (h : l.length ≤ 8) : lows l.length (IntKind.i64.wrap (num l : Nat)) = l := by
  obtain ⟨k, hk⟩ := wrap_eq (num l : Nat)
  rw [hk]
  have e : (18446744073709551616 : Int) * k = 256 ^ l.length * (256 ^ (8 - l.length) * k) := by
    rw [← Int.mul_assoc, ← Int.pow_add]
    have : l.length + (8 - l.length) = 8 := by omega
    rw [this]; rfl
  rw [e, lows_add, lows_num0]
theorem ofInt_wrap (x : Int) : BitVec.ofInt 64 (IntKind.i64.wrap x) = BitVec.ofInt 64 x := by
  obtain ⟨k, hk⟩ := wrap_eq x
  rw [hk]
  apply BitVec.eq_of_toInt_eq
  simp only [BitVec.toInt_ofInt]
  rw [show (18446744073709551616 : Int) = ((2 ^ 64 : Nat) : Int) by rfl, Int.add_mul_bmod_self_left]
theorem bor_disj {N b m : Nat} (hN : N < 2 ^ m) (hb : 2 ^ m * b + N < 2 ^ 64) : bor .i64 (IntKind.i64.wrap (N : Nat)) (IntKind.i64.wrap ((2 ^ m * b : Nat) : Int)) = IntKind.i64.wrap ((N + 2 ^ m * b : Nat) : Int) := by
  have e0 : ∀ x y, bor .i64 x y = IntKind.i64.wrap ((BitVec.ofInt 64 x ||| BitVec.ofInt 64 y).toNat : Int) := fun _ _ => rfl
  rw [e0, ofInt_wrap, ofInt_wrap, BitVec.toNat_or, BitVec.ofInt_natCast, BitVec.ofInt_natCast, BitVec.toNat_ofNat, BitVec.toNat_ofNat, Nat.mod_eq_of_lt (by omega), Nat.mod_eq_of_lt (by omega), Nat.or_comm,
    ← Nat.two_pow_add_eq_or_of_lt hN, Nat.add_comm]
end Go.Sp
end
section
namespace Go.Sp
open Go Go.Fw Go.Fx Go.Proofs
set_option linter.unusedVariables false
set_option linter.unusedSimpArgs false
structure Wf (b : List UInt8) (r : QReader) : Prop where
  b_eq : r.b = b
  at0 : 0 ≤ r.at_
  at1 : r.at_ ≤ b.length
  p0 : 0 ≤ r.place
  p1 : r.place ≤ b.length
def Rd (b : List UInt8) (r r' : QReader) (enc : List UInt8) (good : Prop) : Prop :=
  Wf b r' ∧ (r'.e = 0 → r.e = 0 ∧ good ∧ b.drop r.at_.toNat = enc ++ b.drop r'.at_.toNat)
section
variable {b : List UInt8} {r r1 r2 : QReader}
theorem Rd.trans {e1 e2 : List UInt8} {g1 g2 : Prop} (h : Rd b r r1 e1 g1) (k : Rd b r1 r2 e2 g2) : Rd b r r2 (e1 ++ e2) (g1 ∧ g2) :=
  ⟨k.1, fun he => by
    obtain ⟨h1, h2, h3⟩ := k.2 he
    obtain ⟨h4, h5, h6⟩ := h.2 h1
    exact ⟨h4, ⟨h5, h2⟩, by rw [h6, h3, List.append_assoc]⟩⟩
theorem Rd.refl (h : Wf b r) : Rd b r r [] True := ⟨h, fun he => ⟨he, trivial, rfl⟩⟩
theorem Rd.imp {e e' : List UInt8} {g g' : Prop} (h : Rd b r r1 e g) (k : g → e = e' ∧ g') : Rd b r r1 e' g' :=
  ⟨h.1, fun he => by obtain ⟨h1, h2, h3⟩ := h.2 he; obtain ⟨h4, h5⟩ := k h2; subst h4; exact ⟨h1, h5, h3⟩⟩
theorem Rd.bad (h : Wf b r1) (he : r1.e ≠ 0) {e : List UInt8} {g : Prop} : Rd b r r1 e g := ⟨h, fun k => absurd k he⟩
theorem fault_ok (hw : Wf b r) {p e : Int} (hp : r.e = 0 → 0 ≤ p ∧ p ≤ b.length) (he : e ≠ 0) : ∃ r', Sh.trace_reader_fault r p e = some r' ∧ Wf b r' ∧ r'.e ≠ 0 ∧ r'.at_ = r.at_ := by
  unfold Sh.trace_reader_fault
  by_cases h : r.e = 0
  · exact ⟨QReader.mk r.b r.at_ p e, by simp [h], ⟨hw.b_eq, hw.at0, hw.at1, (hp h).1, (hp h).2⟩, he, rfl⟩
  · exact ⟨r, by simp [h], hw, h, rfl⟩
theorem take_ok (hb : b.length ≤ 16777216) (hw : Wf b r) {n : Int} (hn : 0 ≤ n ∧ n ≤ 4294967296) : ∃ x r', Sh.trace_reader_take r n = some (x, r') ∧ Rd b r r' x ((x.length : Int) = n) ∧ (x.length : Int) ≤ n := by
  obtain ⟨h1, h2, h3, h4, h5⟩ := hw
  unfold Sh.trace_reader_take
  have e1 : IntKind.i64.wrap ((r.b.length : Int) - r.at_) = (b.length : Int) - r.at_ := by rw [h1]; exact w64 (by omega)
  rw [e1]
  by_cases hlt : (b.length : Int) - r.at_ < n
  · obtain ⟨r', hf, hw', he, _⟩ := fault_ok (b := b) (r := r) (p := (r.b.length : Int)) (e := 236) ⟨h1, h2, h3, h4, h5⟩ (fun _ => by rw [h1]; omega) (by decide)
    refine ⟨[], r', ?_, Rd.bad hw' he, by simp; omega⟩
    simp [hlt, hf, Fx.seq, Fx.fin, Sh.trace_reader_take_j1, he]
  · simp only [hlt, decide_false, cond_false, Fx.seq, Fx.fin, Sh.trace_reader_take_j1]
    by_cases he : r.e = 0
    · have e2 : IntKind.i64.wrap (r.at_ + n) = r.at_ + n := w64 (by omega)
      have e3 : IntKind.i64.wrap (r.at_ + n - n) = r.at_ := by rw [w64 (by omega)]; omega
      simp only [he, decide_true, Bool.not_true, cond_false, e2, e3, Fx.slc]
      rw [if_pos (by rw [h1]; omega)]
      refine ⟨_, _, rfl, ⟨⟨h1, by simp; omega, by simp; omega, h4, h5⟩, fun _ => ⟨he, ?_, ?_⟩⟩, ?_⟩
      · rw [h1]; simp; omega
      · rw [h1]
        have e4 : (r.at_ + n).toNat = r.at_.toNat + ((r.at_ + n).toNat - r.at_.toNat) := by omega
        generalize (r.at_ + n).toNat - r.at_.toNat = m at e4 ⊢
        show _ = _ ++ List.drop (r.at_ + n).toNat b
        rw [e4, ← List.drop_drop, List.take_append_drop]
      · rw [h1]; simp; omega
    · exact ⟨[], r, by simp [he], Rd.bad ⟨h1, h2, h3, h4, h5⟩ he, by simp; omega⟩
theorem number_loop (y : List UInt8 × QReader) (hl : y.1.length ≤ 8) : ∀ (m k : Nat), m + k = y.1.length →
    Fx.loop (fun (v : Int × Int) => match v with | (v1, v2) => Sh.trace_reader_number_l2 y v1 v2) ((k : Int), IntKind.i64.wrap (num (y.1.take k) : Nat)) = some (Sum.inl (y.2, IntKind.i64.wrap (num y.1 : Nat))) := by
  intro m
  induction m with
  | zero =>
    intro k hk
    rw [Fx.loop_eq]
    have h : ¬ ((k : Int) < (y.1.length : Int)) := by omega
    simp [Sh.trace_reader_number_l2, h, List.take_of_length_le (show y.1.length ≤ k by omega)]
  | succ m ih =>
    intro k hk
    rw [Fx.loop_eq]
    have h : ((k : Int) < (y.1.length : Int)) := by omega
    have hkl : k < y.1.length := by omega
    have e1 : IntKind.i64.wrap (8 * (k : Int)) = 8 * (k : Int) := w64 (by omega)
    have e2 : IntKind.i64.wrap ((k : Int) + 1) = ((k + 1 : Nat) : Int) := by rw [w64 (by omega)]; rfl
    have hg : Fx.get y.1 (k : Int) = some y.1[k] := by simp [Fx.get, List.getElem?_eq_getElem hkl]
    have e3 : (8 * (k : Int)).toNat = 8 * k := by omega
    have e4 : shl .i64 (y.1[k].toNat : Int) (8 * k) = IntKind.i64.wrap ((2 ^ (8 * k) * y.1[k].toNat : Nat) : Int) := by
      unfold shl
      rw [Nat.min_eq_left (by simp [IntKind.bits]; omega), Int.mul_comm]
      congr 1
    have hN := num_lt (y.1.take k)
    rw [List.length_take, Nat.min_eq_left (by omega)] at hN
    have e256 : (256 : Nat) ^ k = 2 ^ (8 * k) := by rw [Nat.pow_mul]
    have hb := y.1[k].toNat_lt
    have hb2 : 2 ^ (8 * k) * y.1[k].toNat + num (y.1.take k) < 2 ^ 64 := by
      have h1 : 2 ^ (8 * k) * y.1[k].toNat ≤ 2 ^ (8 * k) * 255 := Nat.mul_le_mul_left _ (by omega)
      have h2 : 2 ^ (8 * k) * 256 ≤ 2 ^ 64 := by
        rw [show (256 : Nat) = 2 ^ 8 by rfl, ← Nat.pow_add]; exact Nat.pow_le_pow_right (by decide) (by omega)
      rw [← e256] at h1 h2 ⊢
      omega
    have e5 : num (y.1.take (k + 1)) = num (y.1.take k) + 2 ^ (8 * k) * y.1[k].toNat := by
      rw [List.take_add_one, List.getElem?_eq_getElem hkl, Option.toList_some, num_snoc, List.length_take, Nat.min_eq_left (by omega), e256]
    have := ih (k + 1) (by omega)
    simp only [Sh.trace_reader_number_l2, h, decide_true, cond_true, hg, Option.bind_some, e1, e2, Fx.must, show (0 ≤ 8 * (k : Int)) by omega, e3, e4, bor_disj (by rw [← e256]; exact hN) hb2]
    rw [← e5]
    exact this
theorem number_ok (hb : b.length ≤ 16777216) (hw : Wf b r) {n : Nat} (hn : n ≤ 8) : ∃ v r', Sh.trace_reader_number r (n : Nat) = some (v, r') ∧ Rd b r r' (lows n v) True ∧ (n ≤ 4 → 0 ≤ v ∧ v < 256 ^ n) := by
  obtain ⟨x, r', ht, hR, hx⟩ := take_ok hb hw (n := (n : Nat)) (by omega)
  have hxl : x.length ≤ 8 := by omega
  have hl := number_loop (x, r') hxl x.length 0 (by simp)
  refine ⟨IntKind.i64.wrap (num x : Nat), r', ?_, hR.imp fun g => ⟨?_, trivial⟩, fun h4 => ?_⟩
  · unfold Sh.trace_reader_number
    have e0 : IntKind.i64.wrap ((num (x.take 0) : Nat) : Int) = 0 := by simp [num]; rfl
    rw [e0] at hl
    simp only [ht, Option.bind_some]
    have : ((0 : Nat) : Int) = 0 := rfl
    rw [this] at hl
    rw [hl]
    rfl
  · have hxn : x.length = n := by omega
    have := lows_num x hxl
    rw [hxn] at this; exact this.symm
  · have h1 := num_lt x
    have h2 : (256 : Nat) ^ x.length ≤ 256 ^ n := Nat.pow_le_pow_right (by decide) (by omega)
    have h3 : (256 : Nat) ^ n ≤ 256 ^ 4 := Nat.pow_le_pow_right (by decide) h4
    have h3' : (256 : Nat) ^ 4 = 4294967296 := rfl
    rw [w64 (by omega)]
    refine ⟨by omega, ?_⟩
    have : ((256 : Int) ^ n) = ((256 ^ n : Nat) : Int) := by simp
    rw [this]; omega
end
end Go.Sp
end
section
namespace Go.Sp
open Go Go.Fw Go.Fx
set_option linter.unusedVariables false
set_option linter.unusedSimpArgs false
section
variable {σ γ X : Type} {body : σ → Option (σ ⊕ γ)}
theorem loop_go {s s' : σ} {o : Option γ} (h : body s = some (.inl s')) (k : loop body s' = o) : loop body s = o := by rw [loop_eq, h]; exact k
theorem loop_out {s : σ} {g : γ} (h : body s = some (.inr g)) : loop body s = some g := by rw [loop_eq, h]
theorem count_rule {α : Type} (n : Nat) (st : Nat → α → σ) (I : Nat → α → Prop) (Q : γ → Prop)
    (h : ∀ i a, i < n → I i a → (∃ a', body (st i a) = some (.inl (st (i + 1) a')) ∧ I (i + 1) a') ∨ ∃ g, body (st i a) = some (.inr g) ∧ Q g)
    (h' : ∀ a, I n a → ∃ g, body (st n a) = some (.inr g) ∧ Q g) : ∀ m i a, m + i = n → I i a → ∃ g, loop body (st i a) = some g ∧ Q g := by
  intro m
  induction m with
  | zero =>
    intro i a e hI
    obtain rfl : i = n := by omega
    obtain ⟨g, hg, hq⟩ := h' a hI
    exact ⟨g, loop_out hg, hq⟩
  | succ m ih =>
    intro i a e hI
    rcases h i a (by omega) hI with ⟨a', hb, hI'⟩ | ⟨g, hg, hq⟩
    · obtain ⟨g, hg, hq⟩ := ih (i + 1) a' (by omega) hI'
      exact ⟨g, loop_go hb hg, hq⟩
    · exact ⟨g, loop_out hg, hq⟩
end
theorem seq_l {τ γ : Type} {x : τ} {k : τ → Option γ} : Fx.seq (some (Sum.inl x)) k = k x := rfl
theorem seq_r {τ γ : Type} {x : γ} {k : τ → Option γ} : Fx.seq (some (Sum.inr x)) k = some x := rfl
theorem seq_eq {τ γ : Type} {t : Option (τ ⊕ γ)} {o : τ ⊕ γ} {k : τ → Option γ} {u : Option γ} (h : t = some o) (h' : Fx.fin k o = u) : Fx.seq t k = u := by rw [h]; exact h'
theorem next64 {i n : Nat} (h : i < n) (hn : n ≤ 4611686018427387904) : IntKind.i64.wrap ((i : Int) + 1) = ((i + 1 : Nat) : Int) := by rw [w64 (by omega)]; rfl
theorem get_at {X : Type} {l : List X} {i : Nat} (h : i < l.length) : Fx.get l (i : Int) = some l[i] := by simp [Fx.get, List.getElem?_eq_getElem h]
theorem lt_dec {i n : Nat} : decide ((i : Int) < (n : Int)) = decide (i < n) := by simp
theorem app_ok {X : Type} {bytes : Nat} {l m : List X} (h : (l.length + m.length) * bytes ≤ 140737488355328) (k : l.length + m.length ≤ 4611686018427387904) : Fx.app bytes l m = some (l ++ m) := if_pos ⟨h, k⟩
end Go.Sp
end
section
namespace Go.Sp
open Go Go.Fw Go.Fx Go.Proofs
set_option linter.unusedVariables false
set_option linter.unusedSimpArgs false
def encRest (v : LVal) : List UInt8 := (if v.kind = 5 then [Fw.byteOf v.table, Fw.byteOf v.row] else []) ++ (if v.kind = 0 then [] else lows 8 v.x)
def encVal (v : LVal) : List UInt8 := Fw.byteOf v.kind :: encRest v
def GoodV (v : LVal) : Prop := (v.kind = 5 ∧ (0 ≤ v.table ∧ v.table ≤ 7) ∧ 0 ≤ v.row ∧ v.row ≤ 63) ∨ v = LVal.zero ∨ ((1 ≤ v.kind ∧ v.kind ≤ 4) ∧ v.table = 0 ∧ v.row = 0)
section
variable {b : List UInt8} {r r1 r2 : QReader}
theorem Rd.at_ {e : List UInt8} {g : Prop} (hw : Wf b r) (h : Rd b r r1 e g) (he : r1.e = 0) : r1.at_ = r.at_ + e.length := by
  have h1 := congrArg List.length (h.2 he).2.2
  simp only [List.length_append, List.length_drop] at h1
  have := hw.at1; have := h.1.at1; have := hw.at0; have := h.1.at0
  omega
theorem byte_ok (hb : b.length ≤ 16777216) (hw : Wf b r) : ∃ v r', Sh.trace_reader_number r 1 = some (v, r') ∧ Rd b r r' [Fw.byteOf v] True ∧ 0 ≤ v ∧ v < 256 := by
  obtain ⟨v, r', h1, h2, h3⟩ := number_ok hb hw (n := 1) (by omega)
  exact ⟨v, r', h1, h2, h3 (by omega)⟩
theorem two_ok (hb : b.length ≤ 16777216) (hw : Wf b r) : ∃ v r', Sh.trace_reader_number r 2 = some (v, r') ∧ Rd b r r' (lows 2 v) True ∧ 0 ≤ v ∧ v < 65536 := by
  obtain ⟨v, r', h1, h2, h3⟩ := number_ok hb hw (n := 2) (by omega)
  exact ⟨v, r', h1, h2, h3 (by omega)⟩
theorem four_ok (hb : b.length ≤ 16777216) (hw : Wf b r) : ∃ v r', Sh.trace_reader_number r 4 = some (v, r') ∧ Rd b r r' (lows 4 v) True ∧ 0 ≤ v ∧ v < 4294967296 := by
  obtain ⟨v, r', h1, h2, h3⟩ := number_ok hb hw (n := 4) (by omega)
  exact ⟨v, r', h1, h2, h3 (by omega)⟩
theorem eight_ok (hb : b.length ≤ 16777216) (hw : Wf b r) : ∃ v r', Sh.trace_reader_number r 8 = some (v, r') ∧ Rd b r r' (lows 8 v) True := by
  obtain ⟨v, r', h1, h2, h3⟩ := number_ok hb hw (n := 8) (by omega)
  exact ⟨v, r', h1, h2⟩
theorem back_ok (hb : b.length ≤ 16777216) (hw : Wf b r) {v : Int} (h : Rd b r r1 [Fw.byteOf v] True) : ∃ r', Sh.trace_reader_fault r1 (IntKind.i64.wrap (r1.at_ - 1)) 236 = some r' ∧ Wf b r' ∧ r'.e ≠ 0 := by
  have h0 := h.1.at0; have h1 := h.1.at1
  obtain ⟨r2, h2, h3, h4, _⟩ := fault_ok h.1 (p := IntKind.i64.wrap (r1.at_ - 1)) (e := 236) (fun he => by
    have := Rd.at_ hw h he
    simp only [List.length_singleton] at this
    have := hw.at0
    rw [w64 (by omega)]
    omega) (by decide)
  exact ⟨r2, h2, h3, h4⟩
theorem most_ok (hb : b.length ≤ 16777216) (hw : Wf b r) {n : Int} (hn : 0 ≤ n) : ∃ v r', Sh.trace_reader_most r n = some (v, r') ∧ Rd b r r' [Fw.byteOf v] True ∧ 0 ≤ v ∧ v ≤ n := by
  obtain ⟨v, r1, h1, h2, h3⟩ := byte_ok hb hw
  by_cases h : n < v
  · obtain ⟨r2, h4, h5, h6⟩ := back_ok hb hw h2
    exact ⟨0, r2, by simp [Sh.trace_reader_most, h1, h, h4], Rd.bad h5 h6, by omega, by omega⟩
  · exact ⟨v, r1, by simp [Sh.trace_reader_most, h1, h], h2, by omega, by omega⟩
theorem rest_ok (hb : b.length ≤ 16777216) (hw : Wf b r) {k : Int} (hk : 0 ≤ k ∧ k ≤ 5) : ∃ v r', Sh.trace_reader_rest r k = some (v, r') ∧ Rd b r r' (encRest v) (GoodV v) ∧ v.kind = k := by
  by_cases h5 : k = 5
  · subst h5
    obtain ⟨t, r1, a1, a2, a3, a4⟩ := most_ok hb hw (n := 7) (by omega)
    obtain ⟨q, r2, b1, b2, b3, b4⟩ := most_ok hb a2.1 (n := 63) (by omega)
    obtain ⟨x, r3, c1, c2⟩ := eight_ok hb b2.1
    exact ⟨LVal.mk 5 t q x, r3, by simp [Sh.trace_reader_rest, Sh.trace_reader_rest_j1, Sh.trace_reader_rest_j2, a1, b1, c1, Fx.seq, Fx.fin],
      ((a2.trans b2).trans c2).imp fun _ => ⟨by simp [encRest], .inl ⟨rfl, ⟨a3, a4⟩, b3, b4⟩⟩, rfl⟩
  · by_cases h0 : k = 0
    · subst h0
      exact ⟨LVal.mk 0 0 0 0, r, by simp [Sh.trace_reader_rest, Sh.trace_reader_rest_j1, Sh.trace_reader_rest_j2, Fx.seq, Fx.fin],
        (Rd.refl hw).imp fun _ => ⟨by simp [encRest], .inr (.inl rfl)⟩, rfl⟩
    · obtain ⟨x, r3, c1, c2⟩ := eight_ok hb hw
      exact ⟨LVal.mk k 0 0 x, r3, by simp [Sh.trace_reader_rest, Sh.trace_reader_rest_j1, Sh.trace_reader_rest_j2, c1, h5, h0, Fx.seq, Fx.fin],
        c2.imp fun _ => ⟨by simp [encRest, h5, h0], .inr (.inr ⟨⟨by simp; omega, by simp; omega⟩, rfl, rfl⟩)⟩, rfl⟩
theorem value_ok (hb : b.length ≤ 16777216) (hw : Wf b r) : ∃ v r', Sh.trace_reader_value r = some (v, r') ∧ Rd b r r' (encVal v) (GoodV v) := by
  obtain ⟨k, r1, a1, a2, a3, a4⟩ := most_ok hb hw (n := 5) (by omega)
  obtain ⟨v, r2, b1, b2, b3⟩ := rest_ok hb a2.1 ⟨a3, a4⟩
  exact ⟨v, r2, by simp [Sh.trace_reader_value, a1, b1], (a2.trans b2).imp fun g => ⟨by simp [encVal, b3], g.2⟩⟩
def bit (m : Int) (i : Nat) : Bool := decide (band .i64 (shr .i64 m i) 1 = 1)
def encBytes (l : List UInt8) (m : Int) : Nat → Nat → List UInt8
  | _, 0 => []
  | i, n + 1 => (if bit m i then [l.getD i 0] else []) ++ encBytes l m (i + 1) n
theorem encBytes_snoc (l : List UInt8) (m : Int) (n : Nat) : ∀ i, encBytes l m i (n + 1) = encBytes l m i n ++ (if bit m (i + n) then [l.getD (i + n) 0] else []) := by
  induction n with
  | zero => intro i; simp [encBytes]
  | succ n ih => intro i; rw [encBytes, ih, encBytes, List.append_assoc, show i + 1 + n = i + (n + 1) by omega]
theorem encBytes_set (l : List UInt8) (m : Int) (n : Nat) : ∀ i j x, i + n ≤ j → encBytes (l.set j x) m i n = encBytes l m i n := by
  induction n with
  | zero => intro i j x h; rfl
  | succ n ih =>
    intro i j x h
    rw [encBytes, encBytes, ih _ _ _ (by omega)]
    have : (l.set j x).getD i 0 = l.getD i 0 := by simp [List.getD, List.getElem?_set, show ¬ j = i by omega]
    rw [this]
def encSlot (s : LSlot) : List UInt8 := if s.ptr.kind = 0 then 0 :: Fw.byteOf s.mask :: encBytes s.bytes.l s.mask 0 8 else encVal s.ptr
def GoodS (s : LSlot) : Prop := (s.ptr = LVal.zero ∧ (0 ≤ s.mask ∧ s.mask < 256) ∧ ∀ i, i < 8 → bit s.mask i = false → s.bytes.l.getD i 0 = 0) ∨
  (s.ptr.kind ≠ 0 ∧ s.ptr.kind ≠ 1 ∧ GoodV s.ptr ∧ s = LSlot.mk s.ptr ⟨List.replicate 8 0, rfl⟩ 0)
theorem slot_loop (hb : b.length ≤ 16777216) (r0 : QReader) (m : Int) : ∀ (n i : Nat), n + i = 8 → ∀ (v : Vec UInt8 8) (r : QReader), Wf b r →
    Rd b r0 r (encBytes v.l m 0 i) True → (∀ j, j < 8 → (i ≤ j ∨ bit m j = false) → v.l.getD j 0 = 0) →
    ∃ v' r', Fx.loop (fun (x : LSlot × QReader × Int) => match x with | (v1, v2, v3) => Sh.trace_reader_slot_l2 v1 v2 v3) (LSlot.mk LVal.zero v m, r, (i : Int)) = some (Sum.inl (LSlot.mk LVal.zero v' m, r')) ∧
      Rd b r0 r' (encBytes v'.l m 0 8) True ∧ (∀ j, j < 8 → bit m j = false → v'.l.getD j 0 = 0) := by
  intro n
  induction n with
  | zero =>
    intro i hi v r hw hR hz
    obtain rfl : i = 8 := by omega
    exact ⟨v, r, loop_out (by simp [Sh.trace_reader_slot_l2]), hR, fun j hj h => hz j hj (.inr h)⟩
  | succ n ih =>
    intro i hi v r hw hR hz
    have hlt : (i : Int) < 8 := by omega
    have e1 : IntKind.i64.wrap ((i : Int) + 1) = ((i + 1 : Nat) : Int) := next64 (n := 8) (by omega) (by omega)
    by_cases hbit : bit m i = true
    · obtain ⟨x, r1, a1, a2, a3⟩ := byte_ok hb hw
      have hvl := v.len
      have hR' : Rd b r0 r1 (encBytes (v.set i (Fw.byteOf x)).l m 0 (i + 1)) True := (hR.trans a2).imp fun _ => ⟨by
        rw [encBytes_snoc, Vec.set, encBytes_set _ _ _ _ _ _ (by omega)]
        simp [hbit, List.getD, List.getElem?_set, hvl, show i < 8 by omega], trivial⟩
      obtain ⟨v', r', c1, c2⟩ := ih (i + 1) (by omega) (v.set i (Fw.byteOf x)) r1 a2.1 hR' (fun j hj h => by
        have hij : i ≠ j := by rintro rfl; rcases h with h | h; omega; rw [h] at hbit; cases hbit
        have := hz j hj (h.imp (fun h => by omega) id)
        simpa [Vec.set, List.getD, List.getElem?_set, hij] using this)
      refine ⟨v', r', loop_go ?_ c1, c2⟩
      have hb1 : band .i64 (shr .i64 m i) 1 = 1 := by simpa [bit] using hbit
      have hg : Fx.get v.l (i : Int) = some (v.l[i]'(by omega)) := get_at (by omega)
      simp [Sh.trace_reader_slot_l2, Sh.trace_reader_slot_j3, hlt, Fx.must, hb1, a1, hg, Fx.seq, Fx.fin, e1]
    · have hR' : Rd b r0 r (encBytes v.l m 0 (i + 1)) True := hR.imp fun _ => ⟨by rw [encBytes_snoc]; simp [hbit], trivial⟩
      obtain ⟨v', r', c1, c2⟩ := ih (i + 1) (by omega) v r hw hR' (fun j hj h => hz j hj (by
        rcases h with h | h
        · exact .inl (by omega)
        · exact .inr h))
      refine ⟨v', r', loop_go ?_ c1, c2⟩
      have hb1 : ¬ band .i64 (shr .i64 m i) 1 = 1 := by simpa [bit] using hbit
      simp [Sh.trace_reader_slot_l2, Sh.trace_reader_slot_j3, hlt, Fx.must, hb1, Fx.seq, Fx.fin, e1]
theorem zr8 : ∀ j, j < 8 → (List.replicate 8 (0 : UInt8)).getD j 0 = 0 := by decide
theorem slot_ok (hb : b.length ≤ 16777216) (hw : Wf b r) : ∃ s r', Sh.trace_reader_slot r = some (s, r') ∧ Rd b r r' (encSlot s) (GoodS s) := by
  obtain ⟨k, r1, a1, a2, a3, a4⟩ := most_ok hb hw (n := 5) (by omega)
  by_cases h0 : k = 0
  · subst h0
    obtain ⟨m, r2, b1, b2, b3, b4⟩ := byte_ok hb a2.1
    obtain ⟨v', r', c1, c2, c3⟩ := slot_loop hb r2 m 8 0 rfl ⟨List.replicate 8 0, rfl⟩ r2 b2.1 (Rd.refl b2.1) (fun j hj _ => zr8 j hj)
    refine ⟨LSlot.mk LVal.zero v' m, r', ?_, ((a2.trans b2).trans c2).imp fun g => ⟨?_, .inl ⟨rfl, ⟨b3, b4⟩, c3⟩⟩⟩
    · simp only [Sh.trace_reader_slot, a1, b1, Option.bind_some, decide_true, cond_true]
      exact (congrArg (fun t => Fx.seq t _) c1).trans rfl
    · simp [encSlot, LVal.zero]; rfl
  · by_cases h1 : k = 1
    · subst h1
      obtain ⟨r2, b1, b2, b3⟩ := back_ok hb hw a2
      exact ⟨LSlot.zero, r2, by simp [Sh.trace_reader_slot, a1, b1], Rd.bad b2 b3⟩
    · obtain ⟨v, r2, b1, b2, b3⟩ := rest_ok hb a2.1 ⟨a3, a4⟩
      exact ⟨LSlot.mk v ⟨List.replicate 8 0, rfl⟩ 0, r2, by simp [Sh.trace_reader_slot, a1, b1, h0, h1], (a2.trans b2).imp fun g => ⟨by simp [encSlot, b3, h0, encVal], .inr ⟨by simpa [b3] using h0, by simpa [b3] using h1, g.2, rfl⟩⟩⟩
end
end Go.Sp
end
section
namespace Go.Sp
open Go Go.Fw Go.Fx Go.Proofs
set_option linter.unusedVariables false
set_option linter.unusedSimpArgs false
theorem within_eq (x lo hi : Int) : Sh.trace_within x lo hi = some (decide (lo ≤ x ∧ x ≤ hi)) := by
  unfold Sh.trace_within
  by_cases h : lo ≤ x <;> simp [h, Fx.seq, Fx.fin, Sh.trace_within_j1]
theorem changed_byte_ok {x y : List UInt8} (h : y.length = x.length) (hx : x.length ≤ 1099511627776) : ∃ l, Sh.trace_changed_byte x y = some l ∧ l.length ≤ x.length := by
  unfold Sh.trace_changed_byte
  obtain ⟨g, h1, l, h2, h3⟩ := count_rule (body := fun (v : List Int × Int) => match v with | (v1, v2) => Sh.trace_changed_byte_l2 x y v1 v2) x.length (fun i (a : List Int) => (a, (i : Int))) (fun i a => a.length ≤ i) (fun g => ∃ l, g = Sum.inl l ∧ l.length ≤ x.length)
    (fun i a hi ha => .inl (by
      by_cases hc : ((x[i]).toNat : Int) = ((y[i]'(by omega)).toNat : Int)
      · exact ⟨a, by simp [Sh.trace_changed_byte_l2, Sh.trace_changed_byte_j3, hi, get_at hi, get_at (show i < y.length by omega), hc, Fx.seq, Fx.fin, next64 hi (by omega)], by omega⟩
      · exact ⟨a ++ [(i : Int)], by simp [Sh.trace_changed_byte_l2, Sh.trace_changed_byte_j3, hi, get_at hi, get_at (show i < y.length by omega), hc, Fx.seq, Fx.fin, next64 hi (by omega), app_ok (bytes := 8) (l := a) (m := [(i : Int)]) (by simp; omega) (by simp; omega)], by simp; omega⟩))
    (fun a ha => ⟨Sum.inl a, by simp [Sh.trace_changed_byte_l2], a, rfl, ha⟩) x.length 0 [] (by omega) (by simp)
  subst h2
  exact ⟨l, (congrArg (fun t => Fx.seq t _) h1).trans rfl, h3⟩
theorem plainPieces_ok {ps : List QPiece} (hn : ps.length ≤ 1099511627776) : ∃ t, Sh.trace_plainPieces ps = some t := by
  unfold Sh.trace_plainPieces
  obtain ⟨g, h1, h2⟩ := count_rule (body := fun (v : Int × Int × Int) => match v with | (v1, v2, v3) => Sh.trace_plainPieces_l2 ps v1 v2 v3) ps.length (fun i (a : Int × Int) => ((i : Int), a.1, a.2)) (fun i a => True) (fun g => ∃ t, Fx.fin (fun _ => Sh.trace_plainPieces_j1) g = some t)
    (fun i a hi _ => by
      obtain ⟨t, f⟩ := a
      generalize hp : ps[i] = p
      have key : ∀ t f, (∃ a', Sh.trace_plainPieces_j3 (i : Int) p t f = some (Sum.inl (((i + 1 : Nat) : Int), a'))) ∨ Sh.trace_plainPieces_j3 (i : Int) p t f = some (Sum.inr (Sum.inr false)) := by
        intro t f
        unfold Sh.trace_plainPieces_j3
        by_cases c1 : (p.old.length : Int) = 0
        · right; simp [c1, Fx.seq, Fx.fin, Sh.trace_plainPieces_j4]
        by_cases c2 : (p.new.length : Int) = (p.old.length : Int)
        · by_cases c3 : 65535 < (p.old.length : Int)
          · right; simp [c1, c2, c3, Fx.seq, Fx.fin, Sh.trace_plainPieces_j4]
          · simp only [c1, c2, c3, decide_false, decide_true, cond_false, Bool.not_true, within_eq, Option.bind_some]
            by_cases c4 : f ≤ p.from_ ∧ p.from_ ≤ IntKind.i64.wrap (65535 - (p.old.length : Int))
            · obtain ⟨l, hl, _⟩ := changed_byte_ok (x := p.old) (y := p.new) (by omega) (by omega)
              simp only [c4, decide_true, Bool.not_true, cond_false, and_self, hl, Option.bind_some, Fx.seq, Fx.fin, Sh.trace_plainPieces_j4]
              by_cases c5 : (l.length : Int) < (p.old.length : Int)
              · right; simp [c5]
              · left; exact ⟨_, by simp only [c5, decide_false, cond_false, next64 hi (show ps.length ≤ _ by omega)]; rfl⟩
            · right; simp [c4, Fx.seq, Fx.fin, Sh.trace_plainPieces_j4]
        · right; simp [c1, c2, Fx.seq, Fx.fin, Sh.trace_plainPieces_j4]
      have hb : ∀ (u : Int × Int), Sh.trace_plainPieces_l2 ps (i : Int) u.1 u.2 = Sh.trace_plainPieces_l2 ps (i : Int) u.1 u.2 := fun _ => rfl
      show (∃ a', Sh.trace_plainPieces_l2 ps (i : Int) t f = _ ∧ _) ∨ ∃ g, Sh.trace_plainPieces_l2 ps (i : Int) t f = _ ∧ _
      simp only [Sh.trace_plainPieces_l2, lt_dec, hi, decide_true, cond_true, get_at hi, hp, Option.bind_some, within_eq]
      by_cases c : t ≤ p.table ∧ p.table ≤ 7
      · simp only [c, and_self, decide_true, Bool.not_true, cond_false]
        by_cases c' : t < p.table
        · simp only [c', decide_true, cond_true, Fx.seq, Fx.fin]
          rcases key p.table 0 with ⟨a', h⟩ | h
          · exact .inl ⟨a', by rw [h], trivial⟩
          · exact .inr ⟨_, h, false, rfl⟩
        · simp only [c', decide_false, cond_false, Fx.seq, Fx.fin]
          rcases key t f with ⟨a', h⟩ | h
          · exact .inl ⟨a', by rw [h], trivial⟩
          · exact .inr ⟨_, h, false, rfl⟩
      · simp only [c, decide_false, Bool.not_false, cond_true, Fx.seq, Fx.fin]
        exact .inr ⟨_, rfl, false, rfl⟩)
    (fun a _ => ⟨Sum.inl (), by simp [Sh.trace_plainPieces_l2], true, rfl⟩) ps.length 0 (-1, 0) (by omega) trivial
  obtain ⟨t, h2⟩ := h2
  exact ⟨t, (congrArg (fun t => Fx.seq t _) h1).trans h2⟩
theorem plain_ok {m : QMark} (h1 : m.regs.length ≤ 1099511627776) (h2 : m.slots.length ≤ 1099511627776) (h3 : m.pieces.length ≤ 1099511627776) : ∃ t, Sh.trace_plain m = some t := by
  have k5 : ∃ t, Sh.trace_plain_j5 m = some t := by
    obtain ⟨t, ht⟩ := plainPieces_ok h3
    exact ⟨t, by simp [Sh.trace_plain_j5, ht]⟩
  have k2 : ∃ t, Sh.trace_plain_j2 m = some t := by
    unfold Sh.trace_plain_j2
    obtain ⟨g, e1, t, e2⟩ := count_rule (body := fun (v : Int × Int) => match v with | (v1, v2) => Sh.trace_plain_l6 m v1 v2) m.slots.length (fun i (a : Int) => (a, (i : Int))) (fun i a => True) (fun g => ∃ t, Fx.fin (fun _ => Sh.trace_plain_j5 m) g = some t)
      (fun i a hi _ => by
        show (∃ a', Sh.trace_plain_l6 m a (i : Int) = _ ∧ _) ∨ ∃ g, Sh.trace_plain_l6 m a (i : Int) = _ ∧ _
        simp only [Sh.trace_plain_l6, lt_dec, hi, decide_true, cond_true, get_at hi, Option.bind_some, within_eq, Sh.trace_plain_j7]
        generalize m.slots[i] = p
        by_cases c : IntKind.i64.wrap (a + 1) ≤ p.slot ∧ p.slot ≤ 31
        · simp only [c, and_self, decide_true, Bool.not_true, cond_false, Fx.seq, Fx.fin]
          by_cases c' : p.old = p.new
          · simp only [c', decide_true, cond_true]; exact .inr ⟨_, rfl, false, rfl⟩
          · simp only [c', decide_false, cond_false, next64 hi (show m.slots.length ≤ _ by omega)]; exact .inl ⟨_, rfl, trivial⟩
        · simp only [c, decide_false, Bool.not_false, cond_true, Fx.seq, Fx.fin]; exact .inr ⟨_, rfl, false, rfl⟩)
      (fun a _ => ⟨Sum.inl (), by simp [Sh.trace_plain_l6], k5⟩) m.slots.length 0 (-1) (by omega) trivial
    exact ⟨t, (congrArg (fun t => Fx.seq t _) e1).trans e2⟩
  have k1 : ∀ v, ∃ t, Sh.trace_plain_j1 m v = some t := by
    intro v
    unfold Sh.trace_plain_j1
    cases v
    · simp only [cond_false]
      obtain ⟨g, e1, t, e2⟩ := count_rule (body := fun (v : Int × Int) => match v with | (v1, v2) => Sh.trace_plain_l3 m v1 v2) m.regs.length (fun i (a : Int) => ((i : Int), a)) (fun i a => True) (fun g => ∃ t, Fx.fin (fun _ => Sh.trace_plain_j2 m) g = some t)
        (fun i a hi _ => by
          show (∃ a', Sh.trace_plain_l3 m (i : Int) a = _ ∧ _) ∨ ∃ g, Sh.trace_plain_l3 m (i : Int) a = _ ∧ _
          simp only [Sh.trace_plain_l3, lt_dec, hi, decide_true, cond_true, get_at hi, Option.bind_some, within_eq, Sh.trace_plain_j4]
          generalize m.regs[i] = p
          by_cases c : IntKind.i64.wrap (a + 1) ≤ p.reg ∧ p.reg ≤ 10
          · simp only [c, and_self, decide_true, Bool.not_true, cond_false, Fx.seq, Fx.fin]
            by_cases c' : p.old = p.new
            · simp only [c', decide_true, cond_true]; exact .inr ⟨_, rfl, false, rfl⟩
            · simp only [c', decide_false, cond_false, next64 hi (show m.regs.length ≤ _ by omega)]; exact .inl ⟨_, rfl, trivial⟩
          · simp only [c, decide_false, Bool.not_false, cond_true, Fx.seq, Fx.fin]; exact .inr ⟨_, rfl, false, rfl⟩)
        (fun a _ => ⟨Sum.inl (), by simp [Sh.trace_plain_l3], k2⟩) m.regs.length 0 (-1) (by omega) trivial
      exact ⟨t, (congrArg (fun t => Fx.seq t _) e1).trans e2⟩
    · exact ⟨false, rfl⟩
  unfold Sh.trace_plain
  simp only [within_eq, Option.bind_some]
  by_cases c : 0 ≤ m.at_ ∧ m.at_ ≤ 4095
  · by_cases c' : 0 ≤ m.next ∧ m.next ≤ 4095
    · simp only [c, c', and_self, decide_true, Bool.not_true, cond_false, Fx.seq, Fx.fin]; exact k1 _
    · simp only [c, c', and_self, decide_true, decide_false, Bool.not_false, cond_true, Bool.not_true, cond_false, Fx.seq, Fx.fin]; exact k1 _
  · simp only [c, decide_false, Bool.not_false, cond_true, Fx.seq, Fx.fin]; exact k1 _
end Go.Sp
end
section
namespace Go.Sp
open Go Go.Fw Go.Fx Go.Proofs
set_option linter.unusedVariables false
set_option linter.unusedSimpArgs false
def encTurn (t : LTurn) : List UInt8 := [Fw.byteOf t.reg] ++ encVal t.old ++ encVal t.new
def encCell (t : LCell) : List UInt8 := [Fw.byteOf t.slot] ++ encSlot t.old ++ encSlot t.new
def encPiece (p : QPiece) : List UInt8 := [Fw.byteOf (IntKind.i64.wrap (p.table + 1))] ++ lows 2 p.from_ ++ lows 2 (p.old.length : Int) ++ p.old ++ p.new
def encMark (m : QMark) : List UInt8 := lows 2 m.at_ ++ lows 2 m.next ++ [if m.done then 1 else 0] ++ [Fw.byteOf (m.regs.length : Int)] ++ m.regs.flatMap encTurn ++
  [Fw.byteOf (m.slots.length : Int)] ++ m.slots.flatMap encCell ++ lows 4 (m.pieces.length : Int) ++ m.pieces.flatMap encPiece ++ [Fw.byteOf (m.sent.length : Int)] ++ m.sent.flatMap (lows 8)
def encRow (t : List UInt8) : List UInt8 := lows 2 (t.length : Int) ++ t
def encRecord (p : QRecord) : List UInt8 := [84, 82, 67, 49] ++ lows 2 (p.in_.ctx.length : Int) ++ p.in_.ctx ++ [Fw.byteOf (p.in_.tables.length : Int)] ++ p.in_.tables.flatMap encRow ++
  [Fw.byteOf p.end_] ++ lows 4 (p.marks.length : Int) ++ p.marks.flatMap encMark
def GoodM (m : QMark) : Prop := (∀ t ∈ m.regs, GoodV t.old ∧ GoodV t.new) ∧ (∀ t ∈ m.slots, GoodS t.old ∧ GoodS t.new) ∧ Sh.trace_plain m = some true ∧ m.regs.length ≤ 255 ∧ m.slots.length ≤ 255 ∧ m.pieces.length ≤ 4294967296
def GoodR (p : QRecord) : Prop := p.in_.ctx.length ≤ 65535 ∧ p.in_.tables.length ≤ 8 ∧ (∀ t ∈ p.in_.tables, t.length ≤ 65535) ∧ (p.end_ = 0 ∨ (80 ≤ p.end_ ∧ p.end_ ≤ 89)) ∧ ∀ m ∈ p.marks, GoodM m
section
variable {b : List UInt8} {r r1 r2 : QReader}
theorem times {σ γ X : Type} (N : Nat) {body : σ → Option (σ ⊕ γ)} (st : List X → QReader → Int → σ) (out : List X → QReader → γ) (enc : X → List UInt8) (Good : X → Prop)
    (hend : ∀ xs r n, (n = 0 ∨ r.e ≠ 0) → body (st xs r n) = some (.inr (out xs r)))
    (hstep : ∀ xs r (m : Nat), Wf b r → r.e = 0 → m < N → xs.length < N → ∃ x r', body (st xs r ((m + 1 : Nat) : Int)) = some (.inl (st (xs ++ [x]) r' (m : Int))) ∧ Rd b r r' (enc x) (Good x)) :
    ∀ (m : Nat) xs r, Wf b r → xs.length + m ≤ N → ∃ ys r', loop body (st xs r (m : Int)) = some (out (xs ++ ys) r') ∧ Rd b r r' (ys.flatMap enc) (ys.length = m ∧ ∀ y ∈ ys, Good y) ∧ ys.length ≤ m := by
  intro m
  induction m with
  | zero => intro xs r hw _; exact ⟨[], r, by rw [List.append_nil]; exact loop_out (hend _ _ _ (.inl rfl)), (Rd.refl hw).imp fun _ => ⟨rfl, rfl, by simp⟩, Nat.le_refl _⟩
  | succ m ih =>
    intro xs r hw hN
    by_cases he : r.e = 0
    · obtain ⟨x, r1, h1, h2⟩ := hstep xs r m hw he (by omega) (by omega)
      obtain ⟨ys, r2, h3, h4, h5⟩ := ih (xs ++ [x]) r1 h2.1 (by simp; omega)
      refine ⟨x :: ys, r2, loop_go h1 (by rw [h3]; simp), (h2.trans h4).imp fun g => ⟨by simp, by simp [g.2.1], fun y hy => ?_⟩, by simp; omega⟩
      rcases List.mem_cons.1 hy with rfl | hy
      · exact g.1
      · exact g.2.2 y hy
    · exact ⟨[], r, by rw [List.append_nil]; exact loop_out (hend _ _ _ (.inr he)), Rd.bad hw he, Nat.zero_le _⟩
theorem down64 {m : Nat} (h : m < 4611686018427387904) : IntKind.i64.wrap (((m + 1 : Nat) : Int) - 1) = (m : Int) := by rw [w64 (by omega)]; omega
theorem pos_dec {m : Nat} : decide ((0 : Int) < ((m + 1 : Nat) : Int)) = true := by simp
theorem clone_ok {x : List UInt8} {n : Int} (h : (x.length : Int) ≤ n) (hn : n ≤ 4294967296) : Sh.bytes_Clone x = some x := by
  unfold Sh.bytes_Clone; rw [app_ok (by simp; omega) (by simp; omega)]; rfl
theorem turns_ok (hb : b.length ≤ 16777216) (hw : Wf b r) {n : Int} (hn : 0 ≤ n ∧ n < 256) : ∃ ys r', Fx.loop (fun (v : List LTurn × QReader × Int) => match v with | (v1, v2, v3) => Sh.trace_reader_mark_l3 v1 v2 v3) ([], r, n) = some (Sum.inl (ys, r')) ∧
    Rd b r r' (ys.flatMap encTurn) ((ys.length : Int) = n ∧ ∀ y ∈ ys, GoodV y.old ∧ GoodV y.new) ∧ (ys.length : Int) ≤ n := by
  obtain ⟨m, rfl⟩ : ∃ m : Nat, n = m := ⟨n.toNat, by omega⟩
  obtain ⟨ys, r', h1, h2, h3⟩ := times (b := b) 255 (body := fun (v : List LTurn × QReader × Int) => match v with | (v1, v2, v3) => Sh.trace_reader_mark_l3 v1 v2 v3) (fun xs r n => (xs, r, n)) (fun xs r => Sum.inl (xs, r)) encTurn (fun y => GoodV y.old ∧ GoodV y.new)
    (fun xs r n h => by
      show Sh.trace_reader_mark_l3 xs r n = _
      by_cases hp : 0 < n
      · rcases h with h | h
        · omega
        · simp [Sh.trace_reader_mark_l3, Sh.trace_reader_mark_j4, hp, h, Fx.seq, Fx.fin]
      · simp [Sh.trace_reader_mark_l3, Sh.trace_reader_mark_j4, hp, Fx.seq, Fx.fin])
    (fun xs r m hw he hm hx => by
      obtain ⟨k, r1, a1, a2, a3⟩ := byte_ok hb hw
      obtain ⟨v, r2, b1, b2⟩ := value_ok hb a2.1
      obtain ⟨u, r3, c1, c2⟩ := value_ok hb b2.1
      refine ⟨LTurn.mk k v u, r3, ?_, ((a2.trans b2).trans c2).imp fun g => ⟨rfl, g.1.2, g.2⟩⟩
      show Sh.trace_reader_mark_l3 xs r _ = _
      simp only [Sh.trace_reader_mark_l3, Sh.trace_reader_mark_j4, Sh.trace_reader_mark_c5, pos_dec, cond_true, he, decide_true, Fx.seq, Fx.fin, a1, b1, c1, Option.bind_some, app_ok (bytes := 72) (l := xs) (m := [LTurn.mk k v u]) (by simp; omega) (by simp; omega), down64 (show m < _ by omega)])
    m [] r hw (by simp; omega)
  exact ⟨ys, r', h1, h2.imp fun g => ⟨rfl, by rw [g.1], g.2⟩, by omega⟩
theorem cells_ok (hb : b.length ≤ 16777216) (hw : Wf b r) (ts : List LTurn) {n : Int} (hn : 0 ≤ n ∧ n < 256) : ∃ ys r', Fx.loop (fun (v : List LTurn × List LCell × QReader × Int) => match v with | (v0, v1, v2, v3) => Sh.trace_reader_mark_l7 v0 v1 v2 v3) (ts, [], r, n) = some (Sum.inl (ts, ys, r')) ∧
    Rd b r r' (ys.flatMap encCell) ((ys.length : Int) = n ∧ ∀ y ∈ ys, GoodS y.old ∧ GoodS y.new) ∧ (ys.length : Int) ≤ n := by
  obtain ⟨m, rfl⟩ : ∃ m : Nat, n = m := ⟨n.toNat, by omega⟩
  obtain ⟨ys, r', h1, h2, h3⟩ := times (b := b) 255 (body := fun (v : List LTurn × List LCell × QReader × Int) => match v with | (v0, v1, v2, v3) => Sh.trace_reader_mark_l7 v0 v1 v2 v3) (fun xs r n => (ts, xs, r, n)) (fun xs r => Sum.inl (ts, xs, r)) encCell (fun y => GoodS y.old ∧ GoodS y.new)
    (fun xs r n h => by
      show Sh.trace_reader_mark_l7 ts xs r n = _
      by_cases hp : 0 < n
      · rcases h with h | h
        · omega
        · simp [Sh.trace_reader_mark_l7, Sh.trace_reader_mark_j8, hp, h, Fx.seq, Fx.fin]
      · simp [Sh.trace_reader_mark_l7, Sh.trace_reader_mark_j8, hp, Fx.seq, Fx.fin])
    (fun xs r m hw he hm hx => by
      obtain ⟨k, r1, a1, a2, a3⟩ := byte_ok hb hw
      obtain ⟨v, r2, b1, b2⟩ := slot_ok hb a2.1
      obtain ⟨u, r3, c1, c2⟩ := slot_ok hb b2.1
      refine ⟨LCell.mk k v u, r3, ?_, ((a2.trans b2).trans c2).imp fun g => ⟨rfl, g.1.2, g.2⟩⟩
      show Sh.trace_reader_mark_l7 ts xs r _ = _
      simp only [Sh.trace_reader_mark_l7, Sh.trace_reader_mark_j8, Sh.trace_reader_mark_c9, pos_dec, cond_true, he, decide_true, Fx.seq, Fx.fin, a1, b1, c1, Option.bind_some, app_ok (bytes := 104) (l := xs) (m := [LCell.mk k v u]) (by simp; omega) (by simp; omega), down64 (show m < _ by omega)])
    m [] r hw (by simp; omega)
  exact ⟨ys, r', h1, h2.imp fun g => ⟨rfl, by rw [g.1], g.2⟩, by omega⟩
theorem pieces_ok (hb : b.length ≤ 16777216) (hw : Wf b r) (ts : List LTurn) (cs : List LCell) {n : Int} (hn : 0 ≤ n ∧ n < 4294967296) : ∃ ys r', Fx.loop (fun (v : List LTurn × List LCell × List QPiece × QReader × Int) => match v with | (v0, v4, v1, v2, v3) => Sh.trace_reader_mark_l11 v0 v4 v1 v2 v3) (ts, cs, [], r, n) = some (Sum.inl (ts, cs, ys, r')) ∧
    Rd b r r' (ys.flatMap encPiece) ((ys.length : Int) = n ∧ ∀ y ∈ ys, y.old.length ≤ 65535) ∧ (ys.length : Int) ≤ n := by
  obtain ⟨m, rfl⟩ : ∃ m : Nat, n = m := ⟨n.toNat, by omega⟩
  obtain ⟨ys, r', h1, h2, h3⟩ := times (b := b) 4294967296 (body := fun (v : List LTurn × List LCell × List QPiece × QReader × Int) => match v with | (v0, v4, v1, v2, v3) => Sh.trace_reader_mark_l11 v0 v4 v1 v2 v3) (fun xs r n => (ts, cs, xs, r, n)) (fun xs r => Sum.inl (ts, cs, xs, r)) encPiece (fun y => y.old.length ≤ 65535)
    (fun xs r n h => by
      show Sh.trace_reader_mark_l11 ts cs xs r n = _
      by_cases hp : 0 < n
      · rcases h with h | h
        · omega
        · simp [Sh.trace_reader_mark_l11, Sh.trace_reader_mark_j12, hp, h, Fx.seq, Fx.fin]
      · simp [Sh.trace_reader_mark_l11, Sh.trace_reader_mark_j12, hp, Fx.seq, Fx.fin])
    (fun xs r m hw he hm hx => by
      obtain ⟨k, r1, a1, a2, a3⟩ := byte_ok hb hw
      obtain ⟨v, r2, b1, b2, b3⟩ := two_ok hb a2.1
      obtain ⟨u, r3, c1, c2, c3⟩ := two_ok hb b2.1
      obtain ⟨x, r4, d1, d2, d3⟩ := take_ok hb c2.1 (n := u) (by omega)
      obtain ⟨y, r5, e1, e2, e3⟩ := take_ok hb d2.1 (n := u) (by omega)
      refine ⟨QPiece.mk (IntKind.i64.wrap (k - 1)) v x y, r5, ?_, ((((a2.trans b2).trans c2).trans d2).trans e2).imp fun g => ⟨?_, by have := g.1.2; simp only; omega⟩⟩
      · show Sh.trace_reader_mark_l11 ts cs xs r _ = _
        simp only [Sh.trace_reader_mark_l11, Sh.trace_reader_mark_j12, Sh.trace_reader_mark_c13, Sh.trace_reader_mark_j14, pos_dec, cond_true, he, decide_true, Fx.seq, Fx.fin, a1, b1, c1, d1, e1, clone_ok d3 (by omega), clone_ok e3 (by omega), Option.bind_some, app_ok (bytes := 64) (l := xs) (m := [QPiece.mk (IntKind.i64.wrap (k - 1)) v x y]) (by simp; omega) (by simp; omega), down64 (show m < _ by omega)]
      · have e : IntKind.i64.wrap (IntKind.i64.wrap (k - 1) + 1) = k := by rw [w64 (x := k - 1) (by omega), w64 (by omega)]; omega
        simp only [encPiece, e, g.1.2, List.append_assoc])
    m [] r hw (by simp; omega)
  exact ⟨ys, r', h1, h2.imp fun g => ⟨rfl, by rw [g.1], g.2⟩, by omega⟩
theorem sents_ok (hb : b.length ≤ 16777216) (hw : Wf b r) (a t : Int) (d : Bool) (ts : List LTurn) (cs : List LCell) (ps : List QPiece) {n : Int} (hn : 0 ≤ n ∧ n < 256) : ∃ ys r', Fx.loop (fun (v : QMark × QReader × Int) => match v with | (v1, v2, v3) => Sh.trace_reader_mark_l16 v1 v2 v3) (QMark.mk a t d ts cs ps [], r, n) = some (Sum.inl (QMark.mk a t d ts cs ps ys, r')) ∧
    Rd b r r' (ys.flatMap (lows 8)) ((ys.length : Int) = n) ∧ (ys.length : Int) ≤ n := by
  obtain ⟨m, rfl⟩ : ∃ m : Nat, n = m := ⟨n.toNat, by omega⟩
  obtain ⟨ys, r', h1, h2, h3⟩ := times (b := b) 255 (body := fun (v : QMark × QReader × Int) => match v with | (v1, v2, v3) => Sh.trace_reader_mark_l16 v1 v2 v3) (fun xs r n => (QMark.mk a t d ts cs ps xs, r, n)) (fun xs r => Sum.inl (QMark.mk a t d ts cs ps xs, r)) (lows 8) (fun y => True)
    (fun xs r n h => by
      show Sh.trace_reader_mark_l16 _ r n = _
      by_cases hp : 0 < n
      · rcases h with h | h
        · omega
        · simp [Sh.trace_reader_mark_l16, Sh.trace_reader_mark_j17, hp, h, Fx.seq, Fx.fin]
      · simp [Sh.trace_reader_mark_l16, Sh.trace_reader_mark_j17, hp, Fx.seq, Fx.fin])
    (fun xs r m hw he hm hx => by
      obtain ⟨k, r1, a1, a2⟩ := eight_ok hb hw
      refine ⟨k, r1, ?_, a2⟩
      show Sh.trace_reader_mark_l16 _ r _ = _
      simp only [Sh.trace_reader_mark_l16, Sh.trace_reader_mark_j17, Sh.trace_reader_mark_c18, pos_dec, cond_true, he, decide_true, Fx.seq, Fx.fin, a1, Option.bind_some, app_ok (bytes := 8) (l := xs) (m := [k]) (by simp; omega) (by simp; omega), down64 (show m < _ by omega)])
    m [] r hw (by simp; omega)
  exact ⟨ys, r', h1, h2.imp fun g => ⟨rfl, by rw [g.1]⟩, by omega⟩
theorem done_byte {v : Int} (h : 0 ≤ v ∧ v ≤ 1) : Fw.byteOf v = if decide (v = 1) then 1 else 0 := by
  have : v = 0 ∨ v = 1 := by omega
  rcases this with rfl | rfl <;> rfl
theorem mark_ok (hb : b.length ≤ 16777216) (hw : Wf b r) : ∃ m r', Sh.trace_reader_mark r = some (m, r') ∧ Rd b r r' (encMark m) (GoodM m) := by
  obtain ⟨a, r1, a1, a2, a3⟩ := two_ok hb hw
  obtain ⟨t, r2, b1, b2, b3⟩ := two_ok hb a2.1
  obtain ⟨d, r3, c1, c2, c3⟩ := most_ok hb b2.1 (n := 1) (by omega)
  obtain ⟨n1, r4, d1, d2, d3⟩ := byte_ok hb c2.1
  obtain ⟨ts, r5, e1, e2, e3⟩ := turns_ok hb d2.1 d3
  obtain ⟨n2, r6, f1, f2, f3⟩ := byte_ok hb e2.1
  obtain ⟨cs, r7, g1, g2, g3⟩ := cells_ok hb f2.1 ts f3
  obtain ⟨n3, r8, h1, h2, h3⟩ := four_ok hb g2.1
  obtain ⟨ps, r9, i1, i2, i3⟩ := pieces_ok hb h2.1 ts cs h3
  obtain ⟨n4, r10, j1, j2, j3⟩ := byte_ok hb i2.1
  obtain ⟨ss, r11, k1, k2, k3⟩ := sents_ok hb j2.1 a t (decide (d = 1)) ts cs ps j3
  have hR := ((((((((((a2.trans b2).trans c2).trans d2).trans e2).trans f2).trans g2).trans h2).trans i2).trans j2).trans k2)
  obtain ⟨q, hq⟩ := plain_ok (m := QMark.mk a t (decide (d = 1)) ts cs ps ss) (by simp; omega) (by simp; omega) (by simp; omega)
  have step : Sh.trace_reader_mark r = Fx.seq ((Sh.trace_plain (QMark.mk a t (decide (d = 1)) ts cs ps ss)).bind fun y16827 => (bif (!y16827) then ((Sh.trace_reader_fault r11 r.at_ 230).bind fun y16830 => (some (Sum.inl y16830))) else (some (Sum.inl r11)))) fun v16823 => Sh.trace_reader_mark_j19 (QMark.mk a t (decide (d = 1)) ts cs ps ss) v16823 := by
    simp only [Sh.trace_reader_mark, a1, b1, c1, Option.bind_some, seq_l, Sh.trace_reader_mark_j1, d1]
    refine seq_eq e1 ?_
    simp only [Fx.fin, Sh.trace_reader_mark_c2, f1, Option.bind_some]
    refine seq_eq g1 ?_
    simp only [Fx.fin, Sh.trace_reader_mark_c6, h1, Option.bind_some]
    refine seq_eq i1 ?_
    simp only [Fx.fin, Sh.trace_reader_mark_c10, j1, Option.bind_some]
    exact seq_eq k1 rfl
  rw [step, hq]
  have hw11 := k2.1
  cases q
  · have := hw.at0; have := hw.at1
    obtain ⟨r12, l1, l2, l3, _⟩ := fault_ok hw11 (p := r.at_) (e := 230) (fun _ => by omega) (by decide)
    exact ⟨_, r12, by simp only [Option.bind_some, Bool.not_false, cond_true, l1, Fx.seq, Fx.fin, Sh.trace_reader_mark_j19]; rfl, Rd.bad l2 l3⟩
  · refine ⟨_, r11, by simp only [Option.bind_some, Bool.not_true, cond_false, Fx.seq, Fx.fin, Sh.trace_reader_mark_j19]; rfl, hR.imp fun g => ?_⟩
    obtain ⟨⟨⟨⟨⟨⟨⟨_, ge⟩, _⟩, gg⟩, _⟩, gi⟩, _⟩, gk⟩ := g
    refine ⟨?_, ge.2, gg.2, hq, by simp; omega, by simp; omega, by simp; omega⟩
    simp only [encMark, done_byte c3, gk, gi.1, gg.1, ge.1]
theorem rows_ok (hb : b.length ≤ 16777216) (hw : Wf b r) (c : List UInt8) {n : Int} (hn : 0 ≤ n ∧ n ≤ 8) : ∃ ys r', Fx.loop (fun (v : QReader × QInput × Int) => match v with | (v1, v2, v3) => Sh.trace_Decode_l3 v1 v2 v3) (r, QInput.mk c [], n) = some (Sum.inl (r', QInput.mk c ys)) ∧
    Rd b r r' (ys.flatMap encRow) ((ys.length : Int) = n ∧ ∀ y ∈ ys, y.length ≤ 65535) ∧ (ys.length : Int) ≤ n := by
  obtain ⟨m, rfl⟩ : ∃ m : Nat, n = m := ⟨n.toNat, by omega⟩
  obtain ⟨ys, r', h1, h2, h3⟩ := times (b := b) 255 (body := fun (v : QReader × QInput × Int) => match v with | (v1, v2, v3) => Sh.trace_Decode_l3 v1 v2 v3) (fun xs r n => (r, QInput.mk c xs, n)) (fun xs r => Sum.inl (r, QInput.mk c xs)) encRow (fun y => y.length ≤ 65535)
    (fun xs r n h => by
      show Sh.trace_Decode_l3 r _ n = _
      by_cases hp : 0 < n
      · rcases h with h | h
        · omega
        · simp [Sh.trace_Decode_l3, Sh.trace_Decode_j4, hp, h, Fx.seq, Fx.fin]
      · simp [Sh.trace_Decode_l3, Sh.trace_Decode_j4, hp, Fx.seq, Fx.fin])
    (fun xs r m hw he hm hx => by
      obtain ⟨u, r1, c1, c2, c3⟩ := two_ok hb hw
      obtain ⟨x, r2, d1, d2, d3⟩ := take_ok hb c2.1 (n := u) (by omega)
      refine ⟨x, r2, ?_, (c2.trans d2).imp fun g => ⟨by simp only [encRow, g.2], by omega⟩⟩
      show Sh.trace_Decode_l3 r _ _ = _
      simp only [Sh.trace_Decode_l3, Sh.trace_Decode_j4, Sh.trace_Decode_c5, pos_dec, cond_true, he, decide_true, Fx.seq, Fx.fin, c1, d1, clone_ok d3 (by omega), Option.bind_some, app_ok (bytes := 24) (l := xs) (m := [x]) (by simp; omega) (by simp; omega), down64 (show m < _ by omega)])
    m [] r hw (by simp; omega)
  exact ⟨ys, r', h1, h2.imp fun g => ⟨rfl, by rw [g.1], g.2⟩, by omega⟩
theorem marks_ok (hb : b.length ≤ 16777216) (hw : Wf b r) (i : QInput) (e : Int) {n : Int} (hn : 0 ≤ n ∧ n < 4294967296) : ∃ ys r', Fx.loop (fun (v : QReader × QRecord × Int) => match v with | (v1, v2, v3) => Sh.trace_Decode_l8 v1 v2 v3) (r, QRecord.mk i [] e, n) = some (Sum.inl (r', QRecord.mk i ys e)) ∧
    Rd b r r' (ys.flatMap encMark) ((ys.length : Int) = n ∧ ∀ y ∈ ys, GoodM y) ∧ (ys.length : Int) ≤ n := by
  obtain ⟨m, rfl⟩ : ∃ m : Nat, n = m := ⟨n.toNat, by omega⟩
  obtain ⟨ys, r', h1, h2, h3⟩ := times (b := b) 4294967296 (body := fun (v : QReader × QRecord × Int) => match v with | (v1, v2, v3) => Sh.trace_Decode_l8 v1 v2 v3) (fun xs r n => (r, QRecord.mk i xs e, n)) (fun xs r => Sum.inl (r, QRecord.mk i xs e)) encMark GoodM
    (fun xs r n h => by
      show Sh.trace_Decode_l8 r _ n = _
      by_cases hp : 0 < n
      · rcases h with h | h
        · omega
        · simp [Sh.trace_Decode_l8, Sh.trace_Decode_j9, hp, h, Fx.seq, Fx.fin]
      · simp [Sh.trace_Decode_l8, Sh.trace_Decode_j9, hp, Fx.seq, Fx.fin])
    (fun xs r m hw he hm hx => by
      obtain ⟨u, r1, c1, c2⟩ := mark_ok hb hw
      refine ⟨u, r1, ?_, c2⟩
      show Sh.trace_Decode_l8 r _ _ = _
      simp only [Sh.trace_Decode_l8, Sh.trace_Decode_j9, Sh.trace_Decode_c10, pos_dec, cond_true, he, decide_true, Fx.seq, Fx.fin, c1, Option.bind_some, app_ok (bytes := 120) (l := xs) (m := [u]) (by simp; omega) (by simp; omega), down64 (show m < _ by omega)])
    m [] r hw (by simp; omega)
  exact ⟨ys, r', h1, h2.imp fun g => ⟨rfl, by rw [g.1], g.2⟩, by omega⟩
theorem goodEnd_eq (x : Int) : Sh.trace_goodEnd x = some (decide (x = 0 ∨ (80 ≤ x ∧ x ≤ 89))) := by
  unfold Sh.trace_goodEnd
  by_cases h : x = 0
  · simp [h, Fx.seq, Fx.fin, Sh.trace_goodEnd_j1]
  · by_cases h' : 80 ≤ x <;> simp [h, h', Fx.seq, Fx.fin, Sh.trace_goodEnd_j1]
theorem decode_ok (b : List UInt8) : ∃ p place e, Sh.trace_Decode b = some (p, place, e) ∧
    ((e ≠ 0 ∧ (0 ≤ place ∧ place ≤ b.length) ∧ p = QRecord.mk (QInput.mk [] []) [] 0) ∨ (e = 0 ∧ place = 0 ∧ b.length ≤ 16777216 ∧ b = encRecord p ∧ GoodR p)) := by
  by_cases hb : b.length ≤ 16777216
  · have h0 : ¬ (16777216 : Int) < (b.length : Int) := by omega
    have hw0 : Wf b (QReader.mk b 0 0 0) := ⟨rfl, by simp, by simp, by simp, by simp⟩
    obtain ⟨x, r1, a1, a2, a3⟩ := take_ok hb hw0 (n := 4) (by omega)
    have hm : ∃ r2, Fx.seq ((Sh.trace_reader_take (QReader.mk b 0 0 0) 4).bind fun y4147 => (bif (!(decide (y4147.1 = [84, 82, 67, 49]))) then ((Sh.trace_reader_fault y4147.2 0 236).bind fun y4154 => (some (Sum.inl y4154))) else (some (Sum.inl y4147.2)))) (fun v4143 => Sh.trace_Decode_j1 b v4143) = Sh.trace_Decode_j1 b r2 ∧ Rd b (QReader.mk b 0 0 0) r2 [84, 82, 67, 49] True := by
      simp only [a1, Option.bind_some]
      by_cases hx : x = [84, 82, 67, 49]
      · exact ⟨r1, by simp [hx, Fx.seq, Fx.fin], a2.imp fun _ => ⟨hx, trivial⟩⟩
      · obtain ⟨r2, l1, l2, l3, _⟩ := fault_ok a2.1 (p := 0) (e := 236) (fun _ => by omega) (by decide)
        exact ⟨r2, by simp [hx, l1, Fx.seq, Fx.fin], Rd.bad l2 l3⟩
    obtain ⟨r2, b1, b2⟩ := hm
    obtain ⟨n1, r3, c1, c2, c3⟩ := two_ok hb b2.1
    obtain ⟨ctx, r4, d1, d2, d3⟩ := take_ok hb c2.1 (n := n1) (by omega)
    obtain ⟨n2, r5, e1, e2, e3⟩ := most_ok hb d2.1 (n := 8) (by omega)
    obtain ⟨ys, r6, f1, f2, f3⟩ := rows_ok hb e2.1 ctx e3
    obtain ⟨en, r7, g1, g2, g3⟩ := byte_ok hb f2.1
    have hend : ∃ r8, Fx.seq ((Sh.trace_reader_number r6 1).bind fun y5802 => ((Sh.trace_goodEnd y5802.1).bind fun y5807 => (bif (!y5807) then ((Sh.trace_reader_fault y5802.2 (IntKind.i64.wrap (y5802.2.at_ - 1)) 236).bind fun y5810 => (some (Sum.inl (y5810, QInput.mk ctx ys, y5802.1)))) else (some (Sum.inl (y5802.2, QInput.mk ctx ys, y5802.1)))))) (fun (v5789, v5792, v5800) => Sh.trace_Decode_j6 b v5789 v5792 v5800) = Sh.trace_Decode_j6 b r8 (QInput.mk ctx ys) en ∧ Rd b r6 r8 [Fw.byteOf en] (en = 0 ∨ (80 ≤ en ∧ en ≤ 89)) := by
      simp only [g1, Option.bind_some, goodEnd_eq]
      by_cases hx : en = 0 ∨ (80 ≤ en ∧ en ≤ 89)
      · exact ⟨r7, by simp [hx, Fx.seq, Fx.fin], g2.imp fun _ => ⟨rfl, hx⟩⟩
      · obtain ⟨r8, l1, l2, l3⟩ := back_ok hb f2.1 g2
        exact ⟨r8, by simp [hx, l1, Fx.seq, Fx.fin], Rd.bad l2 l3⟩
    obtain ⟨r8, h1, h2⟩ := hend
    obtain ⟨n3, r9, i1, i2, i3⟩ := four_ok hb h2.1
    obtain ⟨ms, r10, j1, j2, j3⟩ := marks_ok hb i2.1 (QInput.mk ctx ys) en i3
    have hR := (((((((b2.trans c2).trans d2).trans e2).trans f2).trans h2).trans i2).trans j2)
    have step : Sh.trace_Decode b = Sh.trace_Decode_c7 b r10 (QRecord.mk (QInput.mk ctx ys) ms en) := by
      simp only [Sh.trace_Decode, h0, decide_false, cond_false]
      rw [b1]
      simp only [Sh.trace_Decode_j1, c1, d1, clone_ok d3 (by omega), e1, Option.bind_some]
      refine seq_eq f1 ?_
      simp only [Fx.fin, Sh.trace_Decode_c2]
      refine h1.trans ?_
      simp only [Sh.trace_Decode_j6, i1, Option.bind_some]
      exact seq_eq j1 rfl
    rw [step]
    have hw := j2.1
    have q0 := hw.at0; have q1 := hw.at1; have q2 := hw.p0; have q3 := hw.p1
    by_cases hlt : r10.at_ < (b.length : Int)
    · obtain ⟨r11, l1, l2, l3, _⟩ := fault_ok hw (p := r10.at_) (e := 236) (fun _ => by omega) (by decide)
      refine ⟨_, r11.place, r11.e, by simp [Sh.trace_Decode_c7, hlt, l1, Fx.seq, Fx.fin, Sh.trace_Decode_j11, l3], .inl ⟨l3, ⟨l2.p0, l2.p1⟩, rfl⟩⟩
    · by_cases he : r10.e = 0
      · refine ⟨QRecord.mk (QInput.mk ctx ys) ms en, 0, 0, by simp [Sh.trace_Decode_c7, hlt, Fx.seq, Fx.fin, Sh.trace_Decode_j11, he], .inr ⟨rfl, rfl, hb, ?_, ?_⟩⟩
        · obtain ⟨-, g, hd⟩ := hR.2 he
          obtain ⟨⟨⟨⟨⟨⟨_, gd⟩, _⟩, gf⟩, gh⟩, _⟩, gj⟩ := g
          have : r10.at_.toNat = b.length := by omega
          rw [this, List.drop_length, List.append_nil] at hd
          simp only [encRecord, gd, gf.1, gj.1]
          simpa using hd
        · obtain ⟨-, ⟨⟨⟨⟨⟨⟨_, gd⟩, _⟩, gf⟩, gh⟩, _⟩, gj⟩, -⟩ := hR.2 he
          exact ⟨by simp; omega, by simp; omega, gf.2, gh, gj.2⟩
      · exact ⟨_, r10.place, r10.e, by simp [Sh.trace_Decode_c7, hlt, Fx.seq, Fx.fin, Sh.trace_Decode_j11, he], .inl ⟨he, ⟨q2, q3⟩, rfl⟩⟩
  · have h0 : (16777216 : Int) < (b.length : Int) := by omega
    exact ⟨_, 0, 2, by simp [Sh.trace_Decode, h0], .inl ⟨by decide, by omega, rfl⟩⟩
end
end Go.Sp
end
section
namespace Go.Sp
open Go Go.Fw Go.Fx Go.Proofs
set_option linter.unusedVariables false
set_option linter.unusedSimpArgs false
theorem flat_len {X : Type} {enc : X → List UInt8} (h : ∀ x, 1 ≤ (enc x).length) (xs : List X) : xs.length ≤ (xs.flatMap enc).length := by
  induction xs with
  | nil => simp
  | cons x xs ih => have := h x; simp only [List.length_cons, List.flatMap_cons, List.length_append]; omega
theorem flat_le {X : Type} {enc : X → List UInt8} {xs : List X} {x : X} (h : x ∈ xs) : (enc x).length ≤ (xs.flatMap enc).length := by
  induction xs with
  | nil => cases h
  | cons y xs ih =>
    simp only [List.flatMap_cons, List.length_append]
    rcases List.mem_cons.1 h with rfl | h
    · omega
    · have := ih h; omega
end Go.Sp
end
section
namespace Go.Sp
open Go Go.Fw Go.Fx Go.Proofs
set_option linter.unusedVariables false
set_option linter.unusedSimpArgs false
def cur (r : QReader) : QCursor := QCursor.mk r.b r.at_ r.place r.e
def tk (r : QReader) (n : Int) : List UInt8 × QReader :=
  if r.e = 0 then (if r.at_ + n ≤ r.b.length then ((r.b.drop r.at_.toNat).take n.toNat, QReader.mk r.b (r.at_ + n) r.place r.e) else ([], QReader.mk r.b r.at_ r.b.length 236)) else ([], r)
section
variable {b : List UInt8} {r r1 r2 : QReader}
theorem take_eq (hb : b.length ≤ 16777216) (hw : Wf b r) {n : Int} (hn : 0 ≤ n ∧ n ≤ 4294967296) : Sh.trace_reader_take r n = some (tk r n) := by
  obtain ⟨h1, h2, h3, h4, h5⟩ := hw
  unfold Sh.trace_reader_take tk
  have e1 : IntKind.i64.wrap ((r.b.length : Int) - r.at_) = (b.length : Int) - r.at_ := by rw [h1]; exact w64 (by omega)
  rw [e1]
  have e2 : IntKind.i64.wrap (r.at_ + n) = r.at_ + n := w64 (by omega)
  have e3 : IntKind.i64.wrap (r.at_ + n - n) = r.at_ := by rw [w64 (by omega)]; omega
  by_cases he : r.e = 0
  · by_cases hlt : (b.length : Int) - r.at_ < n
    · have h6 : ¬ r.at_ + n ≤ (r.b.length : Int) := by rw [h1]; omega
      simp [hlt, he, h6, Sh.trace_reader_fault, seq_l, Sh.trace_reader_take_j1]
    · have h6 : r.at_ + n ≤ (r.b.length : Int) := by rw [h1]; omega
      have e4 : (r.at_ + n).toNat - r.at_.toNat = n.toNat := by omega
      simp only [hlt, decide_false, cond_false, seq_l, Sh.trace_reader_take_j1, he, decide_true, Bool.not_true, e2, e3, if_true, h6, Fx.slc]
      have h7 : 0 ≤ r.at_ ∧ r.at_ ≤ r.at_ + n ∧ True := ⟨h2, by omega, trivial⟩
      rw [if_pos h7, e4]; rfl
  · by_cases hlt : (b.length : Int) - r.at_ < n
    · simp [hlt, he, Sh.trace_reader_fault, seq_l, Sh.trace_reader_take_j1]
    · simp [hlt, he, seq_l, Sh.trace_reader_take_j1]
theorem number_eq (hb : b.length ≤ 16777216) (hw : Wf b r) {n : Nat} (hn : n ≤ 8) : Sh.trace_reader_number r (n : Nat) = some (IntKind.i64.wrap (num (tk r n).1 : Nat), (tk r n).2) := by
  have ht := take_eq hb hw (n := (n : Nat)) (by omega)
  have hxl : (tk r n).1.length ≤ 8 := by unfold tk; split <;> (try split) <;> simp <;> omega
  have hl := number_loop (tk r n) hxl (tk r n).1.length 0 (by simp)
  have e0 : IntKind.i64.wrap ((num ((tk r n).1.take 0) : Nat) : Int) = 0 := by simp [num]; rfl
  rw [e0] at hl
  unfold Sh.trace_reader_number
  simp only [ht, Option.bind_some]
  exact seq_eq hl rfl
theorem num_drop (x : List UInt8) (i : Nat) (h : i < x.length) : num (x.drop i) = x[i].toNat + 256 * num (x.drop (i + 1)) := by
  rw [List.drop_eq_getElem_cons h]; rfl
theorem wu64 {x : Int} (h : 0 ≤ x ∧ x < 18446744073709551616) : IntKind.u64.wrap x = x := by
  simp [IntKind.wrap, IntKind.signed, IntKind.bits]; omega
theorem c_number_loop (c : QCursor) (x : List UInt8) (h0 : 0 ≤ c.at_) (hc : c.at_ ≤ 16777216) (hx : x.length ≤ 8) (hg : ∀ i (h : i < x.length), Fx.get c.b (c.at_ + (i : Int)) = some x[i]) : ∀ (m : Nat), m ≤ x.length →
    Fx.loop (fun (v : Int × Int) => match v with | (v1, v2) => Sh.ref23_cursor_number_l4 c v1 v2) ((num (x.drop m) : Nat), (m : Int) - 1) = some (Sum.inl ((num x : Nat) : Int)) := by
  intro m
  induction m with
  | zero => intro _; exact loop_out (by simp [Sh.ref23_cursor_number_l4])
  | succ m ih =>
    intro hm
    have hlt := num_lt (x.drop m)
    rw [List.length_drop] at hlt
    have h8 : 256 ^ (x.length - m) ≤ 256 ^ 8 := Nat.pow_le_pow_right (by decide) (by omega)
    have h8' : 256 ^ 8 = 18446744073709551616 := by decide
    rw [num_drop x m (by omega)] at hlt
    have e1 : ((m + 1 : Nat) : Int) - 1 = (m : Int) := by omega
    refine loop_go ?_ (ih (by omega))
    rw [e1]
    have h1 : (0 : Int) ≤ (m : Int) := by omega
    have e2 : IntKind.i64.wrap (c.at_ + (m : Int)) = c.at_ + (m : Int) := w64 (by omega)
    have e3 : IntKind.i64.wrap ((m : Int) - 1) = (m : Int) - 1 := w64 (by omega)
    have e4 : IntKind.u64.wrap (IntKind.u64.wrap (((num (x.drop (m + 1)) : Nat) : Int) * 256) + ((x[m]'(by omega)).toNat : Int)) = ((num (x.drop m) : Nat) : Int) := by
      rw [num_drop x m (by omega)]
      rw [wu64 (x := ((num (x.drop (m + 1)) : Nat) : Int) * 256) (by omega), wu64 (by omega)]
      omega
    simp only [Sh.ref23_cursor_number_l4, h1, decide_true, cond_true, e2, hg m (by omega), Option.bind_some, e3, e4]
theorem c_number_eq (hb : b.length ≤ 16777216) (hw : Wf b r) {n : Nat} (hn : n ≤ 8) : Sh.ref23_cursor_number (cur r) (n : Nat) = some (IntKind.i64.wrap (num (tk r n).1 : Nat), cur (tk r n).2) := by
  obtain ⟨h1, h2, h3, h4, h5⟩ := hw
  have e2 : IntKind.i64.wrap (r.at_ + (n : Int)) = r.at_ + n := w64 (by omega)
  unfold Sh.ref23_cursor_number tk
  by_cases he : r.e = 0
  · by_cases hlt : r.at_ + (n : Int) ≤ (r.b.length : Int)
    · have h6 : ¬ (r.b.length : Int) < r.at_ + (n : Int) := by omega
      simp only [cur, he, decide_true, cond_true, e2, h6, decide_false, seq_l, Sh.ref23_cursor_number_j2, cond_false, Sh.ref23_cursor_number_j1, Bool.not_true, if_true, hlt]
      have hlen : ((r.b.drop r.at_.toNat).take (n : Int).toNat).length = n := by simp; omega
      have := c_number_loop (QCursor.mk r.b r.at_ r.place 0) ((r.b.drop r.at_.toNat).take (n : Int).toNat) h2 (by simp; omega) (by omega) (fun i h => by
        have hi : r.at_.toNat + i < r.b.length := by rw [hlen] at h; omega
        have e : (r.at_ + (i : Int)).toNat = r.at_.toNat + i := by omega
        simp only [Fx.get]
        rw [if_pos (by omega), e, List.getElem?_eq_getElem hi]
        simp) n (by omega)
      rw [List.drop_of_length_le (by omega)] at this
      have e5 : IntKind.i64.wrap ((n : Int) - 1) = (n : Int) - 1 := w64 (by omega)
      rw [e5]
      exact seq_eq this (by simp only [Fx.fin, Sh.ref23_cursor_number_j3, e2, cur])
    · have h6 : (r.b.length : Int) < r.at_ + (n : Int) := by omega
      simp [cur, he, e2, h6, seq_l, Sh.ref23_cursor_number_j2, Sh.ref23_cursor_number_j1, hlt, Sh.ref23_cursor_fault, num]
      rfl
  · simp [cur, he, seq_l, Sh.ref23_cursor_number_j2, Sh.ref23_cursor_number_j1, num]
    rfl
theorem c_bytes_eq (hb : b.length ≤ 16777216) (hw : Wf b r) {n : Int} (hn : 0 ≤ n ∧ n ≤ 4294967296) : Sh.ref23_cursor_bytes (cur r) n = some ((tk r n).1, cur (tk r n).2) := by
  obtain ⟨h1, h2, h3, h4, h5⟩ := hw
  have e2 : IntKind.i64.wrap (r.at_ + n) = r.at_ + n := w64 (by omega)
  have e3 : IntKind.i64.wrap (r.at_ + n - n) = r.at_ := by rw [w64 (by omega)]; omega
  unfold Sh.ref23_cursor_bytes tk
  by_cases he : r.e = 0
  · by_cases hlt : r.at_ + n ≤ (r.b.length : Int)
    · have h6 : ¬ (r.b.length : Int) < r.at_ + n := by omega
      have e4 : (r.at_ + n).toNat - r.at_.toNat = n.toNat := by omega
      simp only [cur, he, decide_true, cond_true, e2, e3, h6, decide_false, seq_l, Sh.ref23_cursor_bytes_j2, cond_false, Sh.ref23_cursor_bytes_j1, Bool.not_true, if_true, hlt, Fx.slc]
      have h7 : 0 ≤ r.at_ ∧ r.at_ ≤ r.at_ + n ∧ True := ⟨h2, by omega, trivial⟩
      rw [if_pos h7, e4]
      simp only [Option.bind_some]
      rw [app_ok (by simp; omega) (by simp; omega)]
      rfl
    · have h6 : (r.b.length : Int) < r.at_ + n := by omega
      simp [cur, he, e2, h6, seq_l, Sh.ref23_cursor_bytes_j2, Sh.ref23_cursor_bytes_j1, hlt, Sh.ref23_cursor_fault]
  · simp [cur, he, seq_l, Sh.ref23_cursor_bytes_j2, Sh.ref23_cursor_bytes_j1]
end
end Go.Sp
end
section
namespace Go.Sp
open Go Go.Fw Go.Fx Go.Proofs
set_option linter.unusedVariables false
set_option linter.unusedSimpArgs false
section
variable {b : List UInt8} {r r1 r2 : QReader}
theorem c_number (hb : b.length ≤ 16777216) (hw : Wf b r) (n : Nat) (hn : n ≤ 8) {v : Int} (h : Sh.trace_reader_number r (n : Nat) = some (v, r1)) : Sh.ref23_cursor_number (cur r) (n : Nat) = some (v, cur r1) ∧ (r1.e ≠ 0 → v = 0) := by
  rw [number_eq hb hw hn] at h
  have h1 := congrArg Prod.fst (Option.some.inj h)
  have h2 := congrArg Prod.snd (Option.some.inj h)
  simp only at h1 h2
  subst h1 h2
  refine ⟨c_number_eq hb hw hn, fun he => ?_⟩
  have : (tk r n).1 = [] := by
    unfold tk at he ⊢
    split
    · rename_i h0
      rw [if_pos h0] at he
      split
      · rename_i h1; rw [if_pos h1] at he; exact absurd h0 he
      · rfl
    · rfl
  rw [this]; simp [num]; rfl
theorem c_take (hb : b.length ≤ 16777216) (hw : Wf b r) {n : Int} (hn : 0 ≤ n ∧ n ≤ 4294967296) {x : List UInt8} (h : Sh.trace_reader_take r n = some (x, r1)) : Sh.ref23_cursor_bytes (cur r) n = some (x, cur r1) := by
  rw [take_eq hb hw hn] at h
  have h1 := congrArg Prod.fst (Option.some.inj h)
  have h2 := congrArg Prod.snd (Option.some.inj h)
  simp only at h1 h2
  subst h1 h2
  exact c_bytes_eq hb hw hn
theorem c_fault {p e : Int} (h : Sh.trace_reader_fault r p e = some r1) : Sh.ref23_cursor_fault (cur r) p e = some (cur r1) := by
  unfold Sh.trace_reader_fault at h
  unfold Sh.ref23_cursor_fault
  by_cases he : r.e = 0
  · simp [he] at h; subst h; simp [cur, he]
  · simp [he] at h; subst h; simp [cur, he]
theorem e_up {e : List UInt8} {g : Prop} (h : Rd b r r1 e g) (k : r1.e = 0) : r.e = 0 := (h.2 k).1
theorem c_back (hw : Wf b r) {v : Int} (h : Rd b r r1 [Fw.byteOf v] True) (hb : b.length ≤ 16777216) (he : r1.e = 0) : IntKind.i64.wrap (r1.at_ - 1) = r.at_ := by
  have := Rd.at_ hw h he
  simp only [List.length_singleton] at this
  have := hw.at0; have := hw.at1
  rw [w64 (by omega)]; omega
theorem c_most (hb : b.length ≤ 16777216) (hw : Wf b r) {n v : Int} (hn : 0 ≤ n) (h : Sh.trace_reader_most r n = some (v, r1)) : Sh.ref23_cursor_most (cur r) 1 n = some (v, cur r1) := by
  obtain ⟨u, r2, a1, a2, a3⟩ := byte_ok hb hw
  obtain ⟨c1, c2⟩ := c_number hb hw 1 (by omega) a1
  have c1' : Sh.ref23_cursor_number (cur r) 1 = some (u, cur r2) := c1
  unfold Sh.trace_reader_most at h
  unfold Sh.ref23_cursor_most
  simp only [a1, c1', Option.bind_some] at h ⊢
  by_cases he : r2.e = 0
  · rw [c_back hw a2 hb he] at h
    by_cases hlt : n < u
    · simp only [hlt, decide_true, cond_true, Option.bind_eq_some_iff] at h
      obtain ⟨r3, h3, h4⟩ := h
      cases h4
      have h5 : r1.e ≠ 0 := by
        unfold Sh.trace_reader_fault at h3; simp [he] at h3; subst h3; simp
      simp only [cur] at *
      simp only [he, hlt, decide_true, cond_true, seq_l, Sh.ref23_cursor_most_j2]
      have := c_fault h3
      simp only [cur, he] at this
      simp only [this, Option.bind_some, seq_l, Sh.ref23_cursor_most_j1, h5, decide_false, Bool.not_false, cond_true]
    · simp [hlt] at h
      obtain ⟨rfl, rfl⟩ := h
      simp [cur, he, hlt, seq_l, Sh.ref23_cursor_most_j2, Sh.ref23_cursor_most_j1]
  · have hu := c2 he
    subst hu
    have hlt : ¬ n < 0 := by omega
    simp [hlt] at h
    obtain ⟨rfl, rfl⟩ := h
    simp [cur, he, seq_l, Sh.ref23_cursor_most_j2, Sh.ref23_cursor_most_j1]
theorem c_rest (hb : b.length ≤ 16777216) (hw : Wf b r) {k : Int} (hk : 0 ≤ k ∧ k ≤ 5) {v : LVal} (h : Sh.trace_reader_rest r k = some (v, r1)) : Sh.ref23_cursor_behind (cur r) k = some (v, cur r1) := by
  by_cases h5 : k = 5
  · subst h5
    obtain ⟨t, r1, a1, a2, a3⟩ := most_ok hb hw (n := 7) (by omega)
    obtain ⟨q, r2, b1, b2, b3⟩ := most_ok hb a2.1 (n := 63) (by omega)
    obtain ⟨x, r3, c1, c2⟩ := eight_ok hb b2.1
    have d1 := c_most hb hw (by omega) a1
    have d2 := c_most hb a2.1 (by omega) b1
    have d3 : Sh.ref23_cursor_number (cur r2) 8 = some (x, cur r3) := (c_number hb b2.1 8 (by omega) c1).1
    simp [Sh.trace_reader_rest, Sh.trace_reader_rest_j1, Sh.trace_reader_rest_j2, a1, b1, c1, seq_l] at h
    obtain ⟨rfl, rfl⟩ := h
    simp [Sh.ref23_cursor_behind, Sh.ref23_cursor_behind_j1, Sh.ref23_cursor_behind_j2, d1, d2, d3, seq_l]
  · by_cases h0 : k = 0
    · subst h0
      simp [Sh.trace_reader_rest, Sh.trace_reader_rest_j1, Sh.trace_reader_rest_j2, seq_l] at h
      obtain ⟨rfl, rfl⟩ := h
      simp [Sh.ref23_cursor_behind, Sh.ref23_cursor_behind_j1, Sh.ref23_cursor_behind_j2, seq_l]
    · obtain ⟨x, r3, c1, c2⟩ := eight_ok hb hw
      have d3 : Sh.ref23_cursor_number (cur r) 8 = some (x, cur r3) := (c_number hb hw 8 (by omega) c1).1
      simp [Sh.trace_reader_rest, Sh.trace_reader_rest_j1, Sh.trace_reader_rest_j2, seq_l, h5, h0, c1] at h
      obtain ⟨rfl, rfl⟩ := h
      simp [Sh.ref23_cursor_behind, Sh.ref23_cursor_behind_j1, Sh.ref23_cursor_behind_j2, d3, seq_l, h5, h0]
theorem c_value (hb : b.length ≤ 16777216) (hw : Wf b r) {v : LVal} (h : Sh.trace_reader_value r = some (v, r1)) : Sh.ref23_cursor_value (cur r) = some (v, cur r1) := by
  obtain ⟨k, r2, a1, a2, a3, a4⟩ := most_ok hb hw (n := 5) (by omega)
  obtain ⟨v', r3, b1, b2, b3⟩ := rest_ok hb a2.1 ⟨a3, a4⟩
  have d1 := c_most hb hw (by omega) a1
  have d2 := c_rest hb a2.1 ⟨a3, a4⟩ b1
  simp [Sh.trace_reader_value, a1, b1] at h
  obtain ⟨rfl, rfl⟩ := h
  simp [Sh.ref23_cursor_value, d1, d2]
theorem c_slot_loop (hb : b.length ≤ 16777216) : ∀ (n i : Nat), n + i = 8 → ∀ (s : LSlot) (r : QReader), Wf b r → ∀ s' r',
    Fx.loop (fun (x : LSlot × QReader × Int) => match x with | (v1, v2, v3) => Sh.trace_reader_slot_l2 v1 v2 v3) (s, r, (i : Int)) = some (Sum.inl (s', r')) →
    Fx.loop (fun (x : LSlot × QCursor × Int) => match x with | (v1, v2, v3) => Sh.ref23_cursor_slot_l3 v1 v2 v3) (s, cur r, (i : Int)) = some (Sum.inl (s', cur r')) := by
  intro n
  induction n with
  | zero =>
    intro i hi s r hw s' r' h
    obtain rfl : i = 8 := by omega
    rw [loop_eq] at h
    simp [Sh.trace_reader_slot_l2] at h
    obtain ⟨rfl, rfl⟩ := h
    exact loop_out (by simp [Sh.ref23_cursor_slot_l3])
  | succ n ih =>
    intro i hi s r hw s' r' h
    have hlt : (i : Int) < 8 := by omega
    have e1 : IntKind.i64.wrap ((i : Int) + 1) = ((i + 1 : Nat) : Int) := next64 (n := 8) (by omega) (by omega)
    have hvl := s.bytes.len
    rw [loop_eq] at h
    by_cases hbit : band .i64 (shr .i64 s.mask i) 1 = 1
    · obtain ⟨x, r1, a1, a2, a3⟩ := byte_ok hb hw
      have d1 : Sh.ref23_cursor_number (cur r) 1 = some (x, cur r1) := (c_number hb hw 1 (by omega) a1).1
      have hg : Fx.get s.bytes.l (i : Int) = some (s.bytes.l[i]'(by omega)) := get_at (by omega)
      have hs : Sh.trace_reader_slot_l2 s r i = some (Sum.inl (LSlot.mk s.ptr (s.bytes.set i (Fw.byteOf x)) s.mask, r1, ((i + 1 : Nat) : Int))) := by
        simp [Sh.trace_reader_slot_l2, Sh.trace_reader_slot_j3, hlt, Fx.must, hbit, a1, hg, seq_l, e1]
      have hc : Sh.ref23_cursor_slot_l3 s (cur r) i = some (Sum.inl (LSlot.mk s.ptr (s.bytes.set i (Fw.byteOf x)) s.mask, cur r1, ((i + 1 : Nat) : Int))) := by
        simp [Sh.ref23_cursor_slot_l3, Sh.ref23_cursor_slot_j4, hlt, Fx.must, hbit, d1, hg, seq_l, e1]
      simp only [hs] at h
      exact loop_go hc (ih (i + 1) (by omega) _ r1 a2.1 s' r' h)
    · have hs : Sh.trace_reader_slot_l2 s r i = some (Sum.inl (s, r, ((i + 1 : Nat) : Int))) := by
        simp [Sh.trace_reader_slot_l2, Sh.trace_reader_slot_j3, hlt, Fx.must, hbit, seq_l, e1]
      have hc : Sh.ref23_cursor_slot_l3 s (cur r) i = some (Sum.inl (s, cur r, ((i + 1 : Nat) : Int))) := by
        simp [Sh.ref23_cursor_slot_l3, Sh.ref23_cursor_slot_j4, hlt, Fx.must, hbit, seq_l, e1]
      simp only [hs] at h
      exact loop_go hc (ih (i + 1) (by omega) _ r hw s' r' h)
theorem rest_bad (hb : b.length ≤ 16777216) (hw : Wf b r) (he : r.e ≠ 0) {k : Int} (hk : 0 ≤ k ∧ k ≤ 5) : ∃ v, Sh.trace_reader_rest r k = some (v, r) := by
  have hn : ∀ n : Nat, n ≤ 8 → Sh.trace_reader_number r (n : Nat) = some (0, r) := by
    intro n hn
    rw [number_eq hb hw hn]
    simp [tk, he, num]; rfl
  have h8 : Sh.trace_reader_number r 8 = some (0, r) := hn 8 (by omega)
  have h1 : Sh.trace_reader_number r 1 = some (0, r) := hn 1 (by omega)
  have hm : ∀ n, 0 ≤ n → Sh.trace_reader_most r n = some (0, r) := by
    intro n hn
    have : ¬ n < 0 := by omega
    simp [Sh.trace_reader_most, h1, this]
  by_cases h5 : k = 5
  · subst h5; exact ⟨_, by simp [Sh.trace_reader_rest, Sh.trace_reader_rest_j1, Sh.trace_reader_rest_j2, hm, h8, seq_l]; rfl⟩
  · by_cases h0 : k = 0
    · subst h0; exact ⟨_, by simp [Sh.trace_reader_rest, Sh.trace_reader_rest_j1, Sh.trace_reader_rest_j2, seq_l]; rfl⟩
    · exact ⟨_, by simp [Sh.trace_reader_rest, Sh.trace_reader_rest_j1, Sh.trace_reader_rest_j2, h8, h5, h0, seq_l]; rfl⟩
theorem c_slot (hb : b.length ≤ 16777216) (hw : Wf b r) {s : LSlot} (h : Sh.trace_reader_slot r = some (s, r1)) : ∃ s', Sh.ref23_cursor_slot (cur r) = some (s', cur r1) ∧ (r1.e = 0 → s' = s) := by
  obtain ⟨k, r2, a1, a2, a3, a4⟩ := most_ok hb hw (n := 5) (by omega)
  have d1 := c_most hb hw (by omega) a1
  by_cases h0 : k = 0
  · subst h0
    obtain ⟨m, r3, b1, b2, b3⟩ := byte_ok hb a2.1
    have d2 : Sh.ref23_cursor_number (cur r2) 1 = some (m, cur r3) := (c_number hb a2.1 1 (by omega) b1).1
    obtain ⟨v', r4, c1, c2, c3⟩ := slot_loop hb r3 m 8 0 rfl ⟨List.replicate 8 0, rfl⟩ r3 b2.1 (Rd.refl b2.1) (fun j hj _ => zr8 j hj)
    have d3 := c_slot_loop hb 8 0 rfl _ r3 b2.1 _ r4 c1
    have hs : Sh.trace_reader_slot r = some (LSlot.mk LVal.zero v' m, r4) := by
      simp only [Sh.trace_reader_slot, a1, b1, Option.bind_some, decide_true, cond_true]
      exact seq_eq c1 rfl
    rw [hs] at h
    cases h
    refine ⟨_, ?_, fun _ => rfl⟩
    simp only [Sh.ref23_cursor_slot, d1, Option.bind_some, show ¬ (0 : Int) = 1 by decide, decide_false, cond_false, seq_l, Sh.ref23_cursor_slot_j1, decide_true, Bool.not_true, d2]
    exact seq_eq d3 rfl
  · by_cases h1 : k = 1
    · subst h1
      obtain ⟨r3, b1, b2, b3⟩ := back_ok hb hw a2
      simp [Sh.trace_reader_slot, a1, b1] at h
      obtain ⟨-, rfl⟩ := h
      have e0 := b1
      have hf : Sh.ref23_cursor_fault (cur r2) (cur r).at_ 236 = some (cur r3) := by
        by_cases he : r2.e = 0
        · rw [c_back hw a2 hb he] at b1; exact c_fault b1
        · unfold Sh.trace_reader_fault at b1
          simp [he] at b1
          subst b1
          simp [Sh.ref23_cursor_fault, cur, he]
      obtain ⟨v, hv⟩ := rest_bad hb b2 b3 (k := 1) (by omega)
      have d2 := c_rest hb b2 (k := 1) (by omega) hv
      exact ⟨LSlot.mk v ⟨List.replicate 8 0, rfl⟩ 0, by simp [Sh.ref23_cursor_slot, d1, hf, seq_l, Sh.ref23_cursor_slot_j1, d2], fun he => absurd he b3⟩
    · obtain ⟨v, r3, b1, b2, b3⟩ := rest_ok hb a2.1 ⟨a3, a4⟩
      have d2 := c_rest hb a2.1 ⟨a3, a4⟩ b1
      simp [Sh.trace_reader_slot, a1, b1, h0, h1] at h
      obtain ⟨rfl, rfl⟩ := h
      exact ⟨_, by simp [Sh.ref23_cursor_slot, d1, h1, h0, seq_l, Sh.ref23_cursor_slot_j1, d2], fun _ => rfl⟩
end
end Go.Sp
end
section
namespace Go.Sp
open Go Go.Fw Go.Fx Go.Proofs
set_option linter.unusedVariables false
set_option linter.unusedSimpArgs false
theorem rwithin_eq (x lo hi : Int) : Sh.ref23_within x lo hi = some (decide (lo ≤ x ∧ x ≤ hi)) := by
  unfold Sh.ref23_within
  by_cases h : lo ≤ x <;> simp [h, Fx.seq, Fx.fin, Sh.ref23_within_j1]
theorem prev64 {i : Nat} (h : 0 < i) (hn : i ≤ 4611686018427387904) : IntKind.i64.wrap ((i : Int) - 1) = ((i - 1 : Nat) : Int) := by rw [w64 (by omega)]; omega
structure OkAt {X : Type} (key : X → Int) (bad : X → Prop) (top : Int) (l : List X) (i : Nat) (h : i < l.length) : Prop where
  lo : 0 ≤ key l[i]
  hi : key l[i] ≤ top
  un : ¬ bad l[i]
  up : ∀ (k : 0 < i), key (l[i - 1]'(by omega)) < key l[i]
def AllOk {X : Type} (key : X → Int) (bad : X → Prop) (top : Int) (l : List X) (n : Nat) : Prop := ∀ i (h : i < l.length), i < n → OkAt key bad top l i h
def AllReg (m : QMark) (n : Nat) : Prop := AllOk (fun t : LTurn => t.reg) (fun t => t.old = t.new) 10 m.regs n
def AllSlot (m : QMark) (n : Nat) : Prop := AllOk (fun t : LCell => t.slot) (fun t => t.old = t.new) 31 m.slots n
theorem AllOk.succ {X : Type} {key : X → Int} {bad : X → Prop} {top : Int} {l : List X} {n : Nat} (h : AllOk key bad top l n) (hn : n < l.length) (k : OkAt key bad top l n hn) : AllOk key bad top l (n + 1) := by
  intro i hi hin
  by_cases e : i = n
  · subst e; exact k
  · exact h i hi (by omega)
theorem regs_t {m : QMark} (hm : m.regs.length ≤ 1099511627776) : ∃ g, Fx.loop (fun (v : Int × Int) => match v with | (v1, v2) => Sh.trace_plain_l3 m v1 v2) (0, -1) = some g ∧ ((g = Sum.inl () ∧ AllReg m m.regs.length) ∨ (g = Sum.inr false ∧ ¬ AllReg m m.regs.length)) := by
  refine count_rule (body := fun (v : Int × Int) => match v with | (v1, v2) => Sh.trace_plain_l3 m v1 v2) m.regs.length (fun i (a : Int) => ((i : Int), a)) (fun i a => AllReg m i ∧ ((i = 0 ∧ a = -1) ∨ ∃ h : i - 1 < m.regs.length, 0 < i ∧ a = (m.regs[i - 1]).reg)) _
    (fun i a hi hI => ?_) (fun a hI => ⟨Sum.inl (), by simp [Sh.trace_plain_l3], .inl ⟨rfl, hI.1⟩⟩) m.regs.length 0 (-1) (by omega) ⟨fun _ _ h => by omega, .inl ⟨rfl, rfl⟩⟩
  show (∃ a', Sh.trace_plain_l3 m (i : Int) a = _ ∧ _) ∨ ∃ g, Sh.trace_plain_l3 m (i : Int) a = _ ∧ _
  obtain ⟨hA, ha⟩ := hI
  have hrange : -1 ≤ a ∧ a ≤ 10 := by
    rcases ha with ⟨_, rfl⟩ | ⟨h, h0, rfl⟩
    · omega
    · have := hA (i - 1) h (by omega); have h1 := this.lo; have h2 := this.hi; omega
  have e1 : IntKind.i64.wrap (a + 1) = a + 1 := w64 (by omega)
  have hup : ∀ q : Int, (∀ (k : 0 < i), (m.regs[i - 1]'(by omega)).reg < q) ∧ 0 ≤ q ↔ a + 1 ≤ q := by
    intro q
    rcases ha with ⟨h0, rfl⟩ | ⟨h, h0, rfl⟩
    · subst h0; constructor
      · rintro ⟨_, h⟩; omega
      · intro h; exact ⟨fun k => by omega, by omega⟩
    · have := (hA (i - 1) h (by omega)).lo
      constructor
      · rintro ⟨h1, _⟩; have := h1 h0; omega
      · intro h1; exact ⟨fun _ => by omega, by omega⟩
  simp only [Sh.trace_plain_l3, lt_dec, hi, decide_true, cond_true, get_at hi, Option.bind_some, within_eq, Sh.trace_plain_j4, e1]
  by_cases c : a + 1 ≤ (m.regs[i]).reg ∧ (m.regs[i]).reg ≤ 10
  · by_cases c' : (m.regs[i]).old = (m.regs[i]).new
    · right
      refine ⟨Sum.inr false, by simp [c, c', seq_l], .inr ⟨rfl, fun h => (h i hi hi).un c'⟩⟩
    · left
      refine ⟨(m.regs[i]).reg, by simp [c, c', seq_l, next64 hi (show m.regs.length ≤ _ by omega)], hA.succ hi ⟨((hup _).2 c.1).2, c.2, c', ((hup _).2 c.1).1⟩, .inr ⟨by omega, by omega, rfl⟩⟩
  · right
    refine ⟨Sum.inr false, by simp [c, seq_l], .inr ⟨rfl, fun h => c ⟨(hup _).1 ⟨(h i hi hi).up, (h i hi hi).lo⟩, (h i hi hi).hi⟩⟩⟩
theorem regs_r {m : QMark} (hm : m.regs.length ≤ 1099511627776) : ∃ g, Fx.loop (fun (v : Int) => Sh.ref23_Plain_l3 m v) 0 = some g ∧ ((g = Sum.inl () ∧ AllReg m m.regs.length) ∨ (g = Sum.inr false ∧ ¬ AllReg m m.regs.length)) := by
  refine count_rule (body := fun (v : Int) => Sh.ref23_Plain_l3 m v) m.regs.length (fun i (a : Unit) => (i : Int)) (fun i a => AllReg m i) _
    (fun i a hi hA => ?_) (fun a hI => ⟨Sum.inl (), by simp [Sh.ref23_Plain_l3], .inl ⟨rfl, hI⟩⟩) m.regs.length 0 () (by omega) (fun _ _ h => by omega)
  show (∃ a', Sh.ref23_Plain_l3 m (i : Int) = _ ∧ _) ∨ ∃ g, Sh.ref23_Plain_l3 m (i : Int) = _ ∧ _
  simp only [Sh.ref23_Plain_l3, lt_dec, hi, decide_true, cond_true, get_at hi, Option.bind_some, rwithin_eq, Sh.ref23_Plain_j4]
  by_cases c : 0 ≤ (m.regs[i]).reg ∧ (m.regs[i]).reg ≤ 10
  · by_cases c' : (m.regs[i]).old = (m.regs[i]).new
    · right
      refine ⟨Sum.inr false, by simp [c, c', seq_l], .inr ⟨rfl, fun h => (h i hi hi).un c'⟩⟩
    · by_cases h0 : 0 < i
      · have h0' : (0 : Int) < (i : Int) := by omega
        have hp : i - 1 < m.regs.length := by omega
        by_cases c2 : (m.regs[i]).reg ≤ (m.regs[i - 1]).reg
        · right
          refine ⟨Sum.inr false, by simp [c, c', h0, prev64 h0 (by omega), get_at hp, c2, seq_l], .inr ⟨rfl, fun h => ?_⟩⟩
          have := (h i hi hi).up h0
          omega
        · left
          refine ⟨(), by simp [c, c', h0, prev64 h0 (by omega), get_at hp, c2, seq_l, next64 hi (show m.regs.length ≤ _ by omega)], AllOk.succ hA hi ⟨c.1, c.2, c', fun _ => by omega⟩⟩
      · left
        have h0' : ¬ (0 : Int) < (i : Int) := by omega
        refine ⟨(), by simp [c, c', h0, seq_l, next64 hi (show m.regs.length ≤ _ by omega)], AllOk.succ hA hi ⟨c.1, c.2, c', fun k => absurd k h0⟩⟩
  · right
    refine ⟨Sum.inr false, by simp [c, seq_l], .inr ⟨rfl, fun h => c ⟨(h i hi hi).lo, (h i hi hi).hi⟩⟩⟩
theorem slots_t {m : QMark} (hm : m.slots.length ≤ 1099511627776) : ∃ g, Fx.loop (fun (v : Int × Int) => match v with | (v1, v2) => Sh.trace_plain_l6 m v1 v2) (-1, 0) = some g ∧ ((g = Sum.inl () ∧ AllSlot m m.slots.length) ∨ (g = Sum.inr false ∧ ¬ AllSlot m m.slots.length)) := by
  refine count_rule (body := fun (v : Int × Int) => match v with | (v1, v2) => Sh.trace_plain_l6 m v1 v2) m.slots.length (fun i (a : Int) => (a, (i : Int))) (fun i a => AllSlot m i ∧ ((i = 0 ∧ a = -1) ∨ ∃ h : i - 1 < m.slots.length, 0 < i ∧ a = (m.slots[i - 1]).slot)) _
    (fun i a hi hI => ?_) (fun a hI => ⟨Sum.inl (), by simp [Sh.trace_plain_l6], .inl ⟨rfl, hI.1⟩⟩) m.slots.length 0 (-1) (by omega) ⟨fun _ _ h => by omega, .inl ⟨rfl, rfl⟩⟩
  show (∃ a', Sh.trace_plain_l6 m a (i : Int) = _ ∧ _) ∨ ∃ g, Sh.trace_plain_l6 m a (i : Int) = _ ∧ _
  obtain ⟨hA, ha⟩ := hI
  have hrange : -1 ≤ a ∧ a ≤ 31 := by
    rcases ha with ⟨_, rfl⟩ | ⟨h, h0, rfl⟩
    · omega
    · have := hA (i - 1) h (by omega); have h1 := this.lo; have h2 := this.hi; omega
  have e1 : IntKind.i64.wrap (a + 1) = a + 1 := w64 (by omega)
  have hup : ∀ q : Int, (∀ (k : 0 < i), (m.slots[i - 1]'(by omega)).slot < q) ∧ 0 ≤ q ↔ a + 1 ≤ q := by
    intro q
    rcases ha with ⟨h0, rfl⟩ | ⟨h, h0, rfl⟩
    · subst h0; constructor
      · rintro ⟨_, h⟩; omega
      · intro h; exact ⟨fun k => by omega, by omega⟩
    · have := (hA (i - 1) h (by omega)).lo
      constructor
      · rintro ⟨h1, _⟩; have := h1 h0; omega
      · intro h1; exact ⟨fun _ => by omega, by omega⟩
  simp only [Sh.trace_plain_l6, lt_dec, hi, decide_true, cond_true, get_at hi, Option.bind_some, within_eq, Sh.trace_plain_j7, e1]
  by_cases c : a + 1 ≤ (m.slots[i]).slot ∧ (m.slots[i]).slot ≤ 31
  · by_cases c' : (m.slots[i]).old = (m.slots[i]).new
    · right
      refine ⟨Sum.inr false, by simp [c, c', seq_l], .inr ⟨rfl, fun h => (h i hi hi).un c'⟩⟩
    · left
      refine ⟨(m.slots[i]).slot, by simp [c, c', seq_l, next64 hi (show m.slots.length ≤ _ by omega)], hA.succ hi ⟨((hup _).2 c.1).2, c.2, c', ((hup _).2 c.1).1⟩, .inr ⟨by omega, by omega, rfl⟩⟩
  · right
    refine ⟨Sum.inr false, by simp [c, seq_l], .inr ⟨rfl, fun h => c ⟨(hup _).1 ⟨(h i hi hi).up, (h i hi hi).lo⟩, (h i hi hi).hi⟩⟩⟩
theorem slots_r {m : QMark} (hm : m.slots.length ≤ 1099511627776) : ∃ g, Fx.loop (fun (v : Int) => Sh.ref23_Plain_l6 m v) 0 = some g ∧ ((g = Sum.inl () ∧ AllSlot m m.slots.length) ∨ (g = Sum.inr false ∧ ¬ AllSlot m m.slots.length)) := by
  refine count_rule (body := fun (v : Int) => Sh.ref23_Plain_l6 m v) m.slots.length (fun i (a : Unit) => (i : Int)) (fun i a => AllSlot m i) _
    (fun i a hi hA => ?_) (fun a hI => ⟨Sum.inl (), by simp [Sh.ref23_Plain_l6], .inl ⟨rfl, hI⟩⟩) m.slots.length 0 () (by omega) (fun _ _ h => by omega)
  show (∃ a', Sh.ref23_Plain_l6 m (i : Int) = _ ∧ _) ∨ ∃ g, Sh.ref23_Plain_l6 m (i : Int) = _ ∧ _
  simp only [Sh.ref23_Plain_l6, lt_dec, hi, decide_true, cond_true, get_at hi, Option.bind_some, rwithin_eq, Sh.ref23_Plain_j7]
  by_cases c : 0 ≤ (m.slots[i]).slot ∧ (m.slots[i]).slot ≤ 31
  · by_cases c' : (m.slots[i]).old = (m.slots[i]).new
    · right
      refine ⟨Sum.inr false, by simp [c, c', seq_l], .inr ⟨rfl, fun h => (h i hi hi).un c'⟩⟩
    · by_cases h0 : 0 < i
      · have h0' : (0 : Int) < (i : Int) := by omega
        have hp : i - 1 < m.slots.length := by omega
        by_cases c2 : (m.slots[i]).slot ≤ (m.slots[i - 1]).slot
        · right
          refine ⟨Sum.inr false, by simp [c, c', h0, prev64 h0 (by omega), get_at hp, c2, seq_l], .inr ⟨rfl, fun h => ?_⟩⟩
          have := (h i hi hi).up h0
          omega
        · left
          refine ⟨(), by simp [c, c', h0, prev64 h0 (by omega), get_at hp, c2, seq_l, next64 hi (show m.slots.length ≤ _ by omega)], AllOk.succ hA hi ⟨c.1, c.2, c', fun _ => by omega⟩⟩
      · left
        have h0' : ¬ (0 : Int) < (i : Int) := by omega
        refine ⟨(), by simp [c, c', h0, seq_l, next64 hi (show m.slots.length ≤ _ by omega)], AllOk.succ hA hi ⟨c.1, c.2, c', fun k => absurd k h0⟩⟩
  · right
    refine ⟨Sum.inr false, by simp [c, seq_l], .inr ⟨rfl, fun h => c ⟨(h i hi hi).lo, (h i hi hi).hi⟩⟩⟩
def Differ (x y : List UInt8) : Prop := ∀ i, i < x.length → x.getD i 0 ≠ y.getD i 0
structure OkP (l : List QPiece) (i : Nat) (h : i < l.length) : Prop where
  lo : -1 ≤ (l[i]).table
  hi : (l[i]).table ≤ 7
  from0 : 0 ≤ (l[i]).from_
  ne : (l[i]).old.length ≠ 0
  eq : (l[i]).new.length = (l[i]).old.length
  top : (l[i]).from_ + ((l[i]).old.length : Int) ≤ 65535
  df : Differ (l[i]).old (l[i]).new
  up : ∀ (k : 0 < i), (l[i - 1]'(by omega)).table < (l[i]).table ∨ ((l[i - 1]'(by omega)).table = (l[i]).table ∧ (l[i - 1]'(by omega)).from_ + ((l[i - 1]'(by omega)).old.length : Int) < (l[i]).from_)
def AllP (l : List QPiece) (n : Nat) : Prop := ∀ i (h : i < l.length), i < n → OkP l i h
theorem AllP.succ {l : List QPiece} {n : Nat} (h : AllP l n) (hn : n < l.length) (k : OkP l n hn) : AllP l (n + 1) := by
  intro i hi hin
  by_cases e : i = n
  · subst e; exact k
  · exact h i hi (by omega)
theorem changed_len {x y : List UInt8} (h : y.length = x.length) (hx : x.length ≤ 1099511627776) : ∃ l, Sh.trace_changed_byte x y = some l ∧ l.length ≤ x.length ∧ (l.length = x.length ↔ Differ x y) := by
  unfold Sh.trace_changed_byte
  obtain ⟨g, h1, l, h2, h3, h4⟩ := count_rule (body := fun (v : List Int × Int) => match v with | (v1, v2) => Sh.trace_changed_byte_l2 x y v1 v2) x.length (fun i (a : List Int) => (a, (i : Int))) (fun i a => a.length ≤ i ∧ (a.length = i ↔ ∀ j, j < i → x.getD j 0 ≠ y.getD j 0)) (fun g => ∃ l, g = Sum.inl l ∧ l.length ≤ x.length ∧ (l.length = x.length ↔ Differ x y))
    (fun i a hi ha => .inl (by
      have ex : x.getD i 0 = x[i] := by simp [List.getD, List.getElem?_eq_getElem hi]
      have ey : y.getD i 0 = y[i]'(by omega) := by simp [List.getD, List.getElem?_eq_getElem (show i < y.length by omega)]
      by_cases hc : x[i] = y[i]'(by omega)
      · refine ⟨a, by simp [Sh.trace_changed_byte_l2, Sh.trace_changed_byte_j3, hi, get_at hi, get_at (show i < y.length by omega), hc, seq_l, next64 hi (by omega)], by omega, ?_⟩
        constructor
        · intro e; omega
        · intro e; exact absurd (by rw [ex, ey, hc]) (e i (by omega))
      · have hc' : ¬ ((x[i]).toNat : Int) = ((y[i]'(by omega)).toNat : Int) := fun e => hc (UInt8.toNat_inj.1 (by omega))
        refine ⟨a ++ [(i : Int)], by simp [Sh.trace_changed_byte_l2, Sh.trace_changed_byte_j3, hi, get_at hi, get_at (show i < y.length by omega), hc', seq_l, next64 hi (by omega), app_ok (bytes := 8) (l := a) (m := [(i : Int)]) (by simp; omega) (by simp; omega)], by simp; omega, ?_⟩
        simp only [List.length_append, List.length_singleton]
        constructor
        · intro e j hj
          by_cases hji : j = i
          · subst hji; rw [ex, ey]; exact hc
          · exact ha.2.1 (by omega) j (by omega)
        · intro e
          have := ha.2.2 (fun j hj => e j (by omega))
          omega))
    (fun a ha => ⟨Sum.inl a, by simp [Sh.trace_changed_byte_l2], a, rfl, ha.1, ha.2⟩) x.length 0 [] (by omega) (by simp)
  subst h2
  exact ⟨l, seq_eq h1 rfl, h3, h4⟩
end Go.Sp
end
section
namespace Go.Sp
open Go Go.Fw Go.Fx Go.Proofs
set_option linter.unusedVariables false
set_option linter.unusedSimpArgs false
theorem pieces_t {l : List QPiece} (hl : l.length ≤ 1099511627776) : ∃ g, Fx.loop (fun (v : Int × Int × Int) => match v with | (v1, v2, v3) => Sh.trace_plainPieces_l2 l v1 v2 v3) (0, -1, 0) = some g ∧ ((g = Sum.inl () ∧ AllP l l.length) ∨ (g = Sum.inr false ∧ ¬ AllP l l.length)) := by
  refine count_rule (body := fun (v : Int × Int × Int) => match v with | (v1, v2, v3) => Sh.trace_plainPieces_l2 l v1 v2 v3) l.length (fun i (a : Int × Int) => ((i : Int), a.1, a.2)) (fun i a => AllP l i ∧ ((i = 0 ∧ a = (-1, 0)) ∨ ∃ h : i - 1 < l.length, 0 < i ∧ a = ((l[i - 1]).table, (l[i - 1]).from_ + ((l[i - 1]).old.length : Int) + 1))) _
    (fun i a hi hI => ?_) (fun a hI => ⟨Sum.inl (), by simp [Sh.trace_plainPieces_l2], .inl ⟨rfl, hI.1⟩⟩) l.length 0 (-1, 0) (by omega) ⟨fun _ _ h => by omega, .inl ⟨rfl, rfl⟩⟩
  obtain ⟨t, f⟩ := a
  obtain ⟨hA, ha⟩ := hI
  show (∃ a', Sh.trace_plainPieces_l2 l (i : Int) t f = _ ∧ _) ∨ ∃ g, Sh.trace_plainPieces_l2 l (i : Int) t f = _ ∧ _
  generalize hp : l[i] = p
  have ht : -1 ≤ t ∧ t ≤ 7 ∧ 0 ≤ f ∧ f ≤ 65536 := by
    rcases ha with ⟨_, e⟩ | ⟨h, h0, e⟩
    · cases e; omega
    · have := hA (i - 1) h (by omega)
      have h1 := this.lo; have h2 := this.hi; have h3 := this.from0; have h4 := this.top
      cases e; omega
  have bad : (∀ h : OkP l i hi, False) → ∃ g, (some (Sum.inr (Sum.inr false)) : Option ((Int × Int × Int) ⊕ (Unit ⊕ Bool))) = some (Sum.inr g) ∧ ((g = Sum.inl () ∧ AllP l l.length) ∨ (g = Sum.inr false ∧ ¬ AllP l l.length)) :=
    fun h => ⟨_, rfl, .inr ⟨rfl, fun k => h (k i hi hi)⟩⟩
  -- what the place must be, said of the state (t, f)
  have hup : ∀ h : OkP l i hi, t ≤ p.table ∧ (p.table = t → f ≤ p.from_) := by
    intro h
    rcases ha with ⟨h0, e⟩ | ⟨h', h0, e⟩
    · cases e; have := h.lo; have := h.from0; rw [hp] at *; exact ⟨by omega, fun _ => by omega⟩
    · cases e
      have := h.up h0
      rw [hp] at this
      rcases this with h1 | ⟨h1, h2⟩
      · exact ⟨by omega, fun e => by omega⟩
      · exact ⟨by omega, fun e => by omega⟩
  have hdown : ∀ q : Int, t ≤ p.table → 0 ≤ p.from_ → (p.table = t → f ≤ p.from_) → ∀ (k : 0 < i), (l[i - 1]'(by omega)).table < p.table ∨ ((l[i - 1]'(by omega)).table = p.table ∧ (l[i - 1]'(by omega)).from_ + ((l[i - 1]'(by omega)).old.length : Int) < p.from_) := by
    intro q h1 h2 h3 k
    rcases ha with ⟨h0, e⟩ | ⟨h', h0, e⟩
    · omega
    · cases e
      by_cases hc : p.table = (l[i - 1]).table
      · right; have := h3 hc; exact ⟨hc.symm, by omega⟩
      · left; omega
  have key : ∀ f', 0 ≤ f' ∧ f' ≤ 65536 → t ≤ p.table → p.table ≤ 7 → (f' ≤ p.from_ → 0 ≤ p.from_ → (p.table = t → f ≤ p.from_)) → (∀ h : OkP l i hi, f' ≤ p.from_) →
      (∃ a', Sh.trace_plainPieces_j3 (i : Int) p p.table f' = some (Sum.inl (((i + 1 : Nat) : Int), a'.1, a'.2)) ∧ AllP l (i + 1) ∧ ((i + 1 = 0 ∧ a' = ((-1, 0) : Int × Int)) ∨ ∃ h : i + 1 - 1 < l.length, 0 < i + 1 ∧ a' = ((l[i + 1 - 1]).table, (l[i + 1 - 1]).from_ + ((l[i + 1 - 1]).old.length : Int) + 1))) ∨
      ∃ g, Sh.trace_plainPieces_j3 (i : Int) p p.table f' = some (Sum.inr g) ∧ ((g = Sum.inl () ∧ AllP l l.length) ∨ (g = Sum.inr false ∧ ¬ AllP l l.length)) := by
    intro f' hf h1 h2 h3 h4
    unfold Sh.trace_plainPieces_j3
    by_cases c1 : (p.old.length : Int) = 0
    · right; simpa [c1, seq_l, Sh.trace_plainPieces_j4] using bad (fun h => h.ne (by rw [hp]; omega))
    by_cases c2 : (p.new.length : Int) = (p.old.length : Int)
    · by_cases c3 : 65535 < (p.old.length : Int)
      · right; simpa [c1, c2, c3, seq_l, Sh.trace_plainPieces_j4] using bad (fun h => by have h5 := h.top; have h6 := h.from0; rw [hp] at h5 h6; omega)
      · have e1 : IntKind.i64.wrap (65535 - (p.old.length : Int)) = 65535 - (p.old.length : Int) := w64 (by omega)
        simp only [c1, c2, c3, decide_false, decide_true, cond_false, Bool.not_true, within_eq, Option.bind_some, e1]
        by_cases c4 : f' ≤ p.from_ ∧ p.from_ ≤ 65535 - (p.old.length : Int)
        · obtain ⟨x, hx, hx1, hx2⟩ := changed_len (x := p.old) (y := p.new) (by omega) (by omega)
          simp only [c4, decide_true, Bool.not_true, cond_false, and_self, hx, Option.bind_some, seq_l, Sh.trace_plainPieces_j4]
          by_cases c5 : (x.length : Int) < (p.old.length : Int)
          · right
            rw [decide_eq_true c5]
            exact bad (fun h => by have := hx2.2 (by rw [← hp]; exact h.df); omega)
          · left
            have e2 : IntKind.i64.wrap (IntKind.i64.wrap (p.from_ + (p.old.length : Int)) + 1) = p.from_ + (p.old.length : Int) + 1 := by rw [w64 (x := p.from_ + (p.old.length : Int)) (by omega), w64 (by omega)]
            refine ⟨(p.table, p.from_ + (p.old.length : Int) + 1), by simp only [c5, decide_false, cond_false, next64 hi (show l.length ≤ _ by omega), e2], hA.succ hi ?_, .inr ⟨by omega, by omega, by simp [hp]⟩⟩
            have hd := hx2.1 (by omega)
            refine ⟨by rw [hp]; omega, by rw [hp]; omega, by rw [hp]; omega, by rw [hp]; omega, by rw [hp]; omega, by rw [hp]; omega, by rw [hp]; exact hd, ?_⟩
            rw [hp]
            exact hdown 0 h1 (by omega) (h3 c4.1 (by omega))
        · right
          simp only [c4, decide_false, Bool.not_false, cond_true, seq_l, Sh.trace_plainPieces_j4]
          exact bad (fun h => c4 ⟨h4 h, by have h5 := h.top; rw [hp] at h5; omega⟩)
    · right; simpa [c1, c2, seq_l, Sh.trace_plainPieces_j4] using bad (fun h => c2 (by have := h.eq; rw [hp] at this; omega))
  simp only [Sh.trace_plainPieces_l2, lt_dec, hi, decide_true, cond_true, get_at hi, hp, Option.bind_some, within_eq]
  by_cases c : t ≤ p.table ∧ p.table ≤ 7
  · simp only [c, and_self, decide_true, Bool.not_true, cond_false]
    by_cases c' : t < p.table
    · simp only [c', decide_true, cond_true, seq_l]
      exact key 0 (by omega) c.1 c.2 (fun _ _ e => by omega) (fun h => by have := h.from0; rw [hp] at this; exact this)
    · have e : p.table = t := by omega
      simp only [c', decide_false, cond_false, seq_l]
      have := key f (by omega) c.1 c.2 (fun h _ _ => h) (fun h => (hup h).2 e)
      rw [e] at this
      rw [e] at *
      exact this
  · simp only [c, decide_false, Bool.not_false, cond_true, seq_r]
    right
    exact bad (fun h => c ⟨(hup h).1, by have := h.hi; rw [hp] at this; exact this⟩)
theorem bytes_r {x : QPiece} (h : x.new.length = x.old.length) (hx : x.old.length ≤ 1099511627776) : ∃ g, Fx.loop (fun (v : Int) => Sh.ref23_pieces_l6 x v) 0 = some g ∧ ((g = Sum.inl () ∧ Differ x.old x.new) ∨ (g = Sum.inr (Sum.inr (Sum.inr (Sum.inr false))) ∧ ¬ Differ x.old x.new)) := by
  refine count_rule (body := fun (v : Int) => Sh.ref23_pieces_l6 x v) x.old.length (fun i (a : Unit) => (i : Int)) (fun i a => ∀ j, j < i → x.old.getD j 0 ≠ x.new.getD j 0) _
    (fun i a hi hA => ?_) (fun a hI => ⟨Sum.inl (), by simp [Sh.ref23_pieces_l6], .inl ⟨rfl, hI⟩⟩) x.old.length 0 () (by omega) (fun _ h => by omega)
  have hi2 : i < x.new.length := by omega
  have ex : x.old.getD i 0 = x.old[i] := by simp [List.getD, List.getElem?_eq_getElem hi]
  have ey : x.new.getD i 0 = x.new[i] := by simp [List.getD, List.getElem?_eq_getElem hi2]
  by_cases hc : ((x.old[i]).toNat : Int) = ((x.new[i]).toNat : Int)
  · right
    refine ⟨Sum.inr (Sum.inr (Sum.inr (Sum.inr false))), by simp [Sh.ref23_pieces_l6, hi, get_at hi, get_at hi2, hc], .inr ⟨rfl, fun hd => hd i hi ?_⟩⟩
    rw [ex, ey]
    exact UInt8.toNat_inj.1 (by omega)
  · left
    refine ⟨(), by simp [Sh.ref23_pieces_l6, hi, get_at hi, get_at hi2, hc, next64 hi (show x.old.length ≤ _ by omega)], fun j hj => ?_⟩
    by_cases e : j = i
    · subst e; rw [ex, ey]; intro e; rw [e] at hc; exact hc rfl
    · exact hA j (by omega)
theorem pieces_r {l : List QPiece} (hl : l.length ≤ 1099511627776) (hq : ∀ p ∈ l, p.old.length ≤ 1099511627776) : ∃ g, Fx.loop (fun (v : Int) => Sh.ref23_pieces_l2 l v) 0 = some g ∧ ((g = Sum.inl () ∧ AllP l l.length) ∨ (g = Sum.inr false ∧ ¬ AllP l l.length)) := by
  refine count_rule (body := fun (v : Int) => Sh.ref23_pieces_l2 l v) l.length (fun i (a : Unit) => (i : Int)) (fun i a => AllP l i) _
    (fun i a hi hA => ?_) (fun a hI => ⟨Sum.inl (), by simp [Sh.ref23_pieces_l2], .inl ⟨rfl, hI⟩⟩) l.length 0 () (by omega) (fun _ _ h => by omega)
  have hpl := hq l[i] (List.getElem_mem hi)
  generalize hp : l[i] = p at hpl
  have bad : (∀ h : OkP l i hi, False) → ∃ g, (some (Sum.inr (Sum.inr false)) : Option (Int ⊕ (Unit ⊕ Bool))) = some (Sum.inr g) ∧ ((g = Sum.inl () ∧ AllP l l.length) ∨ (g = Sum.inr false ∧ ¬ AllP l l.length)) :=
    fun h => ⟨_, rfl, .inr ⟨rfl, fun k => h (k i hi hi)⟩⟩
  show (∃ a', Sh.ref23_pieces_l2 l (i : Int) = _ ∧ _) ∨ ∃ g, Sh.ref23_pieces_l2 l (i : Int) = _ ∧ _
  simp only [Sh.ref23_pieces_l2, lt_dec, hi, decide_true, cond_true, get_at hi, hp, Option.bind_some, rwithin_eq]
  by_cases c1 : -1 ≤ p.table ∧ p.table ≤ 7
  case neg => right; simpa [c1, seq_l, Sh.ref23_pieces_j4, seq_r] using bad (fun h => c1 ⟨by rw [← hp]; exact h.lo, by rw [← hp]; exact h.hi⟩)
  by_cases c2 : 0 ≤ p.from_ ∧ p.from_ ≤ 65535
  case neg => right; simpa [c1, c2, seq_l, Sh.ref23_pieces_j4, seq_r] using bad (fun h => c2 ⟨by rw [← hp]; exact h.from0, by have := h.top; rw [hp] at this; omega⟩)
  by_cases c3 : (p.old.length : Int) = (p.new.length : Int)
  case neg => right; simpa [c1, c2, c3, seq_l, Sh.ref23_pieces_j4, seq_r] using bad (fun h => c3 (by have := h.eq; rw [hp] at this; omega))
  by_cases c4 : (p.old.length : Int) = 0
  · right
    simp only [decide_eq_true c1, decide_eq_true c2, decide_eq_true c3, decide_eq_true c4, Bool.not_true, cond_false, cond_true, seq_l, Sh.ref23_pieces_j4, seq_r]
    exact bad (fun h => h.ne (by rw [hp]; omega))
  by_cases c5 : 65535 < IntKind.i64.wrap (p.from_ + (p.old.length : Int))
  · right
    have := bad (fun h => by have h5 := h.top; rw [hp] at h5; rw [w64 (by omega)] at c5; omega)
    simp only [decide_eq_true c1, decide_eq_true c2, decide_eq_true c3, decide_eq_false c4, decide_eq_true c5, Bool.not_true, cond_false, cond_true, seq_l, Sh.ref23_pieces_j4, seq_r]
    exact this
  have c5' : p.from_ + (p.old.length : Int) ≤ 65535 := by rw [w64 (by omega)] at c5; omega
  obtain ⟨g, hg, hgo⟩ := bytes_r (x := p) (by omega) (by omega)
  have hred : ∀ t, Sh.ref23_pieces_j4 l (i : Int) p false = t → seq (seq (bif !decide (-1 ≤ p.table ∧ p.table ≤ 7) then some (Sum.inl true) else bif !decide (0 ≤ p.from_ ∧ p.from_ ≤ 65535) then some (Sum.inl true) else bif !decide ((p.old.length : Int) = (p.new.length : Int)) then some (Sum.inl true) else bif decide ((p.old.length : Int) = 0) then some (Sum.inl true) else some (Sum.inl (decide (65535 < IntKind.i64.wrap (p.from_ + (p.old.length : Int)))))) fun v10065 => Sh.ref23_pieces_j4 l (i : Int) p v10065) (fun x => Sh.ref23_pieces_j3 (i : Int)) = seq t (fun x => Sh.ref23_pieces_j3 (i : Int)) := by
    intro t ht
    rw [decide_eq_true c1, decide_eq_true c2, decide_eq_true c3, decide_eq_false c4, decide_eq_false c5]
    simp only [Bool.not_true, cond_false, seq_l, ht]
  rcases hgo with ⟨rfl, hd⟩ | ⟨rfl, hd⟩
  · have hj4 : Sh.ref23_pieces_j4 l (i : Int) p false = Sh.ref23_pieces_j5 l (i : Int) p := by
      unfold Sh.ref23_pieces_j4
      simp only [cond_false]
      exact seq_eq hg rfl
    rw [hred _ hj4]
    have hok : (∀ (k : 0 < i), (l[i - 1]'(by omega)).table < p.table ∨ ((l[i - 1]'(by omega)).table = p.table ∧ (l[i - 1]'(by omega)).from_ + ((l[i - 1]'(by omega)).old.length : Int) < p.from_)) → OkP l i hi := by
      intro hu
      refine ⟨by rw [hp]; omega, by rw [hp]; omega, by rw [hp]; omega, by rw [hp]; omega, by rw [hp]; omega, by rw [hp]; omega, by rw [hp]; exact hd, ?_⟩
      rw [hp]; exact hu
    unfold Sh.ref23_pieces_j5
    by_cases h0 : i = 0
    · subst h0
      left
      exact ⟨(), by simp [seq_l, Sh.ref23_pieces_j3]; exact next64 hi (by omega), hA.succ hi (hok (fun k => absurd k (by omega)))⟩
    · have h0' : ¬ (i : Int) = 0 := by omega
      have hpi : i - 1 < l.length := by omega
      have hprev := hA (i - 1) hpi (by omega)
      simp only [h0', decide_false, cond_false, prev64 (show 0 < i by omega) (by omega), get_at hpi, Option.bind_some]
      generalize hq : l[i - 1] = q at *
      have e1 : IntKind.i64.wrap (q.from_ + (q.old.length : Int)) = q.from_ + (q.old.length : Int) := by
        have h1 := hprev.from0; have h2 := hprev.top; rw [hq] at h1 h2; exact w64 (by omega)
      by_cases d1 : p.table < q.table
      · right
        simpa [d1, seq_l, seq_r, Sh.ref23_pieces_j7] using bad (fun h => by have := h.up (by omega); rw [hp, hq] at this; omega)
      · by_cases d2 : p.table = q.table
        · by_cases d3 : p.from_ ≤ q.from_ + (q.old.length : Int)
          · right
            simpa [d1, d2, d3, e1, seq_l, seq_r, Sh.ref23_pieces_j7] using bad (fun h => by have := h.up (by omega); rw [hp, hq] at this; omega)
          · left
            exact ⟨(), by simp [d1, d2, d3, e1, seq_l, Sh.ref23_pieces_j7, Sh.ref23_pieces_j3]; exact next64 hi (by omega), hA.succ hi (hok (fun k => by rw [hq]; right; omega))⟩
        · left
          exact ⟨(), by simp [d1, d2, seq_l, Sh.ref23_pieces_j7, Sh.ref23_pieces_j3]; exact next64 hi (by omega), hA.succ hi (hok (fun k => by rw [hq]; left; omega))⟩
  · have hj4 : Sh.ref23_pieces_j4 l (i : Int) p false = some (Sum.inr (Sum.inr (Sum.inr false))) := by
      unfold Sh.ref23_pieces_j4
      simp only [cond_false]
      exact seq_eq hg rfl
    rw [hred _ hj4]
    right
    exact bad (fun h => hd (by rw [← hp]; exact h.df))
theorem seq_two {τ τ' γ : Type} {t : Option (τ ⊕ γ)} {t' : Option (τ' ⊕ γ)} {o : τ ⊕ γ} {o' : τ' ⊕ γ} {k : τ → Option γ} {k' : τ' → Option γ} (h : t = some o) (h' : t' = some o') (e : Fx.fin k o = Fx.fin k' o') : Fx.seq t k = Fx.seq t' k' := by rw [h, h']; exact e
theorem Plain_eq {m : QMark} (h1 : m.regs.length ≤ 1099511627776) (h2 : m.slots.length ≤ 1099511627776) (h3 : m.pieces.length ≤ 1099511627776) (h4 : ∀ p ∈ m.pieces, p.old.length ≤ 1099511627776) : Sh.ref23_Plain m = Sh.trace_plain m := by
  have k5 : Sh.ref23_Plain_j5 m = Sh.trace_plain_j5 m := by
    obtain ⟨g, e1, hg⟩ := pieces_r h3 h4
    obtain ⟨g', e1', hg'⟩ := pieces_t h3
    have hb : Sh.ref23_pieces m.pieces = Sh.trace_plainPieces m.pieces := by
      unfold Sh.ref23_pieces Sh.trace_plainPieces
      refine seq_two e1 e1' ?_
      rcases hg with ⟨rfl, ha⟩ | ⟨rfl, ha⟩ <;> rcases hg' with ⟨rfl, ha'⟩ | ⟨rfl, ha'⟩
      · rfl
      · exact absurd ha ha'
      · exact absurd ha' ha
      · rfl
    simp only [Sh.ref23_Plain_j5, Sh.trace_plain_j5, hb]
  have k2 : Sh.ref23_Plain_j2 m = Sh.trace_plain_j2 m := by
    obtain ⟨g, e1, hg⟩ := slots_r h2
    obtain ⟨g', e1', hg'⟩ := slots_t h2
    unfold Sh.ref23_Plain_j2 Sh.trace_plain_j2
    refine seq_two e1 e1' ?_
    rcases hg with ⟨rfl, ha⟩ | ⟨rfl, ha⟩ <;> rcases hg' with ⟨rfl, ha'⟩ | ⟨rfl, ha'⟩
    · exact k5
    · exact absurd ha ha'
    · exact absurd ha' ha
    · rfl
  have k1 : ∀ v, Sh.ref23_Plain_j1 m v = Sh.trace_plain_j1 m v := by
    intro v
    unfold Sh.ref23_Plain_j1 Sh.trace_plain_j1
    cases v
    · simp only [cond_false]
      obtain ⟨g, e1, hg⟩ := regs_r h1
      obtain ⟨g', e1', hg'⟩ := regs_t h1
      refine seq_two e1 e1' ?_
      rcases hg with ⟨rfl, ha⟩ | ⟨rfl, ha⟩ <;> rcases hg' with ⟨rfl, ha'⟩ | ⟨rfl, ha'⟩
      · exact k2
      · exact absurd ha ha'
      · exact absurd ha' ha
      · rfl
    · rfl
  unfold Sh.ref23_Plain Sh.trace_plain
  simp only [within_eq, rwithin_eq, k1]
end Go.Sp
end
section
namespace Go.Sp
open Go Go.Fw Go.Fx Go.Proofs
set_option linter.unusedVariables false
set_option linter.unusedSimpArgs false
section
variable {b : List UInt8} {r r1 r2 : QReader}
theorem two {σ γ τ δ X : Type} (N n : Nat) {body1 : σ → Option (σ ⊕ γ)} {body2 : τ → Option (τ ⊕ δ)} (st1 : List X → QReader → Int → σ) (out1 : List X → QReader → γ) (st2 : List X → QCursor → Int → τ) (out2 : List X → QCursor → δ)
    (he1 : ∀ xs r m, (m = 0 ∨ r.e ≠ 0) → body1 (st1 xs r m) = some (.inr (out1 xs r)))
    (he2 : ∀ xs c i, (i = (n : Int) ∨ c.e ≠ 0) → body2 (st2 xs c i) = some (.inr (out2 xs c)))
    (hs : ∀ xs r (m i : Nat), Wf b r → r.e = 0 → m + 1 + i = n → xs.length < N → ∃ x x' r', body1 (st1 xs r ((m + 1 : Nat) : Int)) = some (.inl (st1 (xs ++ [x]) r' (m : Int))) ∧
      body2 (st2 xs (cur r) (i : Int)) = some (.inl (st2 (xs ++ [x']) (cur r') ((i + 1 : Nat) : Int))) ∧ Wf b r' ∧ (r'.e = 0 → x' = x)) :
    ∀ (m i : Nat) xs xs' r, m + i = n → Wf b r → xs.length + m ≤ N → (r.e = 0 → xs' = xs) →
      ∃ ys ys' r', loop body1 (st1 xs r (m : Int)) = some (out1 (xs ++ ys) r') ∧ loop body2 (st2 xs' (cur r) (i : Int)) = some (out2 (xs' ++ ys') (cur r')) ∧ Wf b r' ∧ (r'.e = 0 → xs' ++ ys' = xs ++ ys) := by
  intro m
  induction m with
  | zero =>
    intro i xs xs' r hi hw _ hx
    refine ⟨[], [], r, ?_, ?_, hw, fun h => by rw [hx h]⟩
    · rw [List.append_nil]; exact loop_out (he1 _ _ _ (.inl rfl))
    · rw [List.append_nil]; exact loop_out (he2 _ _ _ (.inl (by omega)))
  | succ m ih =>
    intro i xs xs' r hi hw hN hx
    by_cases he : r.e = 0
    · obtain rfl := hx he
      obtain ⟨x, x', r1, h1, h2, h3, h4⟩ := hs xs' r m i hw he hi (by omega)
      obtain ⟨ys, ys', r2, k1, k2, k3, k4⟩ := ih (i + 1) (xs' ++ [x]) (xs' ++ [x']) r1 (by omega) h3 (by simp; omega) (fun h => by rw [h4 h])
      exact ⟨x :: ys, x' :: ys', r2, loop_go h1 (by rw [k1]; simp), loop_go h2 (by rw [k2]; simp), k3, fun h => by simpa using k4 h⟩
    · refine ⟨[], [], r, ?_, ?_, hw, fun h => absurd h he⟩
      · rw [List.append_nil]; exact loop_out (he1 _ _ _ (.inr he))
      · rw [List.append_nil]; exact loop_out (he2 _ _ _ (.inr he))
theorem c1 (hb : b.length ≤ 16777216) (hw : Wf b r) {v : Int} (h : Sh.trace_reader_number r 1 = some (v, r1)) : Sh.ref23_cursor_number (cur r) 1 = some (v, cur r1) := (c_number hb hw 1 (by omega) h).1
theorem c2 (hb : b.length ≤ 16777216) (hw : Wf b r) {v : Int} (h : Sh.trace_reader_number r 2 = some (v, r1)) : Sh.ref23_cursor_number (cur r) 2 = some (v, cur r1) := (c_number hb hw 2 (by omega) h).1
theorem c4 (hb : b.length ≤ 16777216) (hw : Wf b r) {v : Int} (h : Sh.trace_reader_number r 4 = some (v, r1)) : Sh.ref23_cursor_number (cur r) 4 = some (v, cur r1) := (c_number hb hw 4 (by omega) h).1
theorem c8 (hb : b.length ≤ 16777216) (hw : Wf b r) {v : Int} (h : Sh.trace_reader_number r 8 = some (v, r1)) : Sh.ref23_cursor_number (cur r) 8 = some (v, cur r1) := (c_number hb hw 8 (by omega) h).1
theorem cur_e {r : QReader} : (cur r).e = r.e := rfl
theorem c_turns (hb : b.length ≤ 16777216) (hw : Wf b r) {n : Nat} (y : Int × QCursor) (hy : y.1 = (n : Int)) (hn : n < 256) : ∃ ys ys' r', Fx.loop (fun (v : List LTurn × QReader × Int) => match v with | (v1, v2, v3) => Sh.trace_reader_mark_l3 v1 v2 v3) ([], r, (n : Int)) = some (Sum.inl (ys, r')) ∧
    Fx.loop (fun (v : List LTurn × QCursor × Int) => match v with | (v1, v2, v3) => Sh.ref23_cursor_mark_l2 y v1 v2 v3) ([], cur r, 0) = some (Sum.inl (ys', cur r')) ∧ Wf b r' ∧ (r'.e = 0 → ys' = ys) := by
  refine two (b := b) 255 n (body1 := fun (v : List LTurn × QReader × Int) => match v with | (v1, v2, v3) => Sh.trace_reader_mark_l3 v1 v2 v3) (body2 := fun (v : List LTurn × QCursor × Int) => match v with | (v1, v2, v3) => Sh.ref23_cursor_mark_l2 y v1 v2 v3)
    (fun xs r n => (xs, r, n)) (fun xs r => Sum.inl (xs, r)) (fun xs r n => (xs, r, n)) (fun xs r => Sum.inl (xs, r))
    (fun xs r n h => ?_) (fun xs c i h => ?_) (fun xs r m i hw he hm hx => ?_) n 0 [] [] r (by omega) hw (by simp; omega) (fun _ => rfl)
  · show Sh.trace_reader_mark_l3 xs r n = _
    by_cases hp : 0 < n
    · rcases h with h | h
      · omega
      · simp [Sh.trace_reader_mark_l3, Sh.trace_reader_mark_j4, hp, h, seq_l]
    · simp [Sh.trace_reader_mark_l3, Sh.trace_reader_mark_j4, hp, seq_l]
  · show Sh.ref23_cursor_mark_l2 y xs c i = _
    by_cases hp : i < y.1
    · rcases h with h | h
      · omega
      · simp [Sh.ref23_cursor_mark_l2, Sh.ref23_cursor_mark_j3, hp, h, seq_l]
    · simp [Sh.ref23_cursor_mark_l2, Sh.ref23_cursor_mark_j3, hp, seq_l]
  · obtain ⟨k, r1, a1, a2, a3⟩ := byte_ok hb hw
    obtain ⟨v, r2, b1, b2⟩ := value_ok hb a2.1
    obtain ⟨u, r3, d1, d2⟩ := value_ok hb b2.1
    refine ⟨LTurn.mk k v u, LTurn.mk k v u, r3, ?_, ?_, d2.1, fun _ => rfl⟩
    · show Sh.trace_reader_mark_l3 xs r _ = _
      simp only [Sh.trace_reader_mark_l3, Sh.trace_reader_mark_j4, Sh.trace_reader_mark_c5, pos_dec, cond_true, he, decide_true, seq_l, a1, b1, d1, Option.bind_some, app_ok (bytes := 72) (l := xs) (m := [LTurn.mk k v u]) (by simp; omega) (by simp; omega), down64 (show m < _ by omega)]
    · show Sh.ref23_cursor_mark_l2 y xs (cur r) _ = _
      simp only [Sh.ref23_cursor_mark_l2, Sh.ref23_cursor_mark_j3, hy, lt_dec, show i < n by omega, decide_true, cond_true, cur_e, he, seq_l, c1 hb hw a1, c_value hb a2.1 b1, c_value hb b2.1 d1, Option.bind_some, app_ok (bytes := 72) (l := xs) (m := [LTurn.mk k v u]) (by simp; omega) (by simp; omega), next64 (show i < n by omega) (by omega)]
theorem c_cells (hb : b.length ≤ 16777216) (hw : Wf b r) (ts ts' : List LTurn) {n : Nat} (y : Int × QCursor) (hy : y.1 = (n : Int)) (hn : n < 256) : ∃ ys ys' r', Fx.loop (fun (v : List LTurn × List LCell × QReader × Int) => match v with | (v0, v1, v2, v3) => Sh.trace_reader_mark_l7 v0 v1 v2 v3) (ts, [], r, (n : Int)) = some (Sum.inl (ts, ys, r')) ∧
    Fx.loop (fun (v : List LTurn × List LCell × QCursor × Int) => match v with | (v0, v1, v2, v3) => Sh.ref23_cursor_mark_l5 y v0 v1 v2 v3) (ts', [], cur r, 0) = some (Sum.inl (ts', ys', cur r')) ∧ Wf b r' ∧ (r'.e = 0 → ys' = ys) := by
  refine two (b := b) 255 n (body1 := fun (v : List LTurn × List LCell × QReader × Int) => match v with | (v0, v1, v2, v3) => Sh.trace_reader_mark_l7 v0 v1 v2 v3) (body2 := fun (v : List LTurn × List LCell × QCursor × Int) => match v with | (v0, v1, v2, v3) => Sh.ref23_cursor_mark_l5 y v0 v1 v2 v3)
    (fun xs r n => (ts, xs, r, n)) (fun xs r => Sum.inl (ts, xs, r)) (fun xs r n => (ts', xs, r, n)) (fun xs r => Sum.inl (ts', xs, r))
    (fun xs r n h => ?_) (fun xs c i h => ?_) (fun xs r m i hw he hm hx => ?_) n 0 [] [] r (by omega) hw (by simp; omega) (fun _ => rfl)
  · show Sh.trace_reader_mark_l7 ts xs r n = _
    by_cases hp : 0 < n
    · rcases h with h | h
      · omega
      · simp [Sh.trace_reader_mark_l7, Sh.trace_reader_mark_j8, hp, h, seq_l]
    · simp [Sh.trace_reader_mark_l7, Sh.trace_reader_mark_j8, hp, seq_l]
  · show Sh.ref23_cursor_mark_l5 y ts' xs c i = _
    by_cases hp : i < y.1
    · rcases h with h | h
      · omega
      · simp [Sh.ref23_cursor_mark_l5, Sh.ref23_cursor_mark_j6, hp, h, seq_l]
    · simp [Sh.ref23_cursor_mark_l5, Sh.ref23_cursor_mark_j6, hp, seq_l]
  · obtain ⟨k, r1, a1, a2, a3⟩ := byte_ok hb hw
    obtain ⟨v, r2, b1, b2⟩ := slot_ok hb a2.1
    obtain ⟨u, r3, d1, d2⟩ := slot_ok hb b2.1
    obtain ⟨v', e1, e2⟩ := c_slot hb a2.1 b1
    obtain ⟨u', f1, f2⟩ := c_slot hb b2.1 d1
    refine ⟨LCell.mk k v u, LCell.mk k v' u', r3, ?_, ?_, d2.1, fun h => by rw [e2 (e_up d2 h), f2 h]⟩
    · show Sh.trace_reader_mark_l7 ts xs r _ = _
      simp only [Sh.trace_reader_mark_l7, Sh.trace_reader_mark_j8, Sh.trace_reader_mark_c9, pos_dec, cond_true, he, decide_true, seq_l, a1, b1, d1, Option.bind_some, app_ok (bytes := 104) (l := xs) (m := [LCell.mk k v u]) (by simp; omega) (by simp; omega), down64 (show m < _ by omega)]
    · show Sh.ref23_cursor_mark_l5 y ts' xs (cur r) _ = _
      simp only [Sh.ref23_cursor_mark_l5, Sh.ref23_cursor_mark_j6, hy, lt_dec, show i < n by omega, decide_true, cond_true, cur_e, he, seq_l, c1 hb hw a1, e1, f1, Option.bind_some, app_ok (bytes := 104) (l := xs) (m := [LCell.mk k v' u']) (by simp; omega) (by simp; omega), next64 (show i < n by omega) (by omega)]
theorem c_pieces (hb : b.length ≤ 16777216) (hw : Wf b r) (ts ts' : List LTurn) (cs cs' : List LCell) {n : Nat} (y : Int × QCursor) (hy : y.1 = (n : Int)) (hn : n < 4294967296) : ∃ ys ys' r', Fx.loop (fun (v : List LTurn × List LCell × List QPiece × QReader × Int) => match v with | (v0, v4, v1, v2, v3) => Sh.trace_reader_mark_l11 v0 v4 v1 v2 v3) (ts, cs, [], r, (n : Int)) = some (Sum.inl (ts, cs, ys, r')) ∧
    Fx.loop (fun (v : List LTurn × List LCell × List QPiece × QCursor × Int) => match v with | (v0, v4, v1, v2, v3) => Sh.ref23_cursor_mark_l8 y v0 v4 v1 v2 v3) (ts', cs', [], cur r, 0) = some (Sum.inl (ts', cs', ys', cur r')) ∧ Wf b r' ∧ (r'.e = 0 → ys' = ys) := by
  refine two (b := b) 4294967296 n (body1 := fun (v : List LTurn × List LCell × List QPiece × QReader × Int) => match v with | (v0, v4, v1, v2, v3) => Sh.trace_reader_mark_l11 v0 v4 v1 v2 v3) (body2 := fun (v : List LTurn × List LCell × List QPiece × QCursor × Int) => match v with | (v0, v4, v1, v2, v3) => Sh.ref23_cursor_mark_l8 y v0 v4 v1 v2 v3)
    (fun xs r n => (ts, cs, xs, r, n)) (fun xs r => Sum.inl (ts, cs, xs, r)) (fun xs r n => (ts', cs', xs, r, n)) (fun xs r => Sum.inl (ts', cs', xs, r))
    (fun xs r n h => ?_) (fun xs c i h => ?_) (fun xs r m i hw he hm hx => ?_) n 0 [] [] r (by omega) hw (by simp; omega) (fun _ => rfl)
  · show Sh.trace_reader_mark_l11 ts cs xs r n = _
    by_cases hp : 0 < n
    · rcases h with h | h
      · omega
      · simp [Sh.trace_reader_mark_l11, Sh.trace_reader_mark_j12, hp, h, seq_l]
    · simp [Sh.trace_reader_mark_l11, Sh.trace_reader_mark_j12, hp, seq_l]
  · show Sh.ref23_cursor_mark_l8 y ts' cs' xs c i = _
    by_cases hp : i < y.1
    · rcases h with h | h
      · omega
      · simp [Sh.ref23_cursor_mark_l8, Sh.ref23_cursor_mark_j9, hp, h, seq_l]
    · simp [Sh.ref23_cursor_mark_l8, Sh.ref23_cursor_mark_j9, hp, seq_l]
  · obtain ⟨k, r1, a1, a2, a3⟩ := byte_ok hb hw
    obtain ⟨v, r2, b1, b2, b3⟩ := two_ok hb a2.1
    obtain ⟨u, r3, d1, d2, d3⟩ := two_ok hb b2.1
    obtain ⟨x, r4, e1, e2, e3⟩ := take_ok hb d2.1 (n := u) (by omega)
    obtain ⟨z, r5, f1, f2, f3⟩ := take_ok hb e2.1 (n := u) (by omega)
    refine ⟨QPiece.mk (IntKind.i64.wrap (k - 1)) v x z, QPiece.mk (IntKind.i64.wrap (k - 1)) v x z, r5, ?_, ?_, f2.1, fun h => rfl⟩
    · show Sh.trace_reader_mark_l11 ts cs xs r _ = _
      simp only [Sh.trace_reader_mark_l11, Sh.trace_reader_mark_j12, Sh.trace_reader_mark_c13, Sh.trace_reader_mark_j14, pos_dec, cond_true, he, decide_true, seq_l, a1, b1, d1, e1, f1, clone_ok e3 (by omega), clone_ok f3 (by omega), Option.bind_some, app_ok (bytes := 64) (l := xs) (m := [QPiece.mk (IntKind.i64.wrap (k - 1)) v x z]) (by simp; omega) (by simp; omega), down64 (show m < _ by omega)]
    · show Sh.ref23_cursor_mark_l8 y ts' cs' xs (cur r) _ = _
      simp only [Sh.ref23_cursor_mark_l8, Sh.ref23_cursor_mark_j9, hy, lt_dec, show i < n by omega, decide_true, cond_true, cur_e, he, seq_l, c1 hb hw a1, c2 hb a2.1 b1, c2 hb b2.1 d1, c_take hb d2.1 (by omega) e1, c_take hb e2.1 (by omega) f1, Option.bind_some, app_ok (bytes := 64) (l := xs) (m := [QPiece.mk (IntKind.i64.wrap (k - 1)) v x z]) (by simp; omega) (by simp; omega), next64 (show i < n by omega) (by omega)]
theorem c_sents (hb : b.length ≤ 16777216) (hw : Wf b r) (a t : Int) (d : Bool) (ts ts' : List LTurn) (cs cs' : List LCell) (ps ps' : List QPiece) {n : Nat} (y : Int × QCursor) (hy : y.1 = (n : Int)) (hn : n < 256) : ∃ ys ys' r', Fx.loop (fun (v : QMark × QReader × Int) => match v with | (v1, v2, v3) => Sh.trace_reader_mark_l16 v1 v2 v3) (QMark.mk a t d ts cs ps [], r, (n : Int)) = some (Sum.inl (QMark.mk a t d ts cs ps ys, r')) ∧
    Fx.loop (fun (v : QMark × QCursor × Int) => match v with | (v1, v2, v3) => Sh.ref23_cursor_mark_l11 y v1 v2 v3) (QMark.mk a t d ts' cs' ps' [], cur r, 0) = some (Sum.inl (QMark.mk a t d ts' cs' ps' ys', cur r')) ∧ Wf b r' ∧ (r'.e = 0 → ys' = ys) := by
  refine two (b := b) 255 n (body1 := fun (v : QMark × QReader × Int) => match v with | (v1, v2, v3) => Sh.trace_reader_mark_l16 v1 v2 v3) (body2 := fun (v : QMark × QCursor × Int) => match v with | (v1, v2, v3) => Sh.ref23_cursor_mark_l11 y v1 v2 v3)
    (fun xs r n => (QMark.mk a t d ts cs ps xs, r, n)) (fun xs r => Sum.inl (QMark.mk a t d ts cs ps xs, r)) (fun xs r n => (QMark.mk a t d ts' cs' ps' xs, r, n)) (fun xs r => Sum.inl (QMark.mk a t d ts' cs' ps' xs, r))
    (fun xs r n h => ?_) (fun xs c i h => ?_) (fun xs r m i hw he hm hx => ?_) n 0 [] [] r (by omega) hw (by simp; omega) (fun _ => rfl)
  · show Sh.trace_reader_mark_l16 _ r n = _
    by_cases hp : 0 < n
    · rcases h with h | h
      · omega
      · simp [Sh.trace_reader_mark_l16, Sh.trace_reader_mark_j17, hp, h, seq_l]
    · simp [Sh.trace_reader_mark_l16, Sh.trace_reader_mark_j17, hp, seq_l]
  · show Sh.ref23_cursor_mark_l11 y _ c i = _
    by_cases hp : i < y.1
    · rcases h with h | h
      · omega
      · simp [Sh.ref23_cursor_mark_l11, Sh.ref23_cursor_mark_j12, hp, h, seq_l]
    · simp [Sh.ref23_cursor_mark_l11, Sh.ref23_cursor_mark_j12, hp, seq_l]
  · obtain ⟨k, r1, a1, a2⟩ := eight_ok hb hw
    refine ⟨k, k, r1, ?_, ?_, a2.1, fun h => rfl⟩
    · show Sh.trace_reader_mark_l16 _ r _ = _
      simp only [Sh.trace_reader_mark_l16, Sh.trace_reader_mark_j17, Sh.trace_reader_mark_c18, pos_dec, cond_true, he, decide_true, seq_l, a1, Option.bind_some, app_ok (bytes := 8) (l := xs) (m := [k]) (by simp; omega) (by simp; omega), down64 (show m < _ by omega)]
    · show Sh.ref23_cursor_mark_l11 y _ (cur r) _ = _
      simp only [Sh.ref23_cursor_mark_l11, Sh.ref23_cursor_mark_j12, hy, lt_dec, show i < n by omega, decide_true, cond_true, cur_e, he, seq_l, c8 hb hw a1, Option.bind_some, app_ok (bytes := 8) (l := xs) (m := [k]) (by simp; omega) (by simp; omega), next64 (show i < n by omega) (by omega)]
end
end Go.Sp
end
section
namespace Go.Sp
open Go Go.Fw Go.Fx Go.Proofs
set_option linter.unusedVariables false
set_option linter.unusedSimpArgs false
section
variable {b : List UInt8} {r r1 r2 : QReader}
theorem c_mark (hb : b.length ≤ 16777216) (hw : Wf b r) : ∃ m m' r', Sh.trace_reader_mark r = some (m, r') ∧ Sh.ref23_cursor_mark (cur r) = some (m', cur r') ∧ Wf b r' ∧ (r'.e = 0 → m' = m) := by
  obtain ⟨a, r1, a1, a2, a3⟩ := two_ok hb hw
  obtain ⟨t, r2, b1, b2, b3⟩ := two_ok hb a2.1
  obtain ⟨d, r3, q1, q2, q3⟩ := most_ok hb b2.1 (n := 1) (by omega)
  obtain ⟨n1, r4, d1, d2, d3⟩ := byte_ok hb q2.1
  obtain ⟨n1, rfl⟩ : ∃ k : Nat, n1 = k := ⟨n1.toNat, by omega⟩
  obtain ⟨ts, r5, e1, e2, e3⟩ := turns_ok hb d2.1 d3
  obtain ⟨ts0, ts', r50, e4, e5, -, e6⟩ := c_turns hb d2.1 (n := n1) ((n1 : Int), cur r4) rfl (by omega)
  obtain ⟨rfl, rfl⟩ : ts = ts0 ∧ r5 = r50 := by simpa using e1.symm.trans e4
  obtain ⟨n2, r6, f1, f2, f3⟩ := byte_ok hb e2.1
  obtain ⟨n2, rfl⟩ : ∃ k : Nat, n2 = k := ⟨n2.toNat, by omega⟩
  obtain ⟨cs, r7, g1, g2, g3⟩ := cells_ok hb f2.1 ts f3
  obtain ⟨cs0, cs', r70, g4, g5, -, g6⟩ := c_cells hb f2.1 ts ts' (n := n2) ((n2 : Int), cur r6) rfl (by omega)
  obtain ⟨rfl, rfl⟩ : cs = cs0 ∧ r7 = r70 := by simpa using g1.symm.trans g4
  obtain ⟨n3, r8, h1, h2, h3⟩ := four_ok hb g2.1
  obtain ⟨n3, rfl⟩ : ∃ k : Nat, n3 = k := ⟨n3.toNat, by omega⟩
  obtain ⟨ps, r9, i1, i2, i3⟩ := pieces_ok hb h2.1 ts cs h3
  obtain ⟨ps0, ps', r90, i4, i5, -, i6⟩ := c_pieces hb h2.1 ts ts' cs cs' (n := n3) ((n3 : Int), cur r8) rfl (by omega)
  obtain ⟨rfl, rfl⟩ : ps = ps0 ∧ r9 = r90 := by simpa using i1.symm.trans i4
  obtain ⟨n4, r10, j1, j2, j3⟩ := byte_ok hb i2.1
  obtain ⟨n4, rfl⟩ : ∃ k : Nat, n4 = k := ⟨n4.toNat, by omega⟩
  obtain ⟨ss, r11, k1, k2, k3⟩ := sents_ok hb j2.1 a t (decide (d = 1)) ts cs ps j3
  obtain ⟨ss0, ss', r110, k4, k5, -, k6⟩ := c_sents hb j2.1 a t (decide (d = 1)) ts ts' cs cs' ps ps' (n := n4) ((n4 : Int), cur r10) rfl (by omega)
  obtain ⟨rfl, rfl⟩ : ss = ss0 ∧ r11 = r110 := by simpa using k1.symm.trans k4
  obtain ⟨q, hq⟩ := plain_ok (m := QMark.mk a t (decide (d = 1)) ts cs ps ss) (by simp; omega) (by simp; omega) (by simp; omega)
  have step : Sh.trace_reader_mark r = Fx.seq ((Sh.trace_plain (QMark.mk a t (decide (d = 1)) ts cs ps ss)).bind fun y16827 => (bif (!y16827) then ((Sh.trace_reader_fault r11 r.at_ 230).bind fun y16830 => (some (Sum.inl y16830))) else (some (Sum.inl r11)))) fun v16823 => Sh.trace_reader_mark_j19 (QMark.mk a t (decide (d = 1)) ts cs ps ss) v16823 := by
    simp only [Sh.trace_reader_mark, a1, b1, q1, Option.bind_some, seq_l, Sh.trace_reader_mark_j1, d1]
    refine seq_eq e1 ?_
    simp only [Fx.fin, Sh.trace_reader_mark_c2, f1, Option.bind_some]
    refine seq_eq g1 ?_
    simp only [Fx.fin, Sh.trace_reader_mark_c6, h1, Option.bind_some]
    refine seq_eq i1 ?_
    simp only [Fx.fin, Sh.trace_reader_mark_c10, j1, Option.bind_some]
    exact seq_eq k1 rfl
  have step' : Sh.ref23_cursor_mark (cur r) = Sh.ref23_cursor_mark_j10 (cur r) (QMark.mk a t (decide (d = 1)) ts' cs' ps' ss') (cur r11) := by
    simp only [Sh.ref23_cursor_mark, c2 hb hw a1, c2 hb a2.1 b1, c_most hb b2.1 (by omega) q1, c1 hb q2.1 d1, Option.bind_some]
    refine seq_eq e5 ?_
    simp only [Fx.fin, Sh.ref23_cursor_mark_j1, c1 hb e2.1 f1, Option.bind_some]
    refine seq_eq g5 ?_
    simp only [Fx.fin, Sh.ref23_cursor_mark_j4, c4 hb g2.1 h1, Option.bind_some]
    refine seq_eq i5 ?_
    simp only [Fx.fin, Sh.ref23_cursor_mark_j7, c1 hb i2.1 j1, Option.bind_some]
    exact seq_eq k5 rfl
  rw [step, step', hq]
  have hw11 := k2.1
  unfold Sh.ref23_cursor_mark_j10
  by_cases he : r11.e = 0
  · have z10 := e_up k2 he; have z9 := e_up j2 z10; have z8 := e_up i2 z9; have z7 := e_up h2 z8; have z6 := e_up g2 z7; have z5 := e_up f2 z6
    obtain rfl := e6 z5
    obtain rfl := g6 z7
    obtain rfl := i6 z9
    obtain rfl := k6 he
    have hold := (i2.2 z9).2.1.2
    have hp : Sh.ref23_Plain (QMark.mk a t (decide (d = 1)) ts' cs' ps' ss') = some q := by
      rw [Plain_eq (by simp; omega) (by simp; omega) (by simp; omega) (fun p hp => by have := hold p hp; omega), hq]
    rw [cur_e, decide_eq_true he, cond_true, hp]
    cases q
    · have := hw.at0; have := hw.at1
      obtain ⟨r12, l1, l2, l3, _⟩ := fault_ok hw11 (p := r.at_) (e := 230) (fun _ => by omega) (by decide)
      have l4 := c_fault l1
      refine ⟨QMark.mk a t (decide (d = 1)) ts' cs' ps' ss', QMark.mk a t (decide (d = 1)) ts' cs' ps' ss', r12, by simp only [Option.bind_some, Bool.not_false, cond_true, l1, seq_l, Sh.trace_reader_mark_j19], ?_, l2, fun h => absurd h l3⟩
      simp only [Option.bind_some, Bool.not_false, seq_l, Sh.ref23_cursor_mark_j14, cond_true]
      rw [show (cur r).at_ = r.at_ from rfl, l4]
      rfl
    · exact ⟨_, _, r11, by simp only [Option.bind_some, Bool.not_true, cond_false, seq_l, Sh.trace_reader_mark_j19]; rfl, by simp only [Option.bind_some, Bool.not_true, seq_l, Sh.ref23_cursor_mark_j14, cond_false, Sh.ref23_cursor_mark_j13], hw11, fun _ => rfl⟩
  · rw [cur_e, decide_eq_false he, cond_false]
    have hf : Sh.trace_reader_fault r11 r.at_ 230 = some r11 := by simp [Sh.trace_reader_fault, he]
    refine ⟨QMark.mk a t (decide (d = 1)) ts cs ps ss, QMark.mk a t (decide (d = 1)) ts' cs' ps' ss', r11, ?_, by simp only [seq_l, Sh.ref23_cursor_mark_j14, cond_false, Sh.ref23_cursor_mark_j13], hw11, fun h => absurd h he⟩
    cases q
    · simp only [Option.bind_some, Bool.not_false, cond_true, hf, seq_l, Sh.trace_reader_mark_j19]
    · simp only [Option.bind_some, Bool.not_true, cond_false, seq_l, Sh.trace_reader_mark_j19]
theorem c_rows (hb : b.length ≤ 16777216) (hw : Wf b r) (c : List UInt8) {n : Nat} (y : Int × QCursor) (hy : y.1 = (n : Int)) (hn : n ≤ 8) : ∃ ys ys' r', Fx.loop (fun (v : QReader × QInput × Int) => match v with | (v1, v2, v3) => Sh.trace_Decode_l3 v1 v2 v3) (r, QInput.mk c [], (n : Int)) = some (Sum.inl (r', QInput.mk c ys)) ∧
    Fx.loop (fun (v : QCursor × QInput × Int) => match v with | (v1, v2, v3) => Sh.ref23_Decode_l4 y v1 v2 v3) (cur r, QInput.mk c [], 0) = some (Sum.inl (cur r', QInput.mk c ys')) ∧ Wf b r' ∧ (r'.e = 0 → ys' = ys) := by
  refine two (b := b) 255 n (body1 := fun (v : QReader × QInput × Int) => match v with | (v1, v2, v3) => Sh.trace_Decode_l3 v1 v2 v3) (body2 := fun (v : QCursor × QInput × Int) => match v with | (v1, v2, v3) => Sh.ref23_Decode_l4 y v1 v2 v3)
    (fun xs r n => (r, QInput.mk c xs, n)) (fun xs r => Sum.inl (r, QInput.mk c xs)) (fun xs r n => (r, QInput.mk c xs, n)) (fun xs r => Sum.inl (r, QInput.mk c xs))
    (fun xs r n h => ?_) (fun xs k i h => ?_) (fun xs r m i hw he hm hx => ?_) n 0 [] [] r (by omega) hw (by simp; omega) (fun _ => rfl)
  · show Sh.trace_Decode_l3 r _ n = _
    by_cases hp : 0 < n
    · rcases h with h | h
      · omega
      · simp [Sh.trace_Decode_l3, Sh.trace_Decode_j4, hp, h, seq_l]
    · simp [Sh.trace_Decode_l3, Sh.trace_Decode_j4, hp, seq_l]
  · show Sh.ref23_Decode_l4 y k _ i = _
    by_cases hp : i < y.1
    · rcases h with h | h
      · omega
      · simp [Sh.ref23_Decode_l4, Sh.ref23_Decode_j5, hp, h, seq_l]
    · simp [Sh.ref23_Decode_l4, Sh.ref23_Decode_j5, hp, seq_l]
  · obtain ⟨u, r1, a1, a2, a3⟩ := two_ok hb hw
    obtain ⟨x, r2, b1, b2, b3⟩ := take_ok hb a2.1 (n := u) (by omega)
    refine ⟨x, x, r2, ?_, ?_, b2.1, fun h => rfl⟩
    · show Sh.trace_Decode_l3 r _ _ = _
      simp only [Sh.trace_Decode_l3, Sh.trace_Decode_j4, Sh.trace_Decode_c5, pos_dec, cond_true, he, decide_true, seq_l, a1, b1, clone_ok b3 (by omega), Option.bind_some, app_ok (bytes := 24) (l := xs) (m := [x]) (by simp; omega) (by simp; omega), down64 (show m < _ by omega)]
    · show Sh.ref23_Decode_l4 y (cur r) _ _ = _
      simp only [Sh.ref23_Decode_l4, Sh.ref23_Decode_j5, hy, lt_dec, show i < n by omega, decide_true, cond_true, cur_e, he, seq_l, c2 hb hw a1, c_take hb a2.1 (by omega) b1, Option.bind_some, app_ok (bytes := 24) (l := xs) (m := [x]) (by simp; omega) (by simp; omega), next64 (show i < n by omega) (by omega)]
theorem c_marks (hb : b.length ≤ 16777216) (hw : Wf b r) (c c' : QInput) (e : Int) {n : Nat} (y : Int × QCursor) (hy : y.1 = (n : Int)) (hn : n < 4294967296) : ∃ ys ys' r', Fx.loop (fun (v : QReader × QRecord × Int) => match v with | (v1, v2, v3) => Sh.trace_Decode_l8 v1 v2 v3) (r, QRecord.mk c [] e, (n : Int)) = some (Sum.inl (r', QRecord.mk c ys e)) ∧
    Fx.loop (fun (v : QCursor × QRecord × Int) => match v with | (v1, v2, v3) => Sh.ref23_Decode_l9 y v1 v2 v3) (cur r, QRecord.mk c' [] e, 0) = some (Sum.inl (cur r', QRecord.mk c' ys' e)) ∧ Wf b r' ∧ (r'.e = 0 → ys' = ys) := by
  refine two (b := b) 4294967296 n (body1 := fun (v : QReader × QRecord × Int) => match v with | (v1, v2, v3) => Sh.trace_Decode_l8 v1 v2 v3) (body2 := fun (v : QCursor × QRecord × Int) => match v with | (v1, v2, v3) => Sh.ref23_Decode_l9 y v1 v2 v3)
    (fun xs r n => (r, QRecord.mk c xs e, n)) (fun xs r => Sum.inl (r, QRecord.mk c xs e)) (fun xs r n => (r, QRecord.mk c' xs e, n)) (fun xs r => Sum.inl (r, QRecord.mk c' xs e))
    (fun xs r n h => ?_) (fun xs k i h => ?_) (fun xs r m i hw he hm hx => ?_) n 0 [] [] r (by omega) hw (by simp; omega) (fun _ => rfl)
  · show Sh.trace_Decode_l8 r _ n = _
    by_cases hp : 0 < n
    · rcases h with h | h
      · omega
      · simp [Sh.trace_Decode_l8, Sh.trace_Decode_j9, hp, h, seq_l]
    · simp [Sh.trace_Decode_l8, Sh.trace_Decode_j9, hp, seq_l]
  · show Sh.ref23_Decode_l9 y k _ i = _
    by_cases hp : i < y.1
    · rcases h with h | h
      · omega
      · simp [Sh.ref23_Decode_l9, Sh.ref23_Decode_j10, hp, h, seq_l]
    · simp [Sh.ref23_Decode_l9, Sh.ref23_Decode_j10, hp, seq_l]
  · obtain ⟨u, u', r1, a1, a2, a3, a4⟩ := c_mark hb hw
    refine ⟨u, u', r1, ?_, ?_, a3, a4⟩
    · show Sh.trace_Decode_l8 r _ _ = _
      simp only [Sh.trace_Decode_l8, Sh.trace_Decode_j9, Sh.trace_Decode_c10, pos_dec, cond_true, he, decide_true, seq_l, a1, Option.bind_some, app_ok (bytes := 120) (l := xs) (m := [u]) (by simp; omega) (by simp; omega), down64 (show m < _ by omega)]
    · show Sh.ref23_Decode_l9 y (cur r) _ _ = _
      simp only [Sh.ref23_Decode_l9, Sh.ref23_Decode_j10, hy, lt_dec, show i < n by omega, decide_true, cond_true, cur_e, he, seq_l, a2, Option.bind_some, app_ok (bytes := 120) (l := xs) (m := [u']) (by simp; omega) (by simp; omega), next64 (show i < n by omega) (by omega)]
theorem rgoodEnd_eq (x : Int) : Sh.ref23_goodEnd x = Sh.trace_goodEnd x := by
  rw [goodEnd_eq]
  unfold Sh.ref23_goodEnd
  by_cases h : x = 0
  · simp [h, seq_l, Sh.ref23_goodEnd_j1]
  · by_cases h' : 80 ≤ x <;> simp [h, h', rwithin_eq, seq_l, Sh.ref23_goodEnd_j1]
def headQ (b : List UInt8) : Option (Bool ⊕ (QCursor ⊕ (QRecord × Int × Int))) := ((Fx.get b 0).bind fun x1678 => (bif (!decide ((x1678.toNat : Int) = 84)) then (some (Sum.inl true)) else ((Fx.get b 1).bind fun x1680 => (bif (!decide ((x1680.toNat : Int) = 82)) then (some (Sum.inl true)) else ((Fx.get b 2).bind fun x1682 => (bif (!decide ((x1682.toNat : Int) = 67)) then (some (Sum.inl true)) else ((Fx.get b 3).bind fun x1684 => (some (Sum.inl (!decide ((x1684.toNat : Int) = 49)))))))))))
theorem headQ_eq {b : List UInt8} (hl : 4 ≤ b.length) : headQ b = some (Sum.inl (!decide (b.take 4 = [84, 82, 67, 49]))) := by
  match b, hl with
  | a :: c :: d :: e :: l, _ =>
    have g0 : Fx.get (a :: c :: d :: e :: l) 0 = some a := rfl
    have g1 : Fx.get (a :: c :: d :: e :: l) 1 = some c := rfl
    have g2 : Fx.get (a :: c :: d :: e :: l) 2 = some d := rfl
    have g3 : Fx.get (a :: c :: d :: e :: l) 3 = some e := rfl
    have hn : ∀ (x : UInt8) (k : UInt8), ((x.toNat : Int) = (k.toNat : Int)) = (x = k) := fun x k => propext ⟨fun h => UInt8.toNat_inj.1 (by omega), fun h => by rw [h]⟩
    have h0 : ((a.toNat : Int) = 84) = (a = 84) := hn a 84
    have h1 : ((c.toNat : Int) = 82) = (c = 82) := hn c 82
    have h2 : ((d.toNat : Int) = 67) = (d = 67) := hn d 67
    have h3 : ((e.toNat : Int) = 49) = (e = 49) := hn e 49
    unfold headQ
    simp only [g0, g1, g2, g3, Option.bind_some, List.take_succ_cons, List.take_zero, h0, h1, h2, h3]
    by_cases c0 : a = 84
    · by_cases c1 : c = 82
      · by_cases c2 : d = 67
        · simp [c0, c1, c2]
        · simp [c0, c1, c2]
      · simp [c0, c1]
    · simp [c0]
theorem c_j1 (hb : b.length ≤ 16777216) (hw : Wf b r2) : Sh.ref23_Decode_j1 b (cur r2) = Sh.trace_Decode_j1 b r2 := by
  obtain ⟨n1, r3, c1_, c2_, c3⟩ := two_ok hb hw
  obtain ⟨ctx, r4, d1, d2, d3⟩ := take_ok hb c2_.1 (n := n1) (by omega)
  obtain ⟨n2, r5, e1, e2, e3⟩ := most_ok hb d2.1 (n := 8) (by omega)
  obtain ⟨n2, rfl⟩ : ∃ k : Nat, n2 = k := ⟨n2.toNat, by omega⟩
  obtain ⟨ys, r6, f1, f2, f3⟩ := rows_ok hb e2.1 ctx e3
  obtain ⟨ys0, ys', r60, f4, f5, -, f6⟩ := c_rows hb e2.1 ctx (n := n2) ((n2 : Int), cur r5) rfl (by omega)
  obtain ⟨rfl, rfl⟩ : r6 = r60 ∧ ys = ys0 := by simpa using f1.symm.trans f4
  obtain ⟨en, r7, g1, g2, g3⟩ := byte_ok hb f2.1
  have hcn := c_number hb f2.1 1 (by omega) g1
  have hend : ∃ r8, Fx.seq ((Sh.trace_reader_number r6 1).bind fun y5802 => ((Sh.trace_goodEnd y5802.1).bind fun y5807 => (bif (!y5807) then ((Sh.trace_reader_fault y5802.2 (IntKind.i64.wrap (y5802.2.at_ - 1)) 236).bind fun y5810 => (some (Sum.inl (y5810, QInput.mk ctx ys, y5802.1)))) else (some (Sum.inl (y5802.2, QInput.mk ctx ys, y5802.1)))))) (fun (v5789, v5792, v5800) => Sh.trace_Decode_j6 b v5789 v5792 v5800) = Sh.trace_Decode_j6 b r8 (QInput.mk ctx ys) en ∧ Rd b r6 r8 [Fw.byteOf en] (en = 0 ∨ (80 ≤ en ∧ en ≤ 89)) ∧
      Sh.ref23_Decode_j3 b (cur r6) (QInput.mk ctx ys') = Sh.ref23_Decode_j6 b (QInput.mk ctx ys') (en, cur r7) (cur r8) := by
    simp only [g1, Option.bind_some, goodEnd_eq, Sh.ref23_Decode_j3, c1 hb f2.1 g1, cur_e]
    by_cases hx : en = 0 ∨ (80 ≤ en ∧ en ≤ 89)
    · refine ⟨r7, by simp [hx, seq_l], g2.imp fun _ => ⟨rfl, hx⟩, ?_⟩
      by_cases he : r7.e = 0
      · simp [he, rgoodEnd_eq, goodEnd_eq, hx, seq_l, Sh.ref23_Decode_j7]
      · simp [he, seq_l, Sh.ref23_Decode_j7]
    · obtain ⟨r8, l1, l2, l3⟩ := back_ok hb f2.1 g2
      refine ⟨r8, by simp [hx, l1, seq_l], Rd.bad l2 l3, ?_⟩
      have he : r7.e = 0 := Classical.byContradiction fun h => hx (.inl (hcn.2 h))
      rw [c_back f2.1 g2 hb he] at l1
      have l4 := c_fault l1
      simp only [he, decide_true, cond_true, rgoodEnd_eq, goodEnd_eq, hx, decide_false, Option.bind_some, Bool.not_false, seq_l, Sh.ref23_Decode_j7]
      rw [show (cur r6).at_ = r6.at_ from rfl, l4]
      rfl
  obtain ⟨r8, h1, h2, h3⟩ := hend
  obtain ⟨n3, r9, i1, i2, i3⟩ := four_ok hb h2.1
  obtain ⟨n3, rfl⟩ : ∃ k : Nat, n3 = k := ⟨n3.toNat, by omega⟩
  obtain ⟨ms, r10, j1, j2, j3⟩ := marks_ok hb i2.1 (QInput.mk ctx ys) en i3
  obtain ⟨ms0, ms', r100, j4, j5, -, j6⟩ := c_marks hb i2.1 (QInput.mk ctx ys) (QInput.mk ctx ys') en (n := n3) ((n3 : Int), cur r9) rfl (by omega)
  obtain ⟨rfl, rfl⟩ : r10 = r100 ∧ ms = ms0 := by simpa using j1.symm.trans j4
  have step : Sh.trace_Decode_j1 b r2 = Sh.trace_Decode_c7 b r10 (QRecord.mk (QInput.mk ctx ys) ms en) := by
    simp only [Sh.trace_Decode_j1, c1_, d1, clone_ok d3 (by omega), e1, Option.bind_some]
    refine seq_eq f1 ?_
    simp only [Fx.fin, Sh.trace_Decode_c2]
    refine h1.trans ?_
    simp only [Sh.trace_Decode_j6, i1, Option.bind_some]
    exact seq_eq j1 rfl
  have step' : Sh.ref23_Decode_j1 b (cur r2) = Sh.ref23_Decode_j8 b (cur r10) (QRecord.mk (QInput.mk ctx ys') ms' en) := by
    simp only [Sh.ref23_Decode_j1, c2 hb hw c1_, c_take hb c2_.1 (by omega) d1, c_most hb d2.1 (by omega) e1, Option.bind_some]
    refine seq_eq f5 ?_
    simp only [Fx.fin]
    refine h3.trans ?_
    simp only [Sh.ref23_Decode_j6, c4 hb h2.1 i1, Option.bind_some]
    exact seq_eq j5 rfl
  rw [step, step']
  unfold Sh.trace_Decode_c7 Sh.ref23_Decode_j8
  have hat : (cur r10).at_ = r10.at_ := rfl
  have hw10 := j2.1
  have q0 := hw10.at0; have q1 := hw10.at1
  by_cases he : r10.e = 0
  · have z9 := e_up j2 he; have z8 := e_up i2 z9; have z6 := e_up h2 z8
    obtain rfl := f6 z6
    obtain rfl := j6 he
    by_cases hlt : r10.at_ < (b.length : Int)
    · obtain ⟨r11, l1, l2, l3, _⟩ := fault_ok hw10 (p := r10.at_) (e := 236) (fun _ => by omega) (by decide)
      have l4 := c_fault l1
      have l3' : (cur r11).e ≠ 0 := l3
      simp only [cur_e, hat, he, hlt, decide_true, cond_true, l1, l4, Option.bind_some, seq_l, Sh.ref23_Decode_j12, Sh.trace_Decode_j11, Sh.ref23_Decode_j11, l3, decide_false, Bool.not_false]
      rfl
    · simp only [cur_e, hat, he, hlt, decide_true, decide_false, cond_true, cond_false, Option.bind_some, seq_l, Sh.ref23_Decode_j12, Sh.trace_Decode_j11, Sh.ref23_Decode_j11, Bool.not_true]
  · have hf : Sh.trace_reader_fault r10 r10.at_ 236 = some r10 := by simp [Sh.trace_reader_fault, he]
    by_cases hlt : r10.at_ < (b.length : Int)
    · simp only [cur_e, hat, he, hlt, hf, decide_true, decide_false, cond_true, cond_false, Option.bind_some, seq_l, Sh.ref23_Decode_j12, Sh.trace_Decode_j11, Sh.ref23_Decode_j11, Bool.not_false]
      rfl
    · simp only [cur_e, hat, he, hlt, decide_true, decide_false, cond_true, cond_false, Option.bind_some, seq_l, Sh.ref23_Decode_j12, Sh.trace_Decode_j11, Sh.ref23_Decode_j11, Bool.not_false]
      rfl
theorem t_num_bad (hb : b.length ≤ 16777216) (hw : Wf b r) (he : r.e ≠ 0) (n : Nat) (hn : n ≤ 8) : Sh.trace_reader_number r (n : Nat) = some (0, r) := by
  rw [number_eq hb hw hn]
  simp [tk, he, num]; rfl
theorem t_j1_bad (hb : b.length ≤ 16777216) (hw : Wf b r) (he : r.e ≠ 0) : Sh.trace_Decode_j1 b r = some (QRecord.mk (QInput.mk [] []) [] 0, r.place, r.e) := by
  have n1 : Sh.trace_reader_number r 1 = some (0, r) := t_num_bad hb hw he 1 (by omega)
  have n2 : Sh.trace_reader_number r 2 = some (0, r) := t_num_bad hb hw he 2 (by omega)
  have n4 : Sh.trace_reader_number r 4 = some (0, r) := t_num_bad hb hw he 4 (by omega)
  have ht : Sh.trace_reader_take r 0 = some ([], r) := by rw [take_eq hb hw (by omega)]; simp [tk, he]
  have hm : Sh.trace_reader_most r 8 = some (0, r) := by simp [Sh.trace_reader_most, n1]
  have hf : ∀ p, Sh.trace_reader_fault r p 236 = some r := by intro p; simp [Sh.trace_reader_fault, he]
  simp only [Sh.trace_Decode_j1, n2, ht, hm, Option.bind_some, clone_ok (x := []) (n := 0) (by simp) (by omega)]
  refine seq_eq (o := Sum.inl (r, QInput.mk [] [])) (loop_out (by simp [Sh.trace_Decode_l3, Sh.trace_Decode_j4, seq_l])) ?_
  simp only [Fx.fin, Sh.trace_Decode_c2, n1, Option.bind_some, goodEnd_eq]
  simp only [true_or, decide_true, Bool.not_true, cond_false, seq_l, Sh.trace_Decode_j6, n4, Option.bind_some]
  refine seq_eq (o := Sum.inl (r, QRecord.mk (QInput.mk [] []) [] 0)) (loop_out (by simp [Sh.trace_Decode_l8, Sh.trace_Decode_j9, seq_l])) ?_
  simp only [Fx.fin, Sh.trace_Decode_c7]
  by_cases h : r.at_ < (b.length : Int)
  · simp [h, hf, seq_l, Sh.trace_Decode_j11, he]
  · simp [h, seq_l, Sh.trace_Decode_j11, he]
theorem c_num_bad {c : QCursor} (he : c.e ≠ 0) (n : Int) : Sh.ref23_cursor_number c n = some (0, c) := by
  simp [Sh.ref23_cursor_number, he, seq_l, Sh.ref23_cursor_number_j2, Sh.ref23_cursor_number_j1]
theorem c_j1_bad {c : QCursor} (he : c.e ≠ 0) : Sh.ref23_Decode_j1 b c = some (QRecord.mk (QInput.mk [] []) [] 0, c.place, c.e) := by
  have ht : Sh.ref23_cursor_bytes c 0 = some ([], c) := by simp [Sh.ref23_cursor_bytes, he, seq_l, Sh.ref23_cursor_bytes_j2, Sh.ref23_cursor_bytes_j1]
  have hm : Sh.ref23_cursor_most c 1 8 = some (0, c) := by simp [Sh.ref23_cursor_most, c_num_bad he, he, seq_l, Sh.ref23_cursor_most_j2, Sh.ref23_cursor_most_j1]
  simp only [Sh.ref23_Decode_j1, c_num_bad he, ht, hm, Option.bind_some]
  refine seq_eq (o := Sum.inl (c, QInput.mk [] [])) (loop_out (by simp [Sh.ref23_Decode_l4, Sh.ref23_Decode_j5, seq_l])) ?_
  simp only [Fx.fin, Sh.ref23_Decode_j3, c_num_bad he, Option.bind_some, decide_eq_false he, cond_false, seq_l, Sh.ref23_Decode_j7, Sh.ref23_Decode_j6]
  refine seq_eq (o := Sum.inl (c, QRecord.mk (QInput.mk [] []) [] 0)) (loop_out (by simp [Sh.ref23_Decode_l9, Sh.ref23_Decode_j10, seq_l])) ?_
  simp only [Fx.fin, Sh.ref23_Decode_j8, decide_eq_false he, cond_false, seq_l, Sh.ref23_Decode_j12, Sh.ref23_Decode_j11, Bool.not_false, cond_true]
theorem c_decode (b : List UInt8) : Sh.ref23_Decode b = Sh.trace_Decode b := by
  by_cases hb : b.length ≤ 16777216
  · have h0 : ¬ (16777216 : Int) < (b.length : Int) := by omega
    have hw0 : Wf b (QReader.mk b 0 0 0) := ⟨rfl, by simp, by simp, by simp, by simp⟩
    have ht := take_eq hb hw0 (n := 4) (by omega)
    have hR : Sh.ref23_Decode b = (Fx.seq (bif (decide ((b.length : Int) < 4)) then ((Sh.ref23_cursor_fault (QCursor.mk b 4 0 0) (b.length : Int) 236).bind fun y1660 => (some (Sum.inl y1660))) else (Fx.seq (headQ b) fun v1677 => Sh.ref23_Decode_j2 b v1677)) fun v1655 => Sh.ref23_Decode_j1 b v1655) := by
      unfold Sh.ref23_Decode
      rw [decide_eq_false h0]; rfl
    rw [hR]
    unfold Sh.trace_Decode
    rw [decide_eq_false h0, cond_false, ht]
    simp only [Option.bind_some]
    by_cases h4 : (b.length : Int) < 4
    · have hk : tk (QReader.mk b 0 0 0) 4 = ([], QReader.mk b 0 b.length 236) := by
        have : ¬ (0 : Int) + 4 ≤ (b.length : Int) := by omega
        simp [tk]; omega
      rw [hk, decide_eq_true h4]
      have hne : ¬ (([] : List UInt8) = [84, 82, 67, 49]) := by simp
      simp only [cond_true, hne, decide_false, Bool.not_false, Sh.trace_reader_fault, Sh.ref23_cursor_fault, show ¬ (236 : Int) = 0 by decide, cond_false, decide_true, Option.bind_some, seq_l]
      rw [t_j1_bad hb (r := QReader.mk b 0 b.length 236) ⟨rfl, by simp, by simp, by simp, by simp⟩ (show (236 : Int) ≠ 0 by decide), c_j1_bad (show (236 : Int) ≠ 0 by decide)]
    · have hk : tk (QReader.mk b 0 0 0) 4 = (b.take 4, QReader.mk b 4 0 0) := by
        have : (0 : Int) + 4 ≤ (b.length : Int) := by omega
        simp [tk]; omega
      rw [hk, decide_eq_false h4, headQ_eq (by omega)]
      simp only [cond_false, seq_l, Sh.ref23_Decode_j2]
      by_cases hm : b.take 4 = [84, 82, 67, 49]
      · simp only [hm, decide_true, Bool.not_true, cond_false, seq_l]
        exact c_j1 hb (r2 := QReader.mk b 4 0 0) ⟨rfl, by simp, by simp; omega, by simp, by simp⟩
      · simp only [hm, decide_false, Bool.not_false, cond_true, Sh.trace_reader_fault, Sh.ref23_cursor_fault, decide_true, Option.bind_some, seq_l]
        rw [t_j1_bad hb (r := QReader.mk b 4 0 236) ⟨rfl, by simp, by simp; omega, by simp, by simp⟩ (show (236 : Int) ≠ 0 by decide), c_j1_bad (show (236 : Int) ≠ 0 by decide)]
  · have h0 : (16777216 : Int) < (b.length : Int) := by omega
    simp [Sh.ref23_Decode, Sh.trace_Decode, h0]
end
end Go.Sp
end
section
namespace Go.Sp
open Go Go.Fw Go.Fx Go.Proofs
set_option linter.unusedVariables false
set_option linter.unusedSimpArgs false
theorem pass {γ : Type} {body : Int → Option (Int ⊕ γ)} {g : γ} (n : Nat) (hn : n ≤ 4611686018427387904) (h : ∀ i : Nat, i < n → body (i : Int) = some (.inl (IntKind.i64.wrap ((i : Int) + 1)))) (h' : body (n : Int) = some (.inr g)) : Fx.loop body 0 = some g := by
  obtain ⟨g', h1, h2⟩ := count_rule (body := body) n (fun i (a : Unit) => (i : Int)) (fun i a => True) (fun g' => g' = g)
    (fun i a hi _ => .inl ⟨(), by rw [h i hi, next64 hi hn], trivial⟩) (fun a _ => ⟨g, h', rfl⟩) n 0 () (by omega) trivial
  subst h2; exact h1
def SmallM (m : QMark) : Prop := m.regs.length ≤ 1099511627776 ∧ m.slots.length ≤ 1099511627776 ∧ m.pieces.length ≤ 1099511627776 ∧ m.sent.length ≤ 1099511627776
def SmallR (p : QRecord) : Prop := p.in_.tables.length ≤ 1099511627776 ∧ p.marks.length ≤ 1099511627776 ∧ ∀ m ∈ p.marks, SmallM m
theorem sameInts_refl {l : List Int} (h : l.length ≤ 1099511627776) : Sh.law00_SameInts l l = some true := by
  unfold Sh.law00_SameInts
  simp only [decide_true, Bool.not_true, cond_false]
  exact seq_eq (pass (g := Sum.inl ()) l.length (by omega) (fun i hi => by simp [Sh.law00_SameInts_l2, hi, get_at hi]) (by simp [Sh.law00_SameInts_l2])) rfl
theorem sameRows_refl {l : List (List UInt8)} (h : l.length ≤ 1099511627776) : Sh.law00_SameRows l l = some true := by
  unfold Sh.law00_SameRows
  simp only [decide_true, Bool.not_true, cond_false]
  exact seq_eq (pass (g := Sum.inl ()) l.length (by omega) (fun i hi => by simp [Sh.law00_SameRows_l2, hi, get_at hi, Sh.law00_SameBytes]) (by simp [Sh.law00_SameRows_l2])) rfl
theorem sameInput_refl {i : QInput} (h : i.tables.length ≤ 1099511627776) : Sh.law00_SameInput i i = some true := by
  simp [Sh.law00_SameInput, Sh.law00_SameBytes, sameRows_refl h, seq_l, Sh.law00_SameInput_j1]
theorem sameMark_refl {m : QMark} (h : SmallM m) : Sh.law23_sameMark m m = some true := by
  obtain ⟨h1, h2, h3, h4⟩ := h
  have k4 : Sh.law23_sameMark_j4 m m = some true :=
    seq_eq (pass (g := Sum.inl ()) m.pieces.length (by omega) (fun i hi => by simp [Sh.law23_sameMark_l7, hi, get_at hi, Sh.law00_SameBytes, seq_l, Sh.law23_sameMark_j8]) (by simp [Sh.law23_sameMark_l7])) rfl
  have k2 : Sh.law23_sameMark_j2 m m = some true :=
    seq_eq (pass (g := Sum.inl ()) m.slots.length (by omega) (fun i hi => by simp [Sh.law23_sameMark_l5, hi, get_at hi]) (by simp [Sh.law23_sameMark_l5])) k4
  have k1 : Sh.law23_sameMark_j1 m m false = some true :=
    seq_eq (pass (g := Sum.inl ()) m.regs.length (by omega) (fun i hi => by simp [Sh.law23_sameMark_l3, hi, get_at hi]) (by simp [Sh.law23_sameMark_l3])) k2
  unfold Sh.law23_sameMark
  simp only [decide_true, Bool.not_true, cond_false, sameInts_refl h4, Option.bind_some, seq_l, k1]
theorem sameRecord_refl {p : QRecord} (h : SmallR p) : Sh.law23_sameRecord p p = some true := by
  obtain ⟨h1, h2, h3⟩ := h
  have k1 : Sh.law23_sameRecord_j1 p p false = some true :=
    seq_eq (pass (g := Sum.inl ()) p.marks.length (by omega) (fun i hi => by simp [Sh.law23_sameRecord_l3, hi, get_at hi, sameMark_refl (h3 _ (List.getElem_mem hi))]) (by simp [Sh.law23_sameRecord_l3])) rfl
  unfold Sh.law23_sameRecord
  simp only [decide_true, Bool.not_true, cond_false, sameInput_refl h1, Option.bind_some, seq_l, k1]
end Go.Sp
end
section
namespace Go.Sp
open Go Go.Fw Go.Fx Go.Proofs
set_option linter.unusedVariables false
set_option linter.unusedSimpArgs false
theorem small_of {p : QRecord} (hg : GoodR p) (hl : (encRecord p).length ≤ 16777216) : SmallR p := by
  obtain ⟨h1, h2, h3, h4, h5⟩ := hg
  unfold encRecord at hl
  simp only [List.length_append, List.length_singleton, lows_len, List.length_cons, List.length_nil] at hl
  have hml : p.marks.length ≤ (p.marks.flatMap encMark).length := flat_len (fun x => by simp only [encMark, List.length_append, List.length_singleton]; omega) _
  refine ⟨by omega, by omega, fun m hm => ?_⟩
  obtain ⟨-, -, -, k4, k5, k6⟩ := h5 m hm
  have hm1 := flat_le (enc := encMark) hm
  have hs : m.sent.length ≤ (m.sent.flatMap (lows 8)).length := flat_len (fun x => by simp [lows_len]) _
  have : (m.sent.flatMap (lows 8)).length ≤ (encMark m).length := by simp only [encMark, List.length_append]; omega
  exact ⟨by omega, by omega, by omega, by omega⟩
theorem small_none : SmallR (QRecord.mk (QInput.mk [] []) [] 0) := ⟨by simp, by simp, fun m hm => by simp at hm⟩
theorem decodes_ok (b : List UInt8) : ∃ p place e, Sh.trace_Decode b = some (p, place, e) ∧ Sh.ref23_Decode b = some (p, place, e) ∧ Sh.law23_sameRecord p p = some true := by
  obtain ⟨p, place, e, h1, h2⟩ := decode_ok b
  refine ⟨p, place, e, h1, (c_decode b).trans h1, sameRecord_refl ?_⟩
  rcases h2 with ⟨_, _, rfl⟩ | ⟨_, _, hb, hq, hg⟩
  · exact small_none
  · exact small_of hg (by rw [← hq]; exact hb)
end Go.Sp
end
section
namespace Go.Sp
open Go Go.Fw Go.Fx Go.Proofs
set_option linter.unusedVariables false
set_option linter.unusedSimpArgs false
def bh (j : Nat) : UInt8 := Fw.byteOf (IntKind.i64.wrap (151 + (IntKind.i64.wrap (7 * (j : Int)))))
structure Lent (b R : List UInt8) (i : Nat) : Prop where
  len : R.length = 4 * b.length + 200
  head : R.take b.length = b
  marks : ∀ j, j < i → R[b.length + j]? = some (bh j)
theorem decodes_law (b : List UInt8) (hb : b.length ≤ 1099511627776) : Sh.law23_TraceDecodes b = some true := by
  have e1 : IntKind.i64.wrap (IntKind.i64.wrap (2 * (b.length : Int)) + 70) = 2 * (b.length : Int) + 70 := by rw [w64 (x := 2 * (b.length : Int)) (by omega), w64 (by omega)]
  have e2 : IntKind.i64.wrap (IntKind.i64.wrap (4 * (b.length : Int)) + 200) = 4 * (b.length : Int) + 200 := by rw [w64 (x := 4 * (b.length : Int)) (by omega), w64 (by omega)]
  have e3 : IntKind.i64.wrap ((b.length : Int) + 70) = ((b.length + 70 : Nat) : Int) := by rw [w64 (by omega)]; omega
  have ei : ∀ i : Nat, i < b.length + 70 → IntKind.i64.wrap ((b.length : Int) + (i : Int)) = ((b.length + i : Nat) : Int) := by intro i hi; rw [w64 (by omega)]; omega
  have hmk : Fx.mk 1 (0 : UInt8) (4 * (b.length : Int) + 200) = some (List.replicate (4 * b.length + 200) 0) := by
    unfold Fx.mk; rw [if_pos (by omega)]; congr 2
  have hcpy : Fx.cpy (List.replicate (4 * b.length + 200) (0 : UInt8)) b = some (b ++ (List.replicate (4 * b.length + 200) (0 : UInt8)).drop b.length) := by
    unfold Fx.cpy; rw [if_pos (by simp; omega)]
  obtain ⟨g, g1, R, rfl, hR⟩ := count_rule (body := fun (v : QLender × Int) => match v with | (v614, v617) => Sh.law23_TraceDecodes_l4 b v614 v617) (b.length + 70) (fun i (R : List UInt8) => (QLender.mk R, (i : Int))) (fun i R => Lent b R i) (fun g => ∃ R, g = Sum.inl (QLender.mk R) ∧ Lent b R (b.length + 70))
    (fun i R hi hR => .inl ⟨R.set (b.length + i) (bh i), by
      have hl : b.length + i < R.length := by rw [hR.len]; omega
      show Sh.law23_TraceDecodes_l4 b ⟨R⟩ i = _
      simp only [Sh.law23_TraceDecodes_l4, e3, lt_dec, hi, decide_true, cond_true, Sh.law00_behind, Option.bind_some, ei i hi, get_at hl, next64 hi (by omega), Int.toNat_natCast]
      rfl, ⟨by rw [List.length_set]; exact hR.len, by rw [List.take_set_of_le (by omega)]; exact hR.head, fun j hj => by
        rw [List.getElem?_set]
        by_cases hji : j = i
        · subst hji; rw [if_pos rfl, if_pos (by rw [hR.len]; omega)]
        · rw [if_neg (by omega)]; exact hR.marks j (by omega)⟩⟩)
    (fun R hR => ⟨Sum.inl (QLender.mk R), by
      show Sh.law23_TraceDecodes_l4 b ⟨R⟩ _ = _
      simp only [Sh.law23_TraceDecodes_l4, e3, lt_dec, Nat.lt_irrefl, decide_false, cond_false], R, rfl, hR⟩)
    (b.length + 70) 0 (b ++ (List.replicate (4 * b.length + 200) (0 : UInt8)).drop b.length) (by omega) ⟨by simp; omega, by simp, fun j hj => by omega⟩
  have hslc : Fx.slc R 0 (b.length : Int) = some b := by
    unfold Fx.slc
    rw [if_pos (by rw [hR.len]; omega)]
    simp [hR.head]
  -- the lender's look back
  have hback : ∃ h, Sh.law00_Lender_Back ⟨R⟩ b = some (true, h) := by
    obtain ⟨g', k1, h, k2⟩ := count_rule (body := fun (v : QLender × Int) => match v with | (v495, v498) => Sh.law00_Lender_Back_l5 b v495 v498) b.length (fun i (S : List UInt8) => (QLender.mk S, (i : Int))) (fun i S => S.length = R.length) (fun g => ∃ h, g = Sum.inl h)
      (fun i S hi hS => .inl (by
        have hl : i < S.length := by rw [hS, hR.len]; omega
        refine ⟨S.set i (Fw.byteOf (((BitVec.ofInt 8 (S[i].toNat : Int) ^^^ BitVec.ofInt 8 90).toNat : Int))), ?_, by rw [List.length_set]; exact hS⟩
        show Sh.law00_Lender_Back_l5 b ⟨S⟩ i = _
        simp only [Sh.law00_Lender_Back_l5, lt_dec, hi, decide_true, cond_true, get_at hl, Option.bind_some, next64 hi (show b.length ≤ _ by omega)]
        rfl))
      (fun S hS => ⟨Sum.inl (QLender.mk S), by
        show Sh.law00_Lender_Back_l5 b ⟨S⟩ _ = _
        simp [Sh.law00_Lender_Back_l5], _, rfl⟩) b.length 0 R (by omega) rfl
    subst k2
    obtain ⟨g2, m1, m2⟩ := count_rule (body := fun (v : Bool × Int) => match v with | (v391, v392) => Sh.law00_Lender_Back_l2 ⟨R⟩ b v391 v392) (b.length + 70) (fun i (a : Unit) => (true, (i : Int))) (fun i a => True) (fun g => g = Sum.inl true)
      (fun i a hi _ => .inl ⟨(), by
        have hl : b.length + i < R.length := by rw [hR.len]; omega
        have hm := hR.marks i hi
        rw [List.getElem?_eq_getElem hl] at hm
        show Sh.law00_Lender_Back_l2 ⟨R⟩ b true i = _
        simp only [Sh.law00_Lender_Back_l2, e3, lt_dec, hi, decide_true, cond_true, ei i hi, get_at hl, Option.bind_some, Sh.law00_behind, Option.some.inj hm, seq_l, Sh.law00_Lender_Back_j3, next64 hi (by omega)]
        simp [bh], trivial⟩)
      (fun a _ => ⟨Sum.inl true, by
        show Sh.law00_Lender_Back_l2 ⟨R⟩ b true _ = _
        simp only [Sh.law00_Lender_Back_l2, e3, lt_dec, Nat.lt_irrefl, decide_false, cond_false], rfl⟩) (b.length + 70) 0 () (by omega) trivial
    subst m2
    refine ⟨h, ?_⟩
    simp only [Sh.law00_Lender_Back, hslc, Option.bind_some, Sh.law00_SameBytes, decide_true]
    refine seq_eq m1 ?_
    simp only [Fx.fin, Sh.law00_Lender_Back_j1]
    exact seq_eq k1 rfl
  obtain ⟨h, hback⟩ := hback
  obtain ⟨p, place, e, d1, d2, d3⟩ := decodes_ok b
  have hj2 : Sh.law23_TraceDecodes_j2 b ⟨List.replicate (4 * b.length + 200) 0⟩ = some (Sum.inl (b, ⟨R⟩)) := by
    simp only [Sh.law23_TraceDecodes_j2, hcpy, Option.bind_some]
    refine seq_eq g1 ?_
    simp only [Fx.fin, Sh.law23_TraceDecodes_j3, hslc, Option.bind_some]
  have hpos : (0 : Int) < 2 * (b.length : Int) + 70 := by omega
  simp only [Sh.law23_TraceDecodes, Sh.law23_known, Option.bind_some, Bool.not_true, cond_false, e1, e2, decide_eq_true hpos, cond_true, hmk, seq_l, hj2]
  simp [Sh.law23_TraceDecodes_c1, d1, d2, d3, hback, seq_l, Sh.law23_TraceDecodes_j5]
end Go.Sp
end
