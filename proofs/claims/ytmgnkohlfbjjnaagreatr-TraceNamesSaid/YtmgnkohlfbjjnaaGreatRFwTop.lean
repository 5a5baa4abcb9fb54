/- The steps as the scripts use them. No statement of the seat is proved here. -/
import Derived.Test.YtmgnkohlfbjjnaaGreatRFwEq
namespace Go.Fw
set_option linter.unusedVariables false
set_option linter.unusedSimpArgs false

section
variable {P : Program} {n : Nat} {F : List (Nat × Value)} {a : Act} {dd : List Deferred} {w : World} {o : Oper}

/-- A byte out of a number. -/
def byteOf (x : Int) : UInt8 := UInt8.ofNat (x % 256).toNat
theorem byteOf_toNat (x : Int) : ((byteOf x).toNat : Int) = x % 256 := by
  unfold byteOf
  rw [UInt8.toNat_ofNat']
  omega
theorem wrap_u8 (x : Int) : IntKind.u8.wrap x = ((byteOf x).toNat : Int) := by
  rw [byteOf_toNat, IntKind.wrap_u8]

theorem r_convB {s d : TypeId} {x : Operand} {ds : TypeDesc} {k : IntKind} {i : Int} (hs : P.underlying s = some ds) (hd : P.underlying d = some (.int .u8)) (hF : Fr n F a dd) (ho : o.op = .convert s d x) (hx : ev F x = some (.int k i)) :
    (execOp a.eval o).run P w = .ok (.value (.int .u8 ((byteOf i).toNat : Int))) w := by rw [r_conv hs hd hF ho hx, wrap_u8]
def noI8 : IntKind → Bool
  | .i8 => false
  | _ => true
theorem wrap_byte {k : IntKind} (hk : noI8 k = true) (b : UInt8) : k.wrap (b.toNat : Int) = (b.toNat : Int) := by
  have := b.toNat_lt
  cases k
  · cases hk
  · exact IntWalk.i16_in _ (by omega)
  · exact IntWalk.i32_in _ (by omega)
  · exact IntWalk.i64_in _ (by omega)
  · exact IntWalk.u8_in _ (by omega)
  · exact IntWalk.u16_in _ (by omega)
  · exact IntWalk.u32_in _ (by omega)
  · exact IntWalk.u64_in _ (by omega)
theorem r_convU {s d : TypeId} {x : Operand} {ds : TypeDesc} {k : IntKind} {b : UInt8} (hs : P.underlying s = some ds) (hd : P.underlying d = some (.int k)) (hk : noI8 k = true) (hF : Fr n F a dd) (ho : o.op = .convert s d x) (hx : ev F x = some (.int .u8 (b.toNat : Int))) :
    (execOp a.eval o).run P w = .ok (.value (.int k (b.toNat : Int))) w := by rw [r_conv hs hd hF ho hx, wrap_byte hk]
theorem r_convN {s d : TypeId} {x : Operand} {ds : TypeDesc} {k : IntKind} {i : Int} (hs : P.underlying s = some ds) (hd : P.underlying d = some (.int .i64)) (hF : Fr n F a dd) (ho : o.op = .convert s d x) (hx : ev F x = some (.int k i)) (h : -9223372036854775808 ≤ i ∧ i ≤ 9223372036854775807) :
    (execOp a.eval o).run P w = .ok (.value (.int .i64 i)) w := by rw [r_conv hs hd hF ho hx, wrap64_id h]
theorem r_negN {t : TypeId} {x : Operand} {i : Int} (hF : Fr n F a dd) (ho : o.op = .unOp .neg t x) (hx : ev F x = some (.int .i64 i)) (h : -9223372036854775808 ≤ 0 - i ∧ 0 - i ≤ 9223372036854775807) : (execOp a.eval o).run P w = .ok (.value (.int .i64 (0 - i))) w := by
  rw [r_neg hF ho hx, wrap64_id h]

theorem r_indexAddrN {t e : TypeId} {x y : Operand} {b off len sz i : Nat} {k : IntKind} {ti : TypeInfo} (ht : P.underlying t = some (.array len e)) (hi : P.info? e = some ti) (hs : ti.size = sz)
    (hF : Fr n F a dd) (ho : o.op = .indexAddr t x y) (hx : ev F x = some (.pointer (some ⟨b, off, none⟩))) (hy : ev F y = some (.int k (i : Nat))) (h : i < len) :
    (execOp a.eval o).run P w = .ok (.value (.pointer (some ⟨b, off + i * sz, none⟩))) w := by
  have := r_indexAddrA (P := P) (w := w) ht hi hs hF ho hx hy ⟨by omega, by omega⟩
  simpa using this

theorem r_field1 {t : TypeId} {x : Operand} {i : Nat} {fs : Array Field} {f : Field} {cs : List Value} {v : Value} (ht : P.underlying t = some (.struct fs)) (hf : fs[i]? = some f) (ha : ∀ w, (isAgg f.type).run P w = .ok false w) (hF : Fr n F a dd) (ho : o.op = .field t x i)
    (hx : ev F x = some (.agg cs.toArray)) (hv : cs[f.offset]? = some v) : (execOp a.eval o).run P w = .ok (.value v) w := by
  simp [execOp, ho, hF.eval hx, Instr.field, run_underlying ht, hf, asAgg, run_part_one w ha hv]
theorem r_fieldn {t : TypeId} {x : Operand} {i sz : Nat} {fs : Array Field} {f : Field} {cs vs : List Value} (ht : P.underlying t = some (.struct fs)) (hf : fs[i]? = some f) (ha : ∀ w, (isAgg f.type).run P w = .ok true w) (hs : ∀ w, (sizeOf f.type).run P w = .ok sz w) (hF : Fr n F a dd) (ho : o.op = .field t x i)
    (hx : ev F x = some (.agg cs.toArray)) (hv : cut cs f.offset sz = vs) : (execOp a.eval o).run P w = .ok (.value (.agg vs.toArray)) w := by
  simp [execOp, ho, hF.eval hx, Instr.field, run_underlying ht, hf, asAgg, run_part_agg w ha hs hv]

/-! Structs that are built. -/
theorem foldl_set (vs : List Value) : ∀ (k off : Nat) (cs : List Value), off + k + vs.length ≤ cs.length → (vs.zipIdx k).foldl (fun (acc : Array Value) (p : Value × Nat) => acc.setIfInBounds (off + p.2) p.1) cs.toArray = (put cs (off + k) vs).toArray := by
  induction vs with
  | nil => intro k off cs _; simp [put]
  | cons v vs ih =>
    intro k off cs h
    simp only [List.length_cons] at h
    simp only [List.zipIdx_cons, List.foldl_cons, List.setIfInBounds_toArray]
    rw [ih (k + 1) off (cs.set (off + k) v) (by simp; omega)]
    congr 1
    unfold put
    rw [List.set_eq_take_append_cons_drop, if_pos (by omega)]
    have h1 : (cs.take (off + k)).length = off + k := by simp; omega
    simp only [List.length_cons]
    rw [show off + (k + 1) = off + k + 1 by omega]
    rw [List.take_append, List.drop_append, h1]
    simp only [show off + k + 1 - (off + k) = 1 by omega, show off + k + 1 + vs.length - (off + k) = vs.length + 1 by omega, List.take_succ_cons, List.take_zero, List.drop_succ_cons]
    rw [List.take_of_length_le (by rw [h1]; omega), List.drop_eq_nil_of_le (by rw [h1]; omega)]
    simp
    congr 1
    omega

theorem fill_e {place : Nat → Option (Nat × Nat)} {cs : List Value} : Instr.fill place cs.toArray [] = some cs.toArray := rfl
theorem fill_p {place : Nat → Option (Nat × Nat)} {cs cs' vs : List Value} {i off sz : Nat} {rest : List (Nat × Value)} {r : Array Value} (hp : place i = some (off, sz)) (hl : vs.length = sz) (hle : off + vs.length ≤ cs.length) (hput : put cs off vs = cs') (h : Instr.fill place cs'.toArray rest = some r) :
    Instr.fill place cs.toArray ((i, .agg vs.toArray) :: rest) = some r := by
  subst hput hl
  have hf := foldl_set vs 0 off cs (by omega)
  simp only [Nat.add_zero] at hf
  simp only [Instr.fill, hp, Value.cells, List.size_toArray, ne_eq, not_true_eq_false, decide_false, Bool.false_or, decide_eq_true_eq]
  rw [if_neg (by omega), ← Array.foldl_toList, Array.toList_zipIdx]
  simp only [hf]
  exact h
theorem fill_s {place : Nat → Option (Nat × Nat)} {cs cs' : List Value} {v : Value} {i off : Nat} {rest : List (Nat × Value)} {r : Array Value} (hp : place i = some (off, 1)) (hv : v.oneCell' = true) (hle : off < cs.length) (hput : cs.set off v = cs') (h : Instr.fill place cs'.toArray rest = some r) :
    Instr.fill place cs.toArray ((i, v) :: rest) = some r := by
  subst hput
  have hc : v.cells = [v].toArray := by cases v <;> first | rfl | cases hv
  have hf := foldl_set [v] 0 off cs (by simp; omega)
  simp only [Nat.add_zero] at hf
  simp only [Instr.fill, hp, hc, List.size_toArray, List.length_cons, List.length_nil, Nat.zero_add, ne_eq, not_true_eq_false, decide_false, Bool.false_or, decide_eq_true_eq]
  rw [if_neg (by omega), ← Array.foldl_toList, Array.toList_zipIdx]
  simp only [hf]
  rw [List.set_eq_take_append_cons_drop, if_pos hle] at h
  simpa [put] using h

def plc (P : Program) (t : TypeId) : Sem (Array (Nat × Nat)) := (P.fieldsOf t).mapM fun f => do pure (f.offset, ← sizeOf f.type)
theorem r_build {t : TypeId} {fs : Array Field} {pl : Array (Nat × Nat)} {zs cs : List Value} {parts : List (Nat × Operand)} {vps : List (Nat × Value)} (hz : ∀ w, (zeroValue t).run P w = .ok (.agg zs.toArray) w) (hu : P.underlying t = some (.struct fs))
    (hp : ∀ w, (plc P t).run P w = .ok pl w) (hF : Fr n F a dd) (ho : o.op = .build t parts.toArray) (hx : evps F parts = some vps) (hfill : Instr.fill (pl[·]?) zs.toArray vps = some cs.toArray) :
    (execOp a.eval o).run P w = .ok (.value (.agg cs.toArray)) w := by
  have hps : (parts.toArray.map fun (i, x) => (i, a.eval x)).toList = vps := by
    simp only [List.map_toArray]
    exact hF.evalps hx
  simp only [plc, Program.fieldsOf, hu] at hp
  simp only [execOp, ho, Instr.build, Sem.run_bind, hz, Result.andThen_ok, Value.cells, run_underlying hu, hp, hps, hfill, Sem.run_pure]
end

theorem g_split {G : Prop} {n : Nat} {F : List (Nat × Value)} {a : Act} {dd : List Deferred} {b : Bool} (t : Nat) (_hF : Fr n F a dd) (_h : look F t = some (.bool b)) (h1 : b = true → G) (h2 : b = false → G) : G := by
  cases b
  · exact h2 rfl
  · exact h1 rfl

theorem not_t {b : Bool} (h : b = true) : (!b) = false := by rw [h]; rfl
theorem not_f {b : Bool} (h : b = false) : (!b) = true := by rw [h]; rfl

section
variable {r : Option Nat} {P : Program} {Q : Exit → Act → World → Prop} {a : Act} {dd : List Deferred} {w : World} {n : Nat} {F : List (Nat × Value)} {L : List Res}

theorem c_loopK {c : Code} (hF : Fr n F a dd) (hM : MemL w L) (I : List (Nat × Value) → List Res → Nat → Act → World → Prop) (m₀ : Nat) (h₀ : Fr n F a dd → MemL w L → I F L m₀ a w)
    (round : ∀ m a w, I F L m a w → Wp r P c (Exit.then (fun a' w' => ∃ y, I F L y a' w' ∧ y < m) Q) a w) : Wp r P (.loop c) Q a w :=
  c_loop (I F L) id m₀ (h₀ hF hM) round

theorem c_meetK {c : Code} (hF : Fr n F a dd) (hM : MemL w L) (R : List (Nat × Value) → List Res → Act → World → Prop) (h : Fr n F a dd → MemL w L → Wp r P c (Exit.then (R F L) Q) a w) (next : ∀ a w, R F L a w → Q .normal a w) : Wp r P c Q a w :=
  c_meet (h hF hM) next

theorem allIn_keepF' (F : List (Nat × Value)) (ks : List Nat) : ∀ i v, look (keepF F ks) i = some v → look F i = some v := fun i v h => look_keepF F ks i v h

/-- At the first coming to a loop's head. -/
theorem Fr.first {G : List (Nat × Value)} {ks : List Nat} (h : Fr n F a dd) (hG : allIn F G) : Fr n (G ++ keepF F ks) a dd :=
  h.head G ks (allIn_look hG)

theorem MemL.cast {L' : List Res} (h : MemL w L) (e : L = L') : MemL w L' := e ▸ h
theorem MemL.tail {r : Res} (h : MemL w (r :: L)) : MemL w L := by
  constructor
  · intro i s hi; exact h.hold (i + 1) s hi
  · intro i j s t hi hj hij; exact h.apart (i + 1) (j + 1) s t hi hj (by omega)

theorem c_condT {c : Operand} {x y : Code} {b : Bool} (hF : Fr n F a dd) (hc : ev F c = some (.bool b)) (hb : b = true) (h : Wp r P x Q a w) : Wp r P (.cond c x y) Q a w := wpIn_cond_true (by rw [hF.eval hc, hb]) h
theorem c_condF {c : Operand} {x y : Code} {b : Bool} (hF : Fr n F a dd) (hc : ev F c = some (.bool b)) (hb : b = false) (h : Wp r P y Q a w) : Wp r P (.cond c x y) Q a w := wpIn_cond_false (by rw [hF.eval hc, hb]) h

/-- Its guard was passed over itself. -/
theorem wanted_u {ops : Array Oper} {o : Oper} {g t : Nat} {want : Bool} (hF : Fr n F a dd) (hg : o.guard = some (g, want)) (ht : (ops[g]?).bind (·.dst) = some t) (hc : look F t = some undef) :
    Region.wanted o (yielded ops a.tmps) = false := by
  have := hF.get t _ hc
  simp [Region.wanted, hg, yielded, ht, this, undef]
theorem g_skipU {ops : Array Oper} {o : Oper} {rest : List Oper} {d : Nat} {g t : Nat} {want : Bool} (hF : Fr n F a dd) (hg : o.guard = some (g, want)) (ht : (ops[g]?).bind (·.dst) = some t) (hc : look F t = some undef)
    (hd : o.dst = some d) (hn : Nat.blt d n = true)
    (next : ∀ a', Fr n ((d, undef) :: F) a' dd → wpL r P ops Q rest a' w) : wpL r P ops Q (o :: rest) a w :=
  wpListIn_step fun _ hK => by
    rw [if_neg (by rw [wanted_u hF hg ht hc]; exact Bool.false_ne_true)]
    exact ⟨fun _ _ => trivial, hK _ _ (by rw [hd]; exact next _ (hF.put hn))⟩

/-! Where the order is drawn. -/
variable {ops : Array Oper} {T : List Nat} {C : World → Prop} {Ls : List Res} {o : Oper} {d : Nat} {v : Value}

theorem d_start {i : Nat} {l : List Oper} (hm : P.follows .mixedOrders = true) (hc : chk l.toArray = true) (hM : MemL w L) (h : chk l.toArray = true → DW r P l.toArray Q [] (MemL · L) (MemL · L) a) : Wp r P (.region i l.toArray true) Q a w :=
  c_draw hm hM.drew hM.drew (h hc)
/-- Only some of the resources are looked at by what may lag. -/
theorem d_startS {i : Nat} {l : List Oper} (hm : P.follows .mixedOrders = true) (hc : chk l.toArray = true) (hM : MemL w L) (is : List Nat) (hn : nodupN is = true) (h : chk l.toArray = true → DW r P l.toArray Q [] (MemL · (sel L is)) (MemL · L) a) : Wp r P (.region i l.toArray true) Q a w :=
  c_draw hm (hM.drew.sel is hn) hM.drew (h hc)

theorem d_val (hF : Fr n F a dd) (hc : chk ops = true) (i : Nat) (ho : ops[i]? = some o) (hok : okq ops T i = true) (hg : o.guard = none) (hd : o.dst = some d) (hn : Nat.blt d n = true)
    (hr : ∀ w, MemL w Ls → (execOp a.eval o).run P w = .ok (.value v) w) (next : ∀ a', Fr n ((d, v) :: F) a' dd → DW r P ops Q (i :: T) (MemL · Ls) C a') : DW r P ops Q T (MemL · Ls) C a :=
  dw_q hc ho hok (fun w hw => .inl ⟨by simp [Region.wanted, hg], hr w hw⟩) (by rw [hd]; exact next _ (hF.put hn))
theorem d_valg {g t : Nat} {want c : Bool} (hF : Fr n F a dd) (hc : chk ops = true) (i : Nat) (ho : ops[i]? = some o) (hok : okq ops T i = true) (hg : o.guard = some (g, want)) (ht : (ops[g]?).bind (·.dst) = some t) (hb : look F t = some (.bool c)) (hw : c = want) (hd : o.dst = some d) (hn : Nat.blt d n = true)
    (hr : ∀ w, MemL w Ls → (execOp a.eval o).run P w = .ok (.value v) w) (next : ∀ a', Fr n ((d, v) :: F) a' dd → DW r P ops Q (i :: T) (MemL · Ls) C a') : DW r P ops Q T (MemL · Ls) C a :=
  dw_q hc ho hok (fun w hx => .inl ⟨wanted_yes hF hg ht hb hw, hr w hx⟩) (by rw [hd]; exact next _ (hF.put hn))
theorem d_skip {g t : Nat} {want c : Bool} (hF : Fr n F a dd) (hc : chk ops = true) (i : Nat) (ho : ops[i]? = some o) (hok : okq ops T i = true) (hg : o.guard = some (g, want)) (ht : (ops[g]?).bind (·.dst) = some t) (hb : look F t = some (.bool c)) (hw : c = !want) (hd : o.dst = some d) (hn : Nat.blt d n = true)
    (next : ∀ a', Fr n ((d, undef) :: F) a' dd → DW r P ops Q (i :: T) (MemL · Ls) C a') : DW r P ops Q T (MemL · Ls) C a :=
  dw_q hc ho hok (fun _ _ => .inr ⟨wanted_no hF hg ht hb hw, rfl⟩) (by rw [hd]; exact next _ (hF.put hn))

theorem d_skipU {g t : Nat} {want : Bool} (hF : Fr n F a dd) (hc : chk ops = true) (i : Nat) (ho : ops[i]? = some o) (hok : okq ops T i = true) (hg : o.guard = some (g, want)) (ht : (ops[g]?).bind (·.dst) = some t) (hb : look F t = some undef) (hd : o.dst = some d) (hn : Nat.blt d n = true)
    (next : ∀ a', Fr n ((d, undef) :: F) a' dd → DW r P ops Q (i :: T) (MemL · Ls) C a') : DW r P ops Q T (MemL · Ls) C a :=
  dw_q hc ho hok (fun _ _ => .inr ⟨wanted_u hF hg ht hb, rfl⟩) (by rw [hd]; exact next _ (hF.put hn))

/-- What acts. -/
theorem d_ex (hF : Fr n F a dd) (e : Nat) (ho : ops[e]? = some o) (hns : noSel o = true) (hg : o.guard = none) (hd : o.dst = some d) (hn : Nat.blt d n = true)
    (hy : ∀ w, MemL w Ls → MemL w L → Yd P o a.eval w (fun v w' => ∃ Ls' L', MemL w' Ls' ∧ MemL w' L' ∧ ((∀ x, MemL x Ls' → MemL x Ls) ∨ sync ops T e = true) ∧ ∀ a', Fr n ((d, v) :: F) a' dd → DW r P ops Q (e :: T) (MemL · Ls') (MemL · L') a')) :
    Ex r P ops Q T (MemL · Ls) (MemL · L) a e :=
  ⟨o, ho, by simp [Region.wanted, hg], hns, fun w h1 h2 => (hy w h1 h2).mono fun v w' ⟨Ls', L', h3, h4, h5, h6⟩ => ⟨_, _, h3, h4, h5.imp id sync_P, by rw [hd]; exact h6 _ (hF.put hn)⟩⟩
theorem d_exg {g t : Nat} {want c : Bool} (hF : Fr n F a dd) (e : Nat) (ho : ops[e]? = some o) (hns : noSel o = true) (hg : o.guard = some (g, want)) (ht : (ops[g]?).bind (·.dst) = some t) (hb : look F t = some (.bool c)) (hw : c = want) (hd : o.dst = some d) (hn : Nat.blt d n = true)
    (hy : ∀ w, MemL w Ls → MemL w L → Yd P o a.eval w (fun v w' => ∃ Ls' L', MemL w' Ls' ∧ MemL w' L' ∧ ((∀ x, MemL x Ls' → MemL x Ls) ∨ sync ops T e = true) ∧ ∀ a', Fr n ((d, v) :: F) a' dd → DW r P ops Q (e :: T) (MemL · Ls') (MemL · L') a')) :
    Ex r P ops Q T (MemL · Ls) (MemL · L) a e :=
  ⟨o, ho, wanted_yes hF hg ht hb hw, hns, fun w h1 h2 => (hy w h1 h2).mono fun v w' ⟨Ls', L', h3, h4, h5, h6⟩ => ⟨_, _, h3, h4, h5.imp id sync_P, by rw [hd]; exact h6 _ (hF.put hn)⟩⟩
theorem d_ex0 (e : Nat) (ho : ops[e]? = some o) (hns : noSel o = true) (hg : o.guard = none) (hd : o.dst = none)
    (hy : ∀ w, MemL w Ls → MemL w L → Yd P o a.eval w (fun _ w' => ∃ Ls' L', MemL w' Ls' ∧ MemL w' L' ∧ ((∀ x, MemL x Ls' → MemL x Ls) ∨ sync ops T e = true) ∧ DW r P ops Q (e :: T) (MemL · Ls') (MemL · L') a)) :
    Ex r P ops Q T (MemL · Ls) (MemL · L) a e :=
  ⟨o, ho, by simp [Region.wanted, hg], hns, fun w h1 h2 => (hy w h1 h2).mono fun v w' ⟨Ls', L', h3, h4, h5, h6⟩ => ⟨_, _, h3, h4, h5.imp id sync_P, by rw [hd]; exact h6⟩⟩

theorem d_one {Cs : World → Prop} (hc : chk ops = true) (e : Nat) (hb : blk ops T [e] = true) (hl : Nat.blt e ops.size = true) (hT : memN e T = false) (h : Ex r P ops Q T Cs C a e) : DW r P ops Q T Cs C a :=
  dw_e hc [e] hb ⟨e, by simp, Nat.le_of_ble_eq_true hl, hT⟩ ⟨h, trivial⟩
theorem d_two {Cs : World → Prop} (hc : chk ops = true) (e f : Nat) (hb : blk ops T [e, f] = true) (hl : Nat.blt e ops.size = true) (hT : memN e T = false) (h : Ex r P ops Q T Cs C a e) (h' : Ex r P ops Q T Cs C a f) : DW r P ops Q T Cs C a :=
  dw_e hc [e, f] hb ⟨e, by simp, Nat.le_of_ble_eq_true hl, hT⟩ ⟨h, h', trivial⟩
theorem d_three {Cs : World → Prop} (hc : chk ops = true) (e f g : Nat) (hb : blk ops T [e, f, g] = true) (hl : Nat.blt e ops.size = true) (hT : memN e T = false) (h : Ex r P ops Q T Cs C a e) (h' : Ex r P ops Q T Cs C a f) (h'' : Ex r P ops Q T Cs C a g) : DW r P ops Q T Cs C a :=
  dw_e hc [e, f, g] hb ⟨e, by simp, Nat.le_of_ble_eq_true hl, hT⟩ ⟨h, h', h'', trivial⟩

theorem d_end {Cs : World → Prop} (hc : chk ops = true) (hall : allDone ops T = true) (h : ∀ w, MemL w L → Q .normal a w) : DW r P ops Q T Cs (MemL · L) a := dw_end hc hall h
end
end Go.Fw
