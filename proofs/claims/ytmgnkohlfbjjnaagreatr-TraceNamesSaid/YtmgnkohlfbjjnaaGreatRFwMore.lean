/- More steps: cutting slices, elements of array values, nil, empty literals, copy. No statement of the seat is proved here. -/
import Derived.Test.YtmgnkohlfbjjnaaGreatRPl
import Derived.Laws.CopyRow
import Derived.Laws.Cover3
import Derived.Laws.IdiomCopy
import Derived.Laws.IdiomStrings
namespace Go.Fw
set_option linter.unusedVariables false
set_option linter.unusedSimpArgs false

/-- What 's[i:j]' is. -/
def SV.cut (s : SV) (i j sz : Nat) : SV := ⟨if s.cap - i = 0 then s.a else s.a.map (·.add (i * sz)), j - i, s.cap - i⟩

theorem SliceOf.cut {X : Type} [Enc X] {lo : Nat} {w : World} {s : SV} {l : List X} (h : SliceOf lo w s l) {i j : Nat} (hij : i ≤ j) (hj : j ≤ l.length) : SliceOf lo w (s.cut i j (Enc.sz X)) ((l.drop i).take (j - i)) := by
  have hl := h.len
  have hr := h.room
  have hc := h.cells
  refine ⟨by simp [SV.cut]; omega, by simp only [SV.cut]; omega, ?_⟩
  obtain ⟨sa, sl, sc⟩ := s
  simp only at hl hr
  subst hl
  by_cases h0 : sc - i = 0
  · simp only [SV.cut, if_pos h0]
    have hd : (l.drop i).take (j - i) = [] := by rw [List.drop_eq_nil_of_le (by omega)]; simp
    cases sa with
    | none => exact ⟨hd, h0⟩
    | some ad =>
      obtain ⟨h1, h2, h3⟩ := hc
      exact ⟨h1, h2, by rw [hd]; intro k v hv; simp [encs_nil] at hv⟩
  · simp only [SV.cut, if_neg h0]
    cases sa with
    | none =>
      obtain ⟨h1, h2⟩ := hc
      subst h1
      exact ⟨by simp, by simp at h2; omega⟩
    | some ad =>
      obtain ⟨b, off, sp⟩ := ad
      obtain ⟨h1, h2, h3⟩ := hc
      simp only at h1; subst h1
      simp only [Option.map_some, addr_add]
      refine ⟨trivial, h2, fun k v hv => ?_⟩
      have hk : k < (encs ((l.drop i).take (j - i))).length := (List.getElem?_eq_some_iff.1 hv).1
      have e : encs l = encs (l.take i) ++ (encs ((l.drop i).take (j - i)) ++ encs ((l.drop i).drop (j - i))) := by
        rw [← encs_append, ← encs_append, List.take_append_drop, List.take_append_drop]
      have e1 : (encs (l.take i)).length = i * Enc.sz X := by rw [encs_len]; simp [Nat.min_eq_left (show i ≤ l.length by omega)]
      have := h3 (i * Enc.sz X + k) v (by rw [e, List.getElem?_append_right (by omega), e1, Nat.add_sub_cancel_left, List.getElem?_append_left hk, hv])
      simpa [Addr.add, Nat.add_assoc] using this

theorem LAt.cut {X : Type} [Enc X] {lo : Nat} {w : World} {s : SV} {l : List X} (h : LAt lo w s l) {i j : Nat} (hij : i ≤ j) (hj : j ≤ l.length) : LAt lo w (s.cut i j (Enc.sz X)) ((l.drop i).take (j - i)) :=
  ⟨h.sl.cut hij hj, by have := h.big; simp; omega⟩

/-- An array's cells, read as a slice. -/
theorem SliceOf.ofArr {X : Type} [Enc X] {lo b off n : Nat} {w : World} {l : List X} (hc : Cells w b off (encs l)) (hb : lo ≤ b) (hn : l.length = n) : SliceOf lo w ⟨some ⟨b, off, none⟩, n, n⟩ l := by
  subst hn; exact ⟨rfl, Nat.le_refl _, rfl, hb, hc⟩
theorem SliceOf.isNil {X : Type} [Enc X] {lo : Nat} {w : World} {s : SV} {l : List X} (h : SliceOf lo w s l) (hn : s.a.isNone = true) : l = [] := by
  have hc := h.cells
  cases ha : s.a with
  | none => rw [ha] at hc; exact hc.1
  | some _ => rw [ha] at hn; cases hn
theorem SliceOf.empty {X : Type} [Enc X] {lo b n : Nat} {w : World} (hb : lo ≤ b) : SliceOf lo w ⟨some ⟨b, 0, none⟩, 0, n⟩ ([] : List X) := ⟨rfl, Nat.zero_le _, rfl, hb, fun k v hv => by simp [encs_nil] at hv⟩

theorem encs_at {X : Type} [Enc X] {l : List X} {i : Nat} {y : X} {v : Value} (h : l[i]? = some y) (hv : (Enc.enc y)[0]? = some v) : (encs l)[i * Enc.sz X]? = some v := by
  have := get_of_cut (encs_get l i y h) hv
  simpa using this

/-- New resources beside the old ones. -/
theorem MemL.beside {w w' : World} {L A : List Res} (h : MemL w L) (k : Keeps [] w w') (hA : MemL w' A) (hf : ∀ r ∈ A, ∀ j, r.fp j → w.heap.size ≤ j) : MemL w' (A ++ L) := by
  have hk := h.keep k
  constructor
  · intro i r hi
    by_cases hl : i < A.length
    · rw [List.getElem?_append_left hl] at hi; exact hA.hold i r hi
    · rw [List.getElem?_append_right (by omega)] at hi; exact hk.hold _ r hi
  · intro i j r s hi hj hij b hr hs
    by_cases hl : i < A.length
    · rw [List.getElem?_append_left hl] at hi
      by_cases hl' : j < A.length
      · rw [List.getElem?_append_left hl'] at hj; exact hA.apart i j r s hi hj hij b hr hs
      · rw [List.getElem?_append_right (by omega)] at hj
        have h1 := hf r (List.mem_of_getElem? hi) b hr
        have h2 := Res.fp_lt (h.hold _ s hj) hs
        omega
    · rw [List.getElem?_append_right (by omega)] at hi
      by_cases hl' : j < A.length
      · rw [List.getElem?_append_left hl'] at hj
        have h1 := hf s (List.mem_of_getElem? hj) b hs
        have h2 := Res.fp_lt (h.hold _ r hi) hr
        omega
      · rw [List.getElem?_append_right (by omega)] at hj
        exact hk.apart _ _ r s hi hj (by omega) b hr hs

/-- A new block of one's own, as a row. -/
theorem Own.ofPt {X : Type} [Enc X] {lo b e n c : Nat} {w : World} {l : List X} (hb : w.heap[b]? = some (.cells (encs l).toArray e (0, 0))) (hlo : lo ≤ b) (hn : n = l.length) (hc : c = n) (hm : n ≤ maxLen) : Own lo w e ⟨some ⟨b, 0, none⟩, n, c⟩ l := by
  subst hn hc
  exact ⟨by rw [encs_len], .inr ⟨b, l.length, (encs l).toArray, rfl, hlo, hb, Nat.le_refl _, hm, by simp [encs_len], by simp [List.take_of_length_le, encs_len]⟩⟩
theorem MemL.ptRow {w : World} {L : List Res} {X : Type} [Enc X] {lo i b e n c : Nat} {l : List X} {cs : List Value} (h : MemL w L) (hi : L[i]? = some (pt b cs e)) (hc : cs = encs l) (hlo : lo ≤ b) (hn : n = l.length) (hcc : c = n) (hm : n ≤ maxLen) :
    MemL w (L.set i (rowL lo ⟨some ⟨b, 0, none⟩, n, c⟩ e l)) := by
  subst hc
  refine h.upd i hi (Io.refl w) (Nat.le_refl _) (fun _ _ _ => rfl) (Own.ofPt (h.obj hi) hlo hn hcc hm) fun k hk => .inl ?_
  simp [Res.fp, SV.v, Value.ownBlock] at hk ⊢
  exact hk.symm

theorem set_last {X : Type} {l : List X} {x y : X} : (l ++ [x]).set l.length y = l ++ [y] := by simp
theorem get_last {X : Type} {l : List X} {x : X} : (l ++ [x])[l.length]? = some x := by simp
/-- Two rows are kept beside what is kept. -/
theorem MemL.absorb2 {w : World} {L : List Res} {X : Type} [Enc X] {f : Nat → Prop} {Q Q' : World → Prop} {lo lo1 e : Nat} {so sn : SV} {ol nl : List X} (h : MemL w (.gen f Q :: rowL lo so e ol :: rowL lo sn e nl :: L)) (hf : ∀ k, f k → lo1 ≤ k) (hlo : lo1 ≤ lo)
    (hq : ∀ w, Q w → Own lo w e so ol → Own lo w e sn nl → Q' w) : ∃ f', (∀ k, f' k → lo1 ≤ k) ∧ MemL w (.gen f' Q' :: L) := by
  have o1 := h.own (X := X) (i := 1) rfl
  have o2 := h.own (X := X) (i := 2) rfl
  have h1 := h.both.both
  refine ⟨_, ?_, h1.weak fun w' q => ?_⟩
  · intro k hk
    rcases hk with (hk | hk) | hk
    · exact hf k hk
    · exact Nat.le_trans hlo (World.ownsRow.lt o1 k hk).1
    · exact Nat.le_trans hlo (World.ownsRow.lt o2 k hk).1
  · obtain ⟨q1, q2⟩ := q
    have q1' := q1.2 w' (Io.refl _) (Nat.le_refl _) fun _ _ => rfl
    have q0 := q1'.1.2 w' (Io.refl _) (Nat.le_refl _) fun _ _ => rfl
    exact hq w' q0 q1'.2 q2

theorem encs_upd {X : Type} [Enc X] {l : List X} {i : Nat} {y : X} {vs : List Value} {d : Nat} {z : X} (h : l[i]? = some y) (hd : d + vs.length ≤ Enc.sz X) (hp : put (Enc.enc y) d vs = Enc.enc z) : put (encs l) (i * Enc.sz X + d) vs = encs (l.set i z) := by
  induction l generalizing i with
  | nil => simp at h
  | cons x l ih =>
    cases i with
    | zero =>
      simp at h; subst h
      simp only [Nat.zero_mul, Nat.zero_add, List.set_cons_zero, encs_cons]
      rw [put_in (n := vs.length) (by rw [Enc.len]; exact hd) rfl hp]
    | succ i =>
      simp only [List.set_cons_succ, encs_cons]
      rw [show (i + 1) * Enc.sz X + d = Enc.sz X + (i * Enc.sz X + d) by rw [Nat.add_mul]; omega]
      exact put_skip (Enc.len _) (ih (by simpa using h))

section
variable {P : Program} {n : Nat} {F : List (Nat × Value)} {a : Act} {dd : List Deferred} {w : World} {o : Oper} {J : Value → World → Prop}

theorem r_indexV1 {t e : TypeId} {x y : Operand} {len sz i : Nat} {k : IntKind} {cs : List Value} {v : Value} (ht : P.underlying t = some (.array len e)) (hsz : ∀ w, (sizeOf e).run P w = .ok sz w) (ha : ∀ w, (isAgg e).run P w = .ok false w) (hF : Fr n F a dd) (ho : o.op = .index t x y)
    (hx : ev F x = some (.agg cs.toArray)) (hy : ev F y = some (.int k (i : Nat))) (h : i < len) (hv : cs[i * sz]? = some v) : (execOp a.eval o).run P w = .ok (.value v) w := by
  have h' : (0 : Int) ≤ (i : Int) ∧ (i : Int) < (len : Int) := by omega
  simp only [execOp, ho, hF.eval hx, hF.eval hy, Instr.index, asIntOf, Sem.run_bind, Sem.run_pure, Result.andThen_ok, run_underlying ht, if_pos h', hsz, Int.toNat_natCast, run_part_one w ha hv]
theorem r_indexVn {t e : TypeId} {x y : Operand} {len sz i : Nat} {k : IntKind} {cs vs : List Value} (ht : P.underlying t = some (.array len e)) (hsz : ∀ w, (sizeOf e).run P w = .ok sz w) (ha : ∀ w, (isAgg e).run P w = .ok true w) (hF : Fr n F a dd) (ho : o.op = .index t x y)
    (hx : ev F x = some (.agg cs.toArray)) (hy : ev F y = some (.int k (i : Nat))) (h : i < len) (hv : Fw.cut cs (i * sz) sz = vs) : (execOp a.eval o).run P w = .ok (.value (.agg vs.toArray)) w := by
  have h' : (0 : Int) ≤ (i : Int) ∧ (i : Int) < (len : Int) := by omega
  simp only [execOp, ho, hF.eval hx, hF.eval hy, Instr.index, asIntOf, Sem.run_bind, Sem.run_pure, Result.andThen_ok, run_underlying ht, if_pos h', hsz, Int.toNat_natCast, run_part_agg w ha hsz hv]

theorem r_eqlNil {t yt e : TypeId} {x y : Operand} {s : SV} (ht : P.underlying t = some (.slice e)) (hF : Fr n F a dd) (ho : o.op = .binOp .eql t x y yt) (hx : ev F x = some s.v) (hy : ev F y = some (.slice none 0 0)) :
    (execOp a.eval o).run P w = .ok (.value (.bool s.a.isNone)) w := by
  obtain ⟨sa, sl, sc⟩ := s
  have e : (binOp .eql t (.slice sa sl sc) (.slice none 0 0)).run P w = .ok (.bool sa.isNone) w := by
    have := run_equal_slice_nil (P := P) w t e sa sl sc ht
    simp only [binOp, Sem.run_bind, this, Result.andThen_ok, Sem.run_pure]
  simp only [execOp, ho, hF.eval hx, hF.eval hy, SV.v, eqGuard, Bool.not_true, Bool.false_eq_true, if_false, Sem.run_bind, Sem.run_pure, Result.andThen_ok, e]

/-- 's[i:]', 's[:j]', 's[i:j]'. -/
theorem r_cut {X : Type} [Enc X] {t e : TypeId} {x : Operand} {ol oh : Option Operand} {s : SV} {i j lo sz : Nat} {l : List X} {w1 : World} {ti : TypeInfo} (hs : SliceOf lo w1 s l) (ht : P.underlying t = some (.slice e)) (hi : P.info? e = some ti) (hsz : ti.size = sz) (hF : Fr n F a dd) (ho : o.op = .slice t x ol oh none)
    (hx : ev F x = some s.v) (hl : (ol = none ∧ i = 0) ∨ ∃ y k z, ol = some y ∧ ev F y = some (.int k z) ∧ z = (i : Nat)) (hh : (oh = none ∧ j = l.length) ∨ ∃ y k z, oh = some y ∧ ev F y = some (.int k z) ∧ z = (j : Nat)) (hij : i ≤ j ∧ j ≤ l.length) :
    (execOp a.eval o).run P w = .ok (.value (s.cut i j sz).v) w := by
  have h1 := hs.len
  have h2 := hs.room
  subst hsz
  obtain ⟨sa, sl, sc⟩ := s
  simp only at h1 h2
  have eb : ∀ (v : Value) (k : IntKind) (q c : Nat) (bc : BoundsCode), v = .int k (q : Nat) → q ≤ c → (Instr.sliceBound v c bc).run P w = .ok q w := by
    intro v k q c bc hv hq
    subst hv
    have hq' : (0 : Int) ≤ (q : Int) ∧ (q : Int) ≤ (c : Int) := by omega
    simp only [Instr.sliceBound, asIntOf, Sem.run_bind, Sem.run_pure, Result.andThen_ok, if_pos hq', Int.toNat_natCast]
  have e2 : (Instr.sliceBounds true sl sc (ol.map a.eval) (oh.map a.eval) none).run P w = .ok (i, j, sc) w := by
    rcases hl with ⟨rfl, rfl⟩ | ⟨y, k, _, rfl, hy, rfl⟩ <;> rcases hh with ⟨rfl, rfl⟩ | ⟨z, k', _, rfl, hz, rfl⟩
    · simp [Instr.sliceBounds, h1]
    · simp [Instr.sliceBounds, hF.eval hz, eb _ k' j sc _ rfl (by omega)]
    · simp [Instr.sliceBounds, hF.eval hy, eb _ k i sl _ rfl (by omega), h1]
      simp [eb _ k i l.length _ rfl (by omega)]
    · simp [Instr.sliceBounds, hF.eval hy, hF.eval hz, eb _ k' j sc _ rfl (by omega), eb _ k i j _ rfl (by omega)]
  have e3 : (Instr.sliceAt t (.slice sa sl sc) (ol.map a.eval) (oh.map a.eval) none).run P w = .ok (SV.cut ⟨sa, sl, sc⟩ i j ti.size).v w := by
    by_cases hc : sc = i
    · subst hc
      simp [Instr.sliceAt, Instr.slice, run_underlying ht, e2, sizeOf, typeInfo, hi, SV.cut, SV.v]
    · have : ¬ sc - i = 0 := by omega
      simp [Instr.sliceAt, Instr.slice, run_underlying ht, e2, sizeOf, typeInfo, hi, SV.cut, SV.v, hc, this]
  simp only [execOp, ho, hF.eval hx, SV.v, Option.map_none, Sem.run_bind, Result.andThen_ok, Sem.run_pure] at e3 ⊢
  simp only [e3, Result.andThen_ok]

/-- '[]T{}'. -/
theorem w_slice0 {X : Type} [Enc X] {t e : Nat} {ie : TypeInfo} (lo : Nat) (hlo : lo ≤ w.heap.size) (hu : P.underlying t = some (.slice e)) (hie : P.info? e = some ie) (ho : o.op = .buildSlice t 0 #[])
    (next : ∀ (s : SV) w', Added (rowL lo s e ([] : List X)) w w' → J s.v w') : Yd P o a.eval w J := by
  have hA : Added (rowL lo ⟨some ⟨w.heap.size, 0, none⟩, 0, 0⟩ e ([] : List X)) w (w.alloc (.cells #[] e (0, 0))) :=
    ⟨Keeps.alloc w _, ⟨by simp [encs_nil], .inr ⟨w.heap.size, 0, #[], rfl, hlo, heap_alloc_new w _, Nat.le_refl _, by simp [maxLen], by simp, by simp [encs_nil]⟩⟩, fun k hk => by simp [Res.fp, SV.v, Value.ownBlock] at hk; omega⟩
  have h := next _ _ hA
  have hr : (Instr.buildSlice t 0 #[]).run P w = .ok (SV.v ⟨some ⟨w.heap.size, 0, none⟩, 0, 0⟩) (w.alloc (.cells #[] e (0, 0))) := by
    have e1 : ∀ w, (sizeOf e).run P w = .ok ie.size w := fun w => by simp [sizeOf, typeInfo, hie]
    simp only [Instr.buildSlice, Sem.run_bind, run_underlying hu, Result.andThen_ok, e1, Nat.zero_mul]
    have e0 : Array.range 0 = #[] := by simp
    simp [Instr.fill, newRow]
    rw [e0, Array.map_empty]
  unfold Yd
  simp only [execOp, ho, Sem.run_bind, List.map_toArray, List.map_nil, Array.map_empty, hr, Result.andThen_ok, Sem.run_pure]
  exact h

/-- 'copy(b[i:], x)' where b is ours and it fits. -/
theorem w_copyRow {X : Type} [Enc X] {t dT e lo lo' i ty : Nat} {s sx : SV} {l xs : List X} {ti : TypeInfo} {x y : Operand} (ht : P.underlying dT = some (.slice e)) (hi : P.info? e = some ti) (hs1 : ti.size = 1) (hX : Enc.sz X = 1)
    (hF : Fr n F a dd) (ho : o.op = .call { callee := .builtin .copy, args := #[x, y], argTypes := #[dT, t] }) (hx : ev F x = some (s.cut i l.length 1).v) (hy : ev F y = some sx.v)
    (hown : Own lo w e s l) (hsx : SliceOf lo' w sx xs) (hfit : i + xs.length ≤ l.length)
    (next : ∀ w', Upd (rowL lo s e l) (rowL lo s e (put l i xs)) w w' → J (.int .i64 (xs.length : Nat)) w') : Yd P o a.eval w J := by
  have hsz : (P.info? e).map (·.size) = some 1 := by simp [hi, hs1]
  have fin : ∀ w', (Builtin.copy_ #[dT, t] o.type #[(s.cut i l.length 1).v, sx.v]).run P w = .ok (goInt xs.length) w' → Upd (rowL lo s e l) (rowL lo s e (put l i xs)) w w' → Yd P o a.eval w J := by
    intro w' hr hU
    have h := next w' hU
    unfold Yd
    simp only [execOp, ho, resolve, invoke, builtin, Sem.run_bind, Sem.run_pure, Result.andThen_ok, List.map_toArray, List.map_cons, List.map_nil, hF.eval hx, hF.eval hy, hr]
    exact h
  have hln := hsx.len
  by_cases hxs : xs = []
  · subst hxs
    have hput : put l i ([] : List X) = l := by simp [put]
    refine fin w ?_ ?_
    · simp only [List.length_nil] at hln
      have := run_copy_none (P := P) w dT t o.type e (s.cut i l.length 1).a sx.a (s.cut i l.length 1).len (s.cut i l.length 1).cap sx.len sx.cap ht hsz (by rw [hln]; simp)
      simpa [SV.v] using this
    · rw [hput]
      exact ⟨Io.refl w, Nat.le_refl _, fun _ _ _ => rfl, hown, fun k hk => .inl hk⟩
  · have hpos : 0 < xs.length := List.length_pos_iff.2 hxs
    obtain ⟨b, off, hb⟩ := hsx.addr hxs
    have hcx := hsx.cells
    rw [hb] at hcx
    obtain ⟨_, _, hcx⟩ := hcx
    rcases hown.2 with ⟨h1, h2⟩ | ⟨g, cap, cur, h1, h3, h4, h5, h6, h7, h8⟩
    · omega
    · have hs : s = ⟨some ⟨g, 0, none⟩, l.length, cap⟩ := by obtain ⟨a, b, c⟩ := s; cases h1; rfl
      have hcut : s.cut i l.length 1 = ⟨some ⟨g, i, none⟩, l.length - i, cap - i⟩ := by
        rw [hs]; simp only [SV.cut]; rw [if_neg (by omega)]; simp [addr_add]
      have hel : (encs xs).length = xs.length := by rw [encs_len, hX, Nat.mul_one]
      rw [hX, Nat.mul_one] at h7 h8
      have hfit' : i + (encs xs).length ≤ cur.size := by rw [hel]; omega
      have hr := run_copy_row (P := P) w dT t o.type e g i (l.length - i) (cap - i) ⟨b, off, none⟩ xs.length sx.cap cur e (encs xs) ht hsz h4 (by rw [hel]; simp [Nat.min_def]; omega) (fun j v hv => by rw [addr_add]; exact hcx j v hv) hfit' (encs_ones xs)
      rw [hel] at hr
      refine fin _ (by rw [hcut, hb]; exact hr) ?_
      have hnew : ∀ (cs' : List Value), cs'.length = cur.size → cs'.take l.length = encs (put l i xs) → Own lo (w.setRow g cs'.toArray) e s (put l i xs) := by
        intro cs' hc1 hc2
        have hpl : (put l i xs).length = l.length := by simp [put]; omega
        refine ⟨by rw [encs_len], .inr ⟨g, cap, cs'.toArray, by rw [hpl]; exact h1, h3, setRow_heap w g cur cs'.toArray e _ h4, by rw [hpl]; exact h5, h6, by simp [hc1, h7, hX], by rw [hpl, hX, Nat.mul_one]; simpa using hc2⟩⟩
      have hl1 : (encs l).length = l.length := by rw [encs_len, hX, Nat.mul_one]
      refine ⟨⟨rfl, rfl, rfl⟩, by simp [World.setRow], fun k _ hf => setRow_other w g k _ fun e' => hf (by subst e'; simp [Res.fp, h1, Value.ownBlock]), hnew _ (by simp; omega) ?_, fun k hk => .inl hk⟩
      have e1 : encs (put l i xs) = (encs l).take i ++ encs xs ++ (encs l).drop (i + xs.length) := by
        unfold put
        rw [encs_append, encs_append]
        congr 1
        · congr 1
          have e3 : (encs (l.take i)).length = i := by rw [encs_len, hX]; simp; omega
          have h' := encs_append (l.take i) (l.drop i)
          rw [List.take_append_drop] at h'
          rw [h']; exact (List.take_left' e3).symm
        · have e3 : (encs (l.take (i + xs.length))).length = i + xs.length := by rw [encs_len, hX]; simp; omega
          have h' := encs_append (l.take (i + xs.length)) (l.drop (i + xs.length))
          rw [List.take_append_drop] at h'
          rw [h']; exact (List.drop_left' e3).symm
      rw [e1, ← h8]
      apply List.ext_getElem?
      intro j
      simp only [List.getElem?_take, List.getElem?_append, List.length_append, List.length_take, List.length_drop, List.getElem?_drop, hel, Array.length_toList]
      repeat' split
      all_goals first | rfl | omega | (congr 1; omega) | skip

/-- 'a[:]' of an array variable. -/
theorem r_sliceArr {t e : TypeId} {x : Operand} {b off len : Nat} {ti : TypeInfo} (ht : P.underlying t = some (.array len e)) (hi : P.info? e = some ti) (hpos : Nat.beq len 0 = false) (hF : Fr n F a dd) (ho : o.op = .slice t x none none none) (hx : ev F x = some (.pointer (some ⟨b, off, none⟩))) :
    (execOp a.eval o).run P w = .ok (.value (SV.v ⟨some ⟨b, off, none⟩, len, len⟩)) w := by
  have hp : ¬ len = 0 := fun h => by subst h; cases hpos
  simp [execOp, ho, hF.eval hx, Instr.sliceAt, Instr.sliceBounds, Instr.sureAddr, run_underlying ht, sizeOf, typeInfo, hi, hp, addr_add, SV.v]

theorem r_convStr {t d e lo : TypeId} {x : Operand} {s : SV} {l : List UInt8} {w1 : World} {S : List Nat} {lo' : Nat} (hs : SliceOf lo w1 s l) (hsm : Same lo' S w1 w) (hlo : lo' ≤ lo) (hS : ∀ b ∈ S, b < lo) (ht : P.underlying t = some (.slice e)) (he : P.underlying e = some (.int .u8)) (hd : P.underlying d = some .string)
    (hF : Fr n F a dd) (ho : o.op = .convert t d x) (hx : ev F x = some s.v) : (execOp a.eval o).run P w = .ok (.value (.string ⟨l.toArray⟩)) w := by
  have h := hs.now hsm hlo hS
  have hl := h.len
  have hc := h.cells
  obtain ⟨sa, sl, sc⟩ := s
  simp only at hl; subst hl
  have e : (convert t d (SV.v ⟨sa, l.length, sc⟩)).run P w = .ok (.string ⟨l.toArray⟩) w := by
    cases sa with
    | none =>
      have hn : l = [] := hc.1
      subst hn
      rw [show SV.v ⟨none, ([] : List UInt8).length, sc⟩ = .slice none 0 sc from rfl, run_convert_bytes_string w t d e none 0 sc ht he hd]
      simp [Conv.bytesToString]
      rfl
    | some ad =>
      obtain ⟨b, off, sp⟩ := ad
      obtain ⟨h1, h2, h3⟩ := hc
      simp only at h1; subst h1
      refine run_convert_bytes_back (P := P) w t d e ⟨b, off, none⟩ sc l ht he hd fun j hj => ?_
      rw [addr_add]
      have := h3 (j * Enc.sz UInt8) (.int .u8 (l[j].toNat : Int)) (encs_at (List.getElem?_eq_getElem hj) rfl)
      rwa [show j * Enc.sz UInt8 = j from Nat.mul_one j] at this
  simp only [execOp, ho, hF.eval hx, Sem.run_bind, e, Result.andThen_ok, Sem.run_pure]

theorem toList_mk (l : List UInt8) : (ByteArray.mk l.toArray).toList = l := by simp
theorem r_eqlStr {t yt : TypeId} {x y : Operand} {i j : List UInt8} (hF : Fr n F a dd) (ho : o.op = .binOp .eql t x y yt) (hx : ev F x = some (.string ⟨i.toArray⟩)) (hy : ev F y = some (.string ⟨j.toArray⟩)) :
    (execOp a.eval o).run P w = .ok (.value (.bool (decide (i = j)))) w := by
  rw [r_eqlS hF ho hx hy, toList_mk, toList_mk]
  by_cases h : i = j <;> simp [h]
theorem r_neqStr {t yt : TypeId} {x y : Operand} {i j : List UInt8} (hF : Fr n F a dd) (ho : o.op = .binOp .neq t x y yt) (hx : ev F x = some (.string ⟨i.toArray⟩)) (hy : ev F y = some (.string ⟨j.toArray⟩)) :
    (execOp a.eval o).run P w = .ok (.value (.bool (!decide (i = j)))) w := by
  rw [r_neqS hF ho hx hy, toList_mk, toList_mk]
  by_cases h : i = j <;> simp [h]

/-- Cells of an element of a row of ours are written. -/
theorem w_storeRow {X : Type} [Enc X] {t e lo i d sz off : Nat} {x y : Operand} {s : SV} {l : List X} {v : Value} {vs : List Value} {p q : X} (hsz : ∀ w, (sizeOf t).run P w = .ok sz w) (hown : Own lo w e s l) (hp : l[i]? = some p) (hF : Fr n F a dd) (ho : o.op = .store t x y)
    (hx : ev F x = some (.pointer (some ⟨s.blk, off, none⟩))) (hoff : off = s.off + (i * Enc.sz X + d)) (hy : ev F y = some v) (hv : v.cells = vs.toArray) (hl : vs.length = sz) (h1 : ∀ u ∈ vs, u.oneCell' = true) (hd : d + vs.length ≤ Enc.sz X) (hset : put (Enc.enc p) d vs = Enc.enc q)
    (next : ∀ w', Upd (rowL lo s e l) (rowL lo s e (l.set i q)) w w' → J undef w') : Yd P o a.eval w J := by
  have hi : i < l.length := (List.getElem?_eq_some_iff.1 hp).1
  rcases hown.2 with ⟨h2, h3⟩ | ⟨g, cap, cur, h2, h3, h4, h5, h6, h7, h8⟩
  · omega
  · have hs : s = ⟨some ⟨g, 0, none⟩, l.length, cap⟩ := by obtain ⟨a, b, c⟩ := s; cases h2; rfl
    have hb : s.blk = g := by rw [hs]; rfl
    have ho0 : s.off = 0 := by rw [hs]; rfl
    rw [hb, hoff, ho0, Nat.zero_add] at hx
    have hel : (encs l).length = l.length * Enc.sz X := encs_len l
    have hle : i * Enc.sz X + d + vs.length ≤ l.length * Enc.sz X := by
      have : (i + 1) * Enc.sz X ≤ l.length * Enc.sz X := Nat.mul_le_mul_right _ hi
      rw [Nat.add_mul, Nat.one_mul] at this; omega
    have hcap : l.length * Enc.sz X ≤ cap * Enc.sz X := Nat.mul_le_mul_right _ h5
    have hcur : cur = (cur.toList).toArray := by simp
    rw [hcur] at h4
    refine w_storen (cs := cur.toList) (cs' := put cur.toList (i * Enc.sz X + d) vs) hsz h4 hF ho hx hy hv hl h1 (by simp; omega) rfl fun w' hU => next w' ?_
    have e1 : cur.toList = encs l ++ cur.toList.drop (l.length * Enc.sz X) := by rw [← h8]; exact (List.take_append_drop _ _).symm
    have e2 : put cur.toList (i * Enc.sz X + d) vs = encs (l.set i q) ++ cur.toList.drop (l.length * Enc.sz X) := by
      rw [e1, put_in (n := vs.length) (s' := encs (l.set i q)) (by omega) rfl (encs_upd hp hd hset)]
      congr 1
      have e3 : ((encs l ++ cur.toList.drop (l.length * Enc.sz X)).drop (l.length * Enc.sz X)) = cur.toList.drop (l.length * Enc.sz X) := List.drop_left' hel
      exact e3.symm
    have hown' : Own lo w' e s (l.set i q) := by
      refine ⟨by rw [encs_len], .inr ⟨g, cap, (put cur.toList (i * Enc.sz X + d) vs).toArray, by rw [List.length_set]; exact h2, h3, hU.holds, by rw [List.length_set]; exact h5, h6, ?_, ?_⟩⟩
      · have : (put cur.toList (i * Enc.sz X + d) vs).length = cur.toList.length := by simp [put]; omega
        simp [this, h7]
      · simp only [e2]
        exact List.take_left' (by rw [encs_len])
    exact ⟨hU.io, hU.size, fun k hk hf => hU.block k hk fun e' => hf (by simp only [Res.fp] at e' ⊢; subst e'; rw [hs]; rfl), hown', fun k hk => .inl hk⟩
theorem w_storeRow1 {X : Type} [Enc X] {t e lo i d off : Nat} {x y : Operand} {s : SV} {l : List X} {v : Value} {p q : X} (hsz : ∀ w, (sizeOf t).run P w = .ok 1 w) (hown : Own lo w e s l) (hp : l[i]? = some p) (hF : Fr n F a dd) (ho : o.op = .store t x y)
    (hx : ev F x = some (.pointer (some ⟨s.blk, off, none⟩))) (hoff : off = s.off + (i * Enc.sz X + d)) (hy : ev F y = some v) (h1 : v.oneCell' = true) (hd : d < Enc.sz X) (hset : (Enc.enc p).set d v = Enc.enc q)
    (next : ∀ w', Upd (rowL lo s e l) (rowL lo s e (l.set i q)) w w' → J undef w') : Yd P o a.eval w J := by
  have hc : v.cells = #[v] := by cases v <;> first | rfl | cases h1
  refine w_storeRow (vs := [v]) (d := d) hsz hown hp hF ho hx hoff hy hc rfl (by simpa using h1) (by simp; omega) ?_ next
  rw [← hset, List.set_eq_take_append_cons_drop, if_pos (by rw [Enc.len]; exact hd)]
  simp [put]
end
end Go.Fw
