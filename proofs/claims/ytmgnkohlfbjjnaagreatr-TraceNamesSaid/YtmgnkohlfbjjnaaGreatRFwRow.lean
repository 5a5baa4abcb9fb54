/- Slices of the call's own. No statement of the seat is proved here. -/
import Derived.Test.YtmgnkohlfbjjnaaGreatRFwTop
namespace Go.Fw
set_option linter.unusedVariables false
set_option linter.unusedSimpArgs false

/-- A slice of ours that reads as this list, with whatever room. -/
abbrev rowL {X : Type} [Enc X] (lo : Nat) (s : SV) (e : TypeId) (l : List X) : Res := .row lo s.v e (Enc.sz X) l.length (encs l)
/-- So is it in this world. -/
abbrev Own {X : Type} [Enc X] (lo : Nat) (w : World) (e : TypeId) (s : SV) (l : List X) : Prop := w.ownsRow lo e (Enc.sz X) s.v l.length (encs l)

theorem Own.nil {X : Type} [Enc X] (lo : Nat) (w : World) (e : TypeId) : Own lo w e SV.nil ([] : List X) := World.ownsRow_nil w lo e (Enc.sz X)

theorem Own.len {X : Type} [Enc X] {lo e : Nat} {w : World} {s : SV} {l : List X} (h : Own lo w e s l) : s.len = l.length := by
  rcases h.2 with ⟨h1, h2⟩ | ⟨g, cap, cur, h1, _⟩
  · obtain ⟨a, b, c⟩ := s; cases h1; exact h2.symm
  · obtain ⟨a, b, c⟩ := s; cases h1; rfl

theorem Own.slice {X : Type} [Enc X] {lo e : Nat} {w : World} {s : SV} {l : List X} (h : Own lo w e s l) : SliceOf lo w s l := by
  refine ⟨h.len, ?_, ?_⟩
  · rcases h.2 with ⟨h1, h2⟩ | ⟨g, cap, cur, h1, h3, h4, h5, h6, h7, h8⟩
    · obtain ⟨a, b, c⟩ := s; cases h1; exact Nat.le_refl _
    · obtain ⟨a, b, c⟩ := s; cases h1; exact h5
  rcases h.2 with ⟨h1, h2⟩ | ⟨g, cap, cur, h1, h3, h4, h5, h6, h7, h8⟩
  · obtain ⟨a, b, c⟩ := s; cases h1
    exact ⟨List.eq_nil_of_length_eq_zero h2, rfl⟩
  · obtain ⟨a, b, c⟩ := s; cases h1
    refine ⟨rfl, h3, fun j v hv => ?_⟩
    rw [← h8, List.getElem?_take] at hv
    split at hv
    · simp only [Nat.zero_add, World.cell?, h4]
      simpa using hv
    · cases hv

theorem Own.now {X : Type} [Enc X] {lo lo' e : Nat} {S : List Nat} {w1 w : World} {s : SV} {l : List X} (h : Own lo w1 e s l) (hs : Same lo' S w1 w) (hlo : lo' ≤ lo) (hS : ∀ b ∈ S, b < lo) : Own lo w e s l := by
  refine ⟨h.1, ?_⟩
  rcases h.2 with h1 | ⟨g, cap, cur, h1, h3, h4, r⟩
  · exact .inl h1
  · refine .inr ⟨g, cap, cur, h1, h3, ?_, r⟩
    rw [hs.block g (by omega) (Array.getElem?_eq_some_iff.1 h4).1 (fun hm => by have := hS g hm; omega)]
    exact h4
theorem Own.keep {X : Type} [Enc X] {lo e : Nat} {w w' : World} {s : SV} {l : List X} (h : Own lo w e s l) (k : Keeps [] w w') : Own lo w' e s l :=
  h.now (lo' := 0) (S := []) ⟨k.size, fun j _ hj _ => k.block j hj (by simp)⟩ (Nat.zero_le _) (by simp)
theorem Own.mono {X : Type} [Enc X] {lo lo' e : Nat} {w : World} {s : SV} {l : List X} (h : Own lo w e s l) (hl : lo' ≤ lo) : Own lo' w e s l := by
  refine ⟨h.1, ?_⟩
  rcases h.2 with h1 | ⟨g, cap, cur, h1, h3, r⟩
  · exact .inl h1
  · exact .inr ⟨g, cap, cur, h1, by omega, r⟩

section
variable {w w' : World} {L : List Res}
theorem MemL.rowNil (h : MemL w L) {X : Type} [Enc X] (lo e : Nat) : MemL w (rowL lo SV.nil e ([] : List X) :: L) :=
  h.add (Keeps.refl w) (Own.nil lo w e) fun j hj => by simp [Res.fp, Value.ownBlock] at hj
theorem MemL.rowNew (h : MemL w L) {X : Type} [Enc X] {lo e : Nat} {s : SV} {l : List X} (k : Keeps [] w w') (ho : Own lo w' e s l) (hlo : w.heap.size ≤ lo) : MemL w' (rowL lo s e l :: L) :=
  h.add k ho fun j hj => Nat.le_trans hlo (World.ownsRow.lt ho j hj).1
theorem MemL.own (h : MemL w L) {X : Type} [Enc X] {i lo e : Nat} {s : SV} {l : List X} (hi : L[i]? = some (rowL lo s e l)) : Own lo w e s l := h.row hi
theorem MemL.rowS (h : MemL w L) {X : Type} [Enc X] {i lo e : Nat} {s : SV} {l : List X} (hi : L[i]? = some (rowL lo s e l)) : SliceOf lo w s l := Own.slice (h.own hi)
/-- A block of ours, read as a slice. -/
theorem MemL.ptS (h : MemL w L) {X : Type} [Enc X] {i b e n c : Nat} {l : List X} {cs : List Value} (hi : L[i]? = some (pt b cs e)) (hc : cs = encs l) (hn : n = l.length) (hcap : n ≤ c) : SliceOf b w ⟨some ⟨b, 0, none⟩, n, c⟩ l := by
  subst hc hn
  exact ⟨rfl, hcap, rfl, Nat.le_refl _, fun j v hv => cell_pt (h.obj hi) (by rw [Nat.zero_add]; exact hv)⟩
end

section
variable {P : Program} {n : Nat} {F : List (Nat × Value)} {a : Act} {dd : List Deferred} {w : World} {o : Oper} {J : Value → World → Prop}
theorem w_appendL {X : Type} [Enc X] {x y : Operand} {t e lo lo' bytes : Nat} {s sx : SV} {xs l : List X} {i : TypeInfo} {z : Value} (ht : P.underlying t = some (.slice e)) (hi : P.info? e = some i) (hz : i.zero = some z)
    (hsize : i.size = Enc.sz X) (hby : i.bytes = bytes) (hzs : z.cells.size = Enc.sz X)
    (hF : Fr n F a dd) (ho : o.op = .call { callee := .builtin .append, args := #[x, y], argTypes := #[t, t] }) (hx : ev F x = some s.v) (hy : ev F y = some sx.v)
    (hown : Own lo w e s xs) (hsx : SliceOf lo' w sx l) (hb : (xs.length + l.length) * bytes ≤ 140737488355328 ∧ xs.length + l.length ≤ 4611686018427387904) (hlo : lo ≤ w.heap.size)
    (next : ∀ (s' : SV) w', Upd (rowL lo s e xs) (rowL lo s' e (xs ++ l)) w w' → s'.len = (xs ++ l).length → J s'.v w') : Yd P o a.eval w J := by
  refine w_append ht hi hz hsize hby hzs hF ho hx hy hown hsx (by simp only [maxLen]; omega) hb.1 hlo fun s' w' hU hl => next s' w' ?_ (by rw [hl, List.length_append])
  rw [← List.length_append, ← encs_append] at hU
  exact hU

/-- A slice literal of one element. -/
theorem w_slice1 {X : Type} [Enc X] {t e : Nat} {x : Operand} {y : X} {v : Value} {ie : TypeInfo} {z : Value} (hu : P.underlying t = some (.slice e)) (hie : P.info? e = some ie) (hz : ie.zero = some z) (hs : ie.size = Enc.sz X) (hzs : z.cells.size = Enc.sz X)
    (hsm : Nat.ble (1 * Enc.sz X) 16777216 = true) (hF : Fr n F a dd) (ho : o.op = .buildSlice t 1 #[(0, x)]) (hx : ev F x = some v) (hv : v.cells = (Enc.enc y).toArray)
    (next : ∀ b w', w.heap.size = b → Added (pt b (encs [y]) e) w w' → J (SV.v ⟨some ⟨b, 0, none⟩, 1, 1⟩) w') : Yd P o a.eval w J := by
  have hpos := Enc.pos (X := X)
  refine w_buildSlice (parts := [(0, x)]) (vps := [(0, v)]) (cs := encs [y]) hu hie hz hs hF ho (by simp [evps, hx]) hsm (by cases h : Enc.sz X with | zero => omega | succ k => rw [Nat.one_mul]; rfl) ?_ next
  have hlen : (Enc.enc y).length = Enc.sz X := Enc.len y
  have hz0 : ((Array.range (1 * Enc.sz X)).map (z.cells[· % z.cells.size]!)) = (((Array.range (1 * Enc.sz X)).map (z.cells[· % z.cells.size]!)).toList).toArray := (Array.toArray_toList).symm
  rw [hz0]
  generalize hL : ((Array.range (1 * Enc.sz X)).map (z.cells[· % z.cells.size]!)).toList = zl
  have hzl : zl.length = Enc.sz X := by rw [← hL]; simp
  have hfill : Instr.fill (fun i => some (i * Enc.sz X, Enc.sz X)) zl.toArray ((0, v) :: []) = some ((Enc.enc y)).toArray := by
    have hf := foldl_set (Enc.enc y) 0 0 zl (by omega)
    simp only [Nat.add_zero] at hf
    simp only [Instr.fill, hv, List.size_toArray, hlen, ne_eq, not_true_eq_false, decide_false, Bool.false_or, Nat.zero_mul, Nat.zero_add, hzl, Nat.lt_irrefl, gt_iff_lt, Bool.false_eq_true, if_false]
    rw [← Array.foldl_toList, Array.toList_zipIdx]
    simp only [Nat.zero_add] at hf
    simp only [hf, put_all (hzl.trans hlen.symm)]
  rw [hfill, encs_one]
end
end Go.Fw
