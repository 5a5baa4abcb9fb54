/- What each operation that acts leaves. No statement of the seat is proved here. -/
import Derived.Test.YtmgnkohlfbjjnaaGreatRFwDraw
import Derived.Great.BuildSlice
namespace Go.Fw
set_option linter.unusedVariables false
set_option linter.unusedSimpArgs false

/-- Nothing old has turned, and this is new. -/
structure Added (r : Res) (w w' : World) : Prop where
  keeps : Keeps [] w w'
  holds : r.holds w'
  fp : ∀ k, r.fp k → w.heap.size ≤ k

theorem MemL.plus {w w' : World} {L : List Res} {r : Res} (h : MemL w L) (k : Added r w w') : MemL w' (r :: L) := h.add k.keeps k.holds k.fp

/-- One resource has turned. -/
structure Upd (r r' : Res) (w w' : World) : Prop where
  io : Io w w'
  size : w.heap.size ≤ w'.heap.size
  block : ∀ k, k < w.heap.size → ¬ r.fp k → w'.heap[k]? = w.heap[k]?
  holds : r'.holds w'
  fp : ∀ k, r'.fp k → r.fp k ∨ w.heap.size ≤ k

theorem MemL.chg {w w' : World} {L : List Res} {r r' : Res} (h : MemL w L) (k : Upd r r' w w') {i : Nat} (hi : L[i]? = some r) : MemL w' (L.set i r') :=
  h.upd i hi k.io k.size k.block k.holds k.fp

theorem Keeps.alloc (w : World) (o : Obj) : Keeps [] w (w.alloc o) :=
  ⟨⟨rfl, rfl, rfl⟩, by simp, fun k hk _ => RowKit.Below.heap_alloc w o k hk⟩
theorem Added.alloc (w : World) (o : Obj) : Added (.obj w.heap.size o) w (w.alloc o) :=
  ⟨Keeps.alloc w o, heap_alloc_new w o, fun k hk => by simp only [Res.fp] at hk; omega⟩
theorem Added.called {w w' : World} (k : Keeps [] w w') : Added (.same w' w.heap.size []) w w' :=
  ⟨k, ⟨Nat.le_refl _, fun _ _ _ _ => rfl⟩, fun _ hj => hj.1⟩
theorem Keeps.drew {w : World} : Keeps [] w w.drew := ⟨⟨rfl, rfl, rfl⟩, Nat.le_refl _, fun _ _ _ => rfl⟩
theorem MemL.drew {w : World} {L : List Res} (h : MemL w L) : MemL w.drew L := h.keep Keeps.drew

theorem Upd.setRow {w : World} {b : Nat} {cs cs' : List Value} {T : TypeId} (hb : w.heap[b]? = some (.cells cs.toArray T (0, 0))) :
    Upd (pt b cs T) (pt b cs' T) w (w.setRow b cs'.toArray) :=
  ⟨⟨rfl, rfl, rfl⟩, by simp [World.setRow], fun k _ hf => setRow_other w b k _ hf, setRow_heap w b cs.toArray cs'.toArray T _ hb, fun _ hk => .inl hk⟩

/-- A piece of a list is put anew. -/
def put {α : Type} (l : List α) (off : Nat) (vs : List α) : List α := l.take off ++ vs ++ l.drop (off + vs.length)

section
variable {P : Program} {n : Nat} {F : List (Nat × Value)} {a : Act} {dd : List Deferred} {w : World} {o : Oper} {J : Value → World → Prop}

theorem w_alloc {e : TypeId} {z : Value} {zs : List Value} (hz : ∀ w, (zeroValue e).run P w = .ok z w) (hzs : z.cells = zs.toArray) (ho : o.op = .alloc e)
    (next : ∀ b w', w.heap.size = b → Added (pt b zs e) w w' → J (.pointer (some ⟨b, 0, none⟩)) w') : Yd P o a.eval w J := by
  have h := next w.heap.size (w.alloc (.cells zs.toArray e (0, 0))) rfl (Added.alloc w _)
  unfold Yd
  simp only [execOp, ho, Instr.alloc, newVar, newRow, Sem.run_bind, hz, Result.andThen_ok, run_newObj, Sem.run_pure, hzs]
  exact h

theorem w_box {e : TypeId} {x : Operand} {v : Value} {zs : List Value} (hF : Fr n F a dd) (hx : ev F x = some v) (hzs : v.cells = zs.toArray) (ho : o.op = .box e x)
    (next : ∀ b w', w.heap.size = b → Added (pt b zs e) w w' → J (.pointer (some ⟨b, 0, none⟩)) w') : Yd P o a.eval w J := by
  have h := next w.heap.size (w.alloc (.cells zs.toArray e (0, 0))) rfl (Added.alloc w _)
  unfold Yd
  simp only [execOp, ho, hF.eval hx, Instr.box, newVar, newRow, Sem.run_bind, Result.andThen_ok, run_newObj, Sem.run_pure, hzs]
  exact h

/-- Cells of a block of ours are written. -/
theorem w_storen {t T : TypeId} {x y : Operand} {b off sz : Nat} {v : Value} {vs cs cs' : List Value} (hs : ∀ w, (sizeOf t).run P w = .ok sz w) (hb : w.heap[b]? = some (.cells cs.toArray T (0, 0))) (hF : Fr n F a dd) (ho : o.op = .store t x y)
    (hx : ev F x = some (.pointer (some ⟨b, off, none⟩))) (hy : ev F y = some v) (hv : v.cells = vs.toArray) (hl : vs.length = sz) (h1 : ∀ u ∈ vs, u.oneCell' = true) (hle : off + vs.length ≤ cs.length) (hset : put cs off vs = cs')
    (next : ∀ w', Upd (pt b cs T) (pt b cs' T) w w' → J undef w') : Yd P o a.eval w J := by
  subst hset hl
  have h := next _ (Upd.setRow (cs' := put cs off vs) hb)
  have hst := run_storeCells_at P b off T vs 0 cs.toArray w hb (by simpa using hle) h1
  simp only [Nat.add_zero] at hst
  unfold Yd
  simp only [execOp, ho, hF.eval hx, hF.eval hy, Instr.storeAt, Instr.sureAddr, storeVar, Sem.run_bind, Sem.run_pure, Result.andThen_ok, hs, hv, List.size_toArray, ne_eq, not_true_eq_false, if_false, hst]
  simpa [put] using h

/-- One cell of a block of ours is written. -/
theorem w_store1 {t T : TypeId} {x y : Operand} {b off : Nat} {v : Value} {cs cs' : List Value} (hs : ∀ w, (sizeOf t).run P w = .ok 1 w) (hb : w.heap[b]? = some (.cells cs.toArray T (0, 0))) (hF : Fr n F a dd) (ho : o.op = .store t x y)
    (hx : ev F x = some (.pointer (some ⟨b, off, none⟩))) (hy : ev F y = some v) (h1 : v.oneCell' = true) (hlt : off < cs.length) (hset : cs.set off v = cs')
    (next : ∀ w', Upd (pt b cs T) (pt b cs' T) w w' → J undef w') : Yd P o a.eval w J := by
  have hc : v.cells = #[v] := by cases v <;> first | rfl | cases h1
  refine w_storen hs hb hF ho hx hy (vs := [v]) hc rfl (by simpa using h1) (by simp; omega) ?_ next
  rw [← hset, List.set_eq_take_append_cons_drop, if_pos hlt]
  simp [put]

theorem w_buildSlice {t e sz len : Nat} {parts : List (Nat × Operand)} {vps : List (Nat × Value)} {cs : List Value} {ie : TypeInfo} {z : Value} (hu : P.underlying t = some (.slice e)) (hie : P.info? e = some ie) (hz : ie.zero = some z) (hs : ie.size = sz)
    (hF : Fr n F a dd) (ho : o.op = .buildSlice t len parts.toArray) (hp : evps F parts = some vps) (hsm : Nat.ble (len * sz) 16777216 = true) (hpos : Nat.beq (len * sz) 0 = false)
    (hfill : Instr.fill (fun i => some (i * sz, sz)) ((Array.range (len * sz)).map (z.cells[· % z.cells.size]!)) vps = some cs.toArray)
    (next : ∀ b w', w.heap.size = b → Added (pt b cs e) w w' → J (.slice (some ⟨b, 0, none⟩) len len) w') : Yd P o a.eval w J := by
  subst hs
  have h := next w.heap.size (w.alloc (.cells cs.toArray e (0, 0))) rfl (Added.alloc w _)
  have hsm' : ¬ len * ie.size > 2 ^ 24 := by have := Nat.le_of_ble_eq_true hsm; omega
  have hpos' : ¬ len * ie.size = 0 := fun e => by rw [e] at hpos; cases hpos
  have hps : (parts.toArray.map fun (i, x) => (i, a.eval x)).toList = vps := by
    simp only [List.map_toArray]
    exact hF.evalps hp
  have hr := run_buildSlice (P := P) w t e len (parts.toArray.map fun (i, x) => (i, a.eval x)) cs.toArray ie z hu hie hz hsm' hpos' (by rw [hps]; exact hfill)
  unfold Yd
  simp only [execOp, ho, Sem.run_bind, hr, Result.andThen_ok, Sem.run_pure]
  exact h

theorem w_call {f : FuncId} {xs : List Operand} {ts : Array TypeId} {vs : List Value} {R : Value → World → Prop} (hcall : ∀ args w, (callFunc f args).run P w = .ok (.enter f args) w) (hF : Fr n F a dd)
    (ho : o.op = .call { callee := .value (.func f), args := xs.toArray, argTypes := ts }) (hx : evs F xs = some vs) (hc : Calls P f vs.toArray w (Ret R)) (next : ∀ v w', R v w' → J v w') : Yd P o a.eval w J := by
  unfold Yd
  simp only [execOp, ho, resolve, Act.eval, Deferred.ofValue, invoke, Sem.run_bind, Sem.run_pure, Result.andThen_ok, List.map_toArray, hF.evals hx, Array.empty_append, Array.append_empty, hcall]
  exact Calls.mono hc fun e w' he => by cases e <;> first | exact next _ _ he | exact he

/-- A function value is called. -/
theorem w_callF {f : FuncId} {x : Operand} {xs : List Operand} {ts : Array TypeId} {fs cs vs : List Value} {R : Value → World → Prop} (hcall : ∀ args w, (callFunc f args).run P w = .ok (.enter f args) w) (hF : Fr n F a dd)
    (ho : o.op = .call { callee := .value x, args := xs.toArray, argTypes := ts }) (hf : ev F x = some (.func (.func f) fs.toArray cs.toArray)) (hx : evs F xs = some vs) (hc : Calls P f (fs ++ vs ++ cs).toArray w (Ret R)) (next : ∀ v w', R v w' → J v w') : Yd P o a.eval w J := by
  unfold Yd
  simp only [execOp, ho, resolve, hF.eval hf, Deferred.ofValue, invoke, Sem.run_bind, Sem.run_pure, Result.andThen_ok, List.map_toArray, hF.evals hx, List.append_toArray, hcall]
  exact Calls.mono hc fun e w' he => by cases e <;> first | exact next _ _ he | exact he
end

/-! ### Lists of things in memory -/

class Enc (X : Type) where
  enc : X → List Value
  sz : Nat
  len : ∀ x, (enc x).length = sz
  one : ∀ x, ∀ u ∈ enc x, u.oneCell' = true
  pos : 0 < sz

def encs {X : Type} [Enc X] (l : List X) : List Value := l.flatMap Enc.enc

theorem encs_nil {X : Type} [Enc X] : encs ([] : List X) = [] := rfl
theorem encs_cons {X : Type} [Enc X] (x : X) (l : List X) : encs (x :: l) = Enc.enc x ++ encs l := by simp [encs]
theorem encs_append {X : Type} [Enc X] (l m : List X) : encs (l ++ m) = encs l ++ encs m := by simp [encs]
theorem encs_one {X : Type} [Enc X] (x : X) : encs [x] = Enc.enc x := by simp [encs]
theorem encs_len {X : Type} [Enc X] (l : List X) : (encs l).length = l.length * Enc.sz X := by
  induction l with
  | nil => simp [encs]
  | cons x l ih => rw [encs_cons, List.length_append, Enc.len, ih, List.length_cons, Nat.add_mul]; omega
theorem encs_ones {X : Type} [Enc X] (l : List X) : ∀ u ∈ encs l, u.oneCell' = true := by
  intro u hu
  simp only [encs, List.mem_flatMap] at hu
  obtain ⟨x, _, hx⟩ := hu
  exact Enc.one x u hx
theorem encs_get {X : Type} [Enc X] (l : List X) (i : Nat) (x : X) (h : l[i]? = some x) : cut (encs l) (i * Enc.sz X) (Enc.sz X) = Enc.enc x := by
  induction l generalizing i with
  | nil => simp at h
  | cons y l ih =>
    rw [encs_cons]
    cases i with
    | zero =>
      simp at h; subst h
      simp only [cut, Nat.zero_mul, List.drop_zero]
      rw [List.take_append_of_le_length (by rw [Enc.len]; exact Nat.le_refl _), List.take_of_length_le (by rw [Enc.len]; exact Nat.le_refl _)]
    | succ i =>
      simp at h
      have := ih i h
      simp only [cut] at this ⊢
      rw [show (i + 1) * Enc.sz X = (Enc.enc y).length + i * Enc.sz X by rw [Enc.len, Nat.add_mul]; omega, List.drop_length_add_append]
      exact this

/-- The slice reads as this list; its block is none below lo. -/
structure SliceOf {X : Type} [Enc X] (lo : Nat) (w : World) (s : SV) (l : List X) : Prop where
  len : s.len = l.length
  room : s.len ≤ s.cap
  cells : match s.a with
    | none => l = [] ∧ s.cap = 0
    | some ad => ad.spot = none ∧ lo ≤ ad.block ∧ Cells w ad.block ad.off (encs l)

theorem SliceOf.nil {X : Type} [Enc X] (lo : Nat) (w : World) : SliceOf lo w SV.nil ([] : List X) := ⟨rfl, Nat.le_refl _, rfl, rfl⟩

theorem SliceOf.mono {X : Type} [Enc X] {lo lo' : Nat} {w : World} {s : SV} {l : List X} (h : SliceOf lo w s l) (hl : lo' ≤ lo) : SliceOf lo' w s l := by
  refine ⟨h.len, h.room, ?_⟩
  have := h.cells
  split at this
  · rename_i e; simpa [e] using this
  · rename_i ad e; obtain ⟨h1, h2, h3⟩ := this; exact ⟨h1, by omega, h3⟩

/-- It still reads so. -/
theorem SliceOf.now {X : Type} [Enc X] {lo lo' : Nat} {S : List Nat} {w1 w : World} {s : SV} {l : List X} (h : SliceOf lo w1 s l) (hs : Same lo' S w1 w) (hlo : lo' ≤ lo) (hS : ∀ b ∈ S, b < lo) : SliceOf lo w s l := by
  refine ⟨h.len, h.room, ?_⟩
  have := h.cells
  split at this
  · rename_i e; simpa [e] using this
  · rename_i ad e
    obtain ⟨h1, h2, h3⟩ := this
    exact ⟨h1, h2, hs.cells h3 (by omega) fun hm => by have := hS _ hm; omega⟩
theorem SliceOf.keep {X : Type} [Enc X] {lo : Nat} {w w' : World} {s : SV} {l : List X} (h : SliceOf lo w s l) (k : Keeps [] w w') : SliceOf lo w' s l :=
  h.now (lo' := 0) (S := []) ⟨k.size, fun j _ hj _ => k.block j hj (by simp)⟩ (Nat.zero_le _) (by simp)

/-- An element's cells. -/
theorem SliceOf.elem {X : Type} [Enc X] {lo : Nat} {w : World} {b off len cap i : Nat} {l : List X} {x : X} (h : SliceOf lo w ⟨some ⟨b, off, none⟩, len, cap⟩ l) (hx : l[i]? = some x) : Cells w b (off + i * Enc.sz X) (Enc.enc x) := by
  obtain ⟨_, _, hc⟩ := h.cells
  intro j v hv
  rw [← encs_get l i x hx] at hv
  obtain ⟨_, h2⟩ := cut_get _ _ _ _ _ hv
  have := hc _ _ h2
  rwa [← Nat.add_assoc] at this

def SV.blk (s : SV) : Nat := match s.a with | some ad => ad.block | none => 0
def SV.off (s : SV) : Nat := match s.a with | some ad => ad.off | none => 0

theorem SliceOf.elemS {X : Type} [Enc X] {lo i : Nat} {w : World} {s : SV} {l : List X} {x : X} (h : SliceOf lo w s l) (hx : l[i]? = some x) : Cells w s.blk (s.off + i * Enc.sz X) (Enc.enc x) := by
  have hc := h.cells
  unfold SV.blk SV.off
  split at hc
  · rename_i e
    rw [hc.1] at hx; simp at hx
  · rename_i ad e
    obtain ⟨_, _, hc⟩ := hc
    simp only [e]
    intro j v hv
    rw [← encs_get l i x hx] at hv
    obtain ⟨_, h2⟩ := cut_get _ _ _ _ _ hv
    have := hc _ _ h2
    rwa [← Nat.add_assoc] at this

theorem SliceOf.blk_ge {X : Type} [Enc X] {lo i : Nat} {w : World} {s : SV} {l : List X} {x : X} (h : SliceOf lo w s l) (hx : l[i]? = some x) : lo ≤ s.blk := by
  have hc := h.cells
  unfold SV.blk
  split at hc
  · rw [hc.1] at hx; simp at hx
  · rename_i ad e
    simp only [e]; exact hc.2.1

theorem SliceOf.addrS {X : Type} [Enc X] {lo i : Nat} {w : World} {s : SV} {l : List X} (h : SliceOf lo w s l) (hi : i < l.length) : s.v = .slice (some ⟨s.blk, s.off, none⟩) l.length s.cap := by
  have hc := h.cells
  have hl := h.len
  obtain ⟨sa, sl, sc⟩ := s
  cases sa with
  | none => have := hc.1; subst this; simp at hi
  | some ad =>
    obtain ⟨b, off, sp⟩ := ad
    have : sp = none := hc.1
    subst this
    simp only at hl
    subst hl
    rfl

theorem Cells.get {w : World} {b off : Nat} {vs : List Value} (h : Cells w b off vs) (j : Nat) {v : Value} (hv : vs[j]? = some v) : w.cell? ⟨b, off + j, none⟩ = some v := h j v hv
theorem Cells.sub {w : World} {b off : Nat} {vs us : List Value} (h : Cells w b off vs) (o n : Nat) (hv : cut vs o n = us) : Cells w b (off + o) us := by
  intro j v hj
  subst hv
  have := h _ _ (cut_get _ _ _ _ _ hj).2
  rwa [← Nat.add_assoc] at this

/-- A slice with an element has an address. -/
theorem SliceOf.addr {X : Type} [Enc X] {lo : Nat} {w : World} {s : SV} {l : List X} (h : SliceOf lo w s l) (hl : l ≠ []) : ∃ b off, s = ⟨some ⟨b, off, none⟩, l.length, s.cap⟩ := by
  have hc := h.cells
  have hlen := h.len
  obtain ⟨sa, sl, sc⟩ := s
  cases sa with
  | none => exact absurd hc.1 hl
  | some ad =>
    obtain ⟨b, off, sp⟩ := ad
    have : sp = none := hc.1
    subst this
    simp only at hlen
    subst hlen
    exact ⟨b, off, rfl⟩

section
variable {P : Program} {n : Nat} {F : List (Nat × Value)} {a : Act} {dd : List Deferred} {w : World} {o : Oper} {J : Value → World → Prop}

/-- Where what was appended lies: where it lay, or in a new block. -/
theorem append_block {t ty e lo bytes sz : Nat} {v v' : Value} {w' : World} {xs news : List Value} {m k c : Nat} {ad : Addr} {i : TypeInfo} {z : Value} (ht : P.underlying t = some (.slice e)) (hi : P.info? e = some i) (hz : i.zero = some z)
    (hsize : i.size = sz) (hby : i.bytes = bytes) (hown : w.ownsRow lo e sz v m xs) (hl : news.length = k * sz) (hnews : ∀ j u, news[j]? = some u → w.cell? (ad.add j) = some u) (h1 : ∀ u ∈ news, u.oneCell' = true)
    (h63 : m + k ≤ maxLen) (hbytes : (m + k) * bytes ≤ 140737488355328) (hr : (Builtin.append_ #[t, t] ty #[v, .slice (some ad) k c]).run P w = .ok v' w') :
    ∀ j, v'.ownBlock = some j → v.ownBlock = some j ∨ w.heap.size ≤ j := by
  subst hsize hby
  have hm : (m + k : Nat) ≤ 9223372036854775807 := by simp only [maxLen] at h63; omega
  rcases hown.2 with ⟨rfl, rfl⟩ | ⟨g, cap, cur, rfl, _, hg, _, _, hcs, _⟩
  · by_cases hk : k = 0
    · subst hk
      have hn : news = [] := List.eq_nil_of_length_eq_zero (by simpa using hl)
      subst hn
      have e0 : (Builtin.append_ #[t, t] ty #[.slice none 0 0, .slice (some ad) 0 c]).run P w = .ok (.slice none 0 0) w := by
        simp [Builtin.append_, run_underlying ht, sizeOf, typeInfo, hi, Builtin.lenOf, Builtin.firstCells, loadCells, loadCellsFrom]
      rw [e0] at hr
      cases hr
      intro j hj; cases hj
    · rw [run_append_nil (P := P) w t ty e i z ht hi hz ad k c news hl hnews (by omega) (by omega) (by simp only [Nat.zero_add] at hbytes; omega)] at hr
      cases hr
      intro j hj
      simp [Value.ownBlock] at hj
      exact .inr (by omega)
  · by_cases hroom : m + k ≤ cap
    · have hfit : m * i.size + news.length ≤ cur.size := by rw [hl, hcs, ← Nat.add_mul]; exact Nat.mul_le_mul_right _ hroom
      rw [run_append_room (P := P) w t ty e i ht hi g m cap cur hg ad k c news hl hnews h1 hroom hfit] at hr
      cases hr
      exact fun j hj => .inl hj
    · rw [run_append_grow (P := P) w t ty e i z ht hi hz ⟨g, 0, none⟩ m cap xs hown.1 (hown.cells (g := g) rfl) ad k c news hl hnews (by omega) (by omega) (growslice_fits (by omega) hbytes)] at hr
      cases hr
      intro j hj
      simp [Value.ownBlock] at hj
      exact .inr (by omega)

/-- The length of a slice that reads as a list. -/
theorem r_lenL {X : Type} [Enc X] {t e lo : TypeId} {x : Operand} {s : SV} {l : List X} {w1 : World} (hs : SliceOf lo w1 s l) (ht : P.underlying t = some (.slice e)) (hF : Fr n F a dd) (ho : o.op = .call { callee := .builtin .len, args := #[x], argTypes := #[t] }) (hx : ev F x = some s.v) :
    (execOp a.eval o).run P w = .ok (.value (.int .i64 (l.length : Nat))) w := by rw [r_len ht hF ho hx, hs.len]

/-- The address of an element. -/
theorem r_indexS {X : Type} [Enc X] {t e lo sz i : Nat} {x y : Operand} {k : IntKind} {s : SV} {l : List X} {w1 : World} {ti : TypeInfo} (hs : SliceOf lo w1 s l) (ht : P.underlying t = some (.slice e)) (hi : P.info? e = some ti) (hsz : ti.size = sz)
    (hF : Fr n F a dd) (ho : o.op = .indexAddr t x y) (hx : ev F x = some s.v) (hy : ev F y = some (.int k (i : Nat))) (h : i < l.length) :
    (execOp a.eval o).run P w = .ok (.value (.pointer (some ⟨s.blk, s.off + i * sz, none⟩))) w := by
  rw [hs.addrS h] at hx
  have := r_indexAddr (P := P) (w := w) ht hi hsz hF ho hx hy ⟨by omega, by omega⟩
  simpa using this
theorem r_indexZ {X : Type} [Enc X] {t e lo sz : Nat} {x y : Operand} {k : IntKind} {i : Int} {s : SV} {l : List X} {w1 : World} {ti : TypeInfo} (hs : SliceOf lo w1 s l) (ht : P.underlying t = some (.slice e)) (hi : P.info? e = some ti) (hsz : ti.size = sz)
    (hF : Fr n F a dd) (ho : o.op = .indexAddr t x y) (hx : ev F x = some s.v) (hy : ev F y = some (.int k i)) (h : 0 ≤ i ∧ i < (l.length : Int)) :
    (execOp a.eval o).run P w = .ok (.value (.pointer (some ⟨s.blk, s.off + i.toNat * sz, none⟩))) w := by
  rw [hs.addrS (i := i.toNat) (by omega)] at hx
  exact r_indexAddr (P := P) (w := w) ht hi hsz hF ho hx hy h

/-- What is appended is read off a slice; onto a slice of ours. -/
theorem w_append {X : Type} [Enc X] {x y : Operand} {t e lo lo' bytes : Nat} {s sx : SV} {xs : List Value} {l : List X} {m : Nat} {i : TypeInfo} {z : Value} (ht : P.underlying t = some (.slice e)) (hi : P.info? e = some i) (hz : i.zero = some z)
    (hsize : i.size = Enc.sz X) (hby : i.bytes = bytes) (hzs : z.cells.size = Enc.sz X)
    (hF : Fr n F a dd) (ho : o.op = .call { callee := .builtin .append, args := #[x, y], argTypes := #[t, t] }) (hx : ev F x = some s.v) (hy : ev F y = some sx.v)
    (hown : w.ownsRow lo e (Enc.sz X) s.v m xs) (hsx : SliceOf lo' w sx l) (h63 : m + l.length ≤ maxLen) (hbytes : (m + l.length) * bytes ≤ 140737488355328) (hlo : lo ≤ w.heap.size)
    (next : ∀ (s' : SV) w', Upd (.row lo s.v e (Enc.sz X) m xs) (.row lo s'.v e (Enc.sz X) (m + l.length) (xs ++ encs l)) w w' → s'.len = m + l.length → J s'.v w') : Yd P o a.eval w J := by
  have fin : ∀ v' w', (Builtin.append_ #[t, t] o.type #[s.v, sx.v]).run P w = .ok v' w' → w'.ownsRow lo e (Enc.sz X) v' (m + l.length) (xs ++ encs l) → w.grownBy w' s.v.ownBlock →
      (∀ j, v'.ownBlock = some j → s.v.ownBlock = some j ∨ w.heap.size ≤ j) → Yd P o a.eval w J := by
    intro v' w' hr h2 h3 h4
    have hv : ∃ s' : SV, v' = s'.v ∧ s'.len = m + l.length := by
      rcases h2.2 with ⟨rfl, h0⟩ | ⟨g, cap, cur, rfl, _⟩
      · exact ⟨SV.nil, rfl, h0.symm⟩
      · exact ⟨⟨some ⟨g, 0, none⟩, _, cap⟩, rfl, rfl⟩
    obtain ⟨s', rfl, hl'⟩ := hv
    have h := next s' w' ⟨⟨h3.os, h3.tape, h3.output⟩, h3.size, fun k hk hf => h3.block k hk fun e' => hf (by simpa [Res.fp] using e'.symm), h2, h4⟩ hl'
    unfold Yd
    simp only [execOp, ho, resolve, invoke, builtin, Sem.run_bind, Sem.run_pure, Result.andThen_ok, List.map_toArray, List.map_cons, List.map_nil, hF.eval hx, hF.eval hy, hr]
    exact h
  have hc := hsx.cells
  have hln := hsx.len
  obtain ⟨sa, sl, sc⟩ := sx
  cases sa with
  | some ad =>
    obtain ⟨h1, h2, h3⟩ := hc
    obtain ⟨b, off, sp⟩ := ad
    simp only at h1 h2 h3 hln
    subst h1 hln
    have hcell : ∀ j u, (encs l)[j]? = some u → w.cell? ((⟨b, off, none⟩ : Addr).add j) = some u := fun j u hu => by rw [addr_add]; exact h3 j u hu
    obtain ⟨v', w', hr, h4, h5, _⟩ := run_append_own (P := P) w lo t o.type e i z (Enc.sz X) bytes ht hi hz hsize hby hzs (Enc.pos) s.v m xs hown ⟨b, off, none⟩ l.length sc (encs l) (encs_len l) hcell (encs_ones l) h63 hbytes hlo
    exact fin v' w' hr h4 h5 (append_block ht hi hz hsize hby hown (encs_len l) hcell (encs_ones l) h63 hbytes hr)
  | none =>
    obtain ⟨h1, h2⟩ := hc
    simp only at h1 h2 hln
    subst h1 h2
    simp only [List.length_nil] at hln
    subst hln
    refine fin s.v w ?_ (by simpa [encs_nil] using hown) ⟨rfl, rfl, rfl, Nat.le_refl _, fun _ _ _ => rfl⟩ fun j hj => .inl hj
    have hcap : s.len ≤ s.cap := by
      rcases hown.2 with ⟨h, _⟩ | ⟨g, cap, cur, h, _, _, h', _⟩
      · obtain ⟨sa, sl, sc⟩ := s; cases h; exact Nat.le_refl _
      · obtain ⟨sa, sl, sc⟩ := s; cases h; exact h'
    obtain ⟨sa, sl, sc⟩ := s
    have hcap' : sl ≤ sc := hcap
    cases sa <;> simp [Builtin.append_, run_underlying ht, sizeOf, typeInfo, hi, Builtin.lenOf, Builtin.firstCells, storeCells, hcap']
end
end Go.Fw
