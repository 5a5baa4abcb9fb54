/- A run of closed code, reckoned over plain data: what only looks is reckoned rightly. No statement of the seat is proved here. -/
import Derived.Test.YtmgnkohlfbjjnaaGreatREvS1
namespace Go.Ev
open Go.Fw
set_option linter.unusedSimpArgs false
set_option linter.unusedVariables false

/-- Where the named blocks lie. -/
structure Ip where
  sv : Nat → SV
  arr : Nat → Array Value
  fn : Nat → Nat
abbrev Ip.g (I : Ip) : AV → Value := gam I.sv

def pdCode : Option (Option Nat) → Option Code
  | none => none
  | some none => some .ret
  | some (some id) => some (.exit id)

def loopOf (I : Ip) (n : Nat) (L : LInfo) (st : LoopState) (pd : Option (Option Nat)) : Obj :=
  .loop { state := st, pending := pdCode pd, fn := I.fn n, tmps := I.arr n, params := L.ps.toArray, assign := L.asg, body := L.body, defers := (I.sv L.d).blk }
def voidR : Res := .gen (fun _ => False) (fun _ => True)
/-- What a named block is. -/
def res (I : Ip) (env : Env) (lo n : Nat) : AObj → Res
  | .pt _ l T => .obj (I.sv n).blk (.cells (l.map I.g).toArray T (0, 0))
  | .fz N l T => .obj (I.sv n).blk (.cells (l.map I.g).toArray T (N, N + 1))
  | .row e z m l => .row lo (I.sv n).v e z m (l.map I.g)
  | .map es c => .obj (I.sv n).blk (.map (es.map fun e => (⟨I.g e.1, I.g e.2.1, e.2.2⟩ : MapEntry)).toArray c)
  | .loop st pd => match envGet env n with
    | some L => .obj (I.sv n).blk (loopOf I n L st pd)
    | none => voidR
  | .defd t => .obj (I.sv n).blk (.deferred (if t then none else some []))
  | .dead => voidR
def okO (k : Nat) : AObj → Prop
  | .pt n l _ => l.length = n ∧ (∀ v ∈ l, oneA v = true) ∧ ∀ v ∈ l, okV k v
  | .fz n l _ => l.length = n ∧ (∀ v ∈ l, oneA v = true) ∧ ∀ v ∈ l, okV k v
  | .row _ z m l => l.length = m * z ∧ 0 < z ∧ (∀ v ∈ l, oneA v = true) ∧ ∀ v ∈ l, okV k v
  | .map es _ => ∀ e ∈ es, okV k e.1 ∧ okV k e.2.1
  | _ => True

/-- What may be looked at is there. -/
structure GK (I : Ip) (env : Env) (lo k : Nat) (w : World) (g : Look) : Prop where
  holds : ∀ n o, g n = some o → (res I env lo n o).holds w
  ok : ∀ n o, g n = some o → okO k o ∧ n < k

/-- The frame. -/
structure FR (I : Ip) (k n : Nat) (F : Fm) (a : Act) (dd : List Deferred) : Prop where
  defers : a.defers = dd
  size : a.tmps.size = n
  get : ∀ t v, F.get t = some v → t < n ∧ okV k v ∧ a.tmps[t]? = some (I.g v)

section
variable {I : Ip} {env : Env} {lo k n : Nat} {w : World} {g : Look} {F : Fm} {a : Act} {dd : List Deferred} {P : Program}

theorem FR.eval (h : FR I k n F a dd) {x : Operand} {v : AV} (hx : aget F x = some v) : a.eval x = I.g v ∧ okV k v := by
  cases x with
  | tmp t =>
    obtain ⟨h1, h2, h3⟩ := h.get t v hx
    exact ⟨by simp [Act.eval, Array.getD_eq_getD_getElem?, h3], h2⟩
  | const u =>
    obtain ⟨h1, h2, _⟩ := ofV_ok hx I.sv k
    exact ⟨h1.symm, h2⟩
  | func f =>
    simp only [aget, Option.some.injEq] at hx
    subst hx
    exact ⟨by simp [Act.eval, gam, gams], by simp [okV, okVs]⟩
  | global q => simp [aget] at hx

theorem FR.evals (h : FR I k n F a dd) {xs : List Operand} {vs : List AV} (hx : agets F xs = some vs) : xs.map a.eval = vs.map I.g ∧ ∀ v ∈ vs, okV k v := by
  induction xs generalizing vs with
  | nil => simp [agets] at hx; subst hx; simp
  | cons x xs ih =>
    simp only [agets, Option.bind_eq_bind, Option.bind_eq_some_iff] at hx
    obtain ⟨v, hv, us, hus, hx⟩ := hx
    cases hx
    obtain ⟨h1, h2⟩ := h.eval hv
    obtain ⟨h3, h4⟩ := ih hus
    exact ⟨by simp [h1, h3], by simpa [h2] using h4⟩

theorem FR.set (h : FR I k n F a dd) {d : Nat} (hd : d < n) {v : AV} (hv : okV k v) : FR I k n (F.set d v) (a.put (some d) (I.g v)) dd := by
  refine ⟨h.defers, by simp [Act.put, h.size], fun t u hu => ?_⟩
  rcases Tr.set_some hu with ⟨rfl, rfl⟩ | ⟨hne, hu⟩
  · exact ⟨hd, hv, by simp [Act.put, h.size, hd]⟩
  · obtain ⟨h1, h2, h3⟩ := h.get t u hu
    have hne' : ¬ d = t := fun e => hne e.symm
    exact ⟨h1, h2, by simp [Act.put, hne', h3]⟩
theorem FR.setO (h : FR I k n F a dd) {d : Option Nat} {v : AV} {F' : Fm} (hs : setO n F d v = some F') (hv : okV k v) : FR I k n F' (a.put d (I.g v)) dd := by
  cases d with
  | none => simp only [Ev.setO] at hs; cases hs; exact h
  | some d =>
    simp only [Ev.setO] at hs
    split at hs
    · cases hs; exact h.set (Nat.le_of_ble_eq_true (by assumption)) hv
    · cases hs

theorem FR.want (h : FR I k n F a dd) {ops : Array Oper} {o : Oper} {b : Bool} (hw : wantA ops F o = some b) : Region.wanted o (yielded ops a.tmps) = b := by
  unfold Region.wanted
  unfold wantA at hw
  cases hg : o.guard with
  | none => simp only [hg] at hw; cases hw; rfl
  | some p =>
    obtain ⟨j, want⟩ := p
    simp only [hg] at hw
    simp only [yielded]
    cases hd : (ops[j]?).bind (·.dst) with
    | none => simp only [hd] at hw; cases hw; simp
    | some d =>
      simp only [hd] at hw
      cases hv : F.get d with
      | none => simp [hv] at hw
      | some v =>
        obtain ⟨_, _, h3⟩ := h.get d v hv
        simp only [hv] at hw
        simp only [Option.bind_some, h3]
        cases v <;> simp [gam, undef] at hw ⊢ <;> exact hw

/-! ### Types -/
theorem run_isAgg' {t : Nat} {d : TypeDesc} (h : P.underlying t = some d) (w : World) : (isAgg t).run P w = .ok (isAggD d) w := by
  simp only [isAgg, Sem.run_bind, run_underlying h, Result.andThen_ok]
  cases d <;> rfl
theorem run_sizeOf' {t m : Nat} (h : (P.info? t).map (·.size) = some m) (w : World) : (sizeOf t).run P w = .ok m w := by
  obtain ⟨i, hi, rfl⟩ := Option.map_eq_some_iff.1 h
  simp [sizeOf, typeInfo, hi]
theorem run_zeroValue' {t : Nat} {z : AV} (h : ((P.info? t).bind (·.zero)).bind ofV = some z) (I : Ip) (k : Nat) (w : World) : (zeroValue t).run P w = .ok (I.g z) w ∧ okV k z ∧ isCell z = true := by
  obtain ⟨v, hv, hz⟩ := Option.bind_eq_some_iff.1 h
  obtain ⟨i, hi, hv⟩ := Option.bind_eq_some_iff.1 hv
  obtain ⟨h1, h2, h3⟩ := ofV_ok hz I.sv k
  exact ⟨by simp [zeroValue, typeInfo, hi, hv, Ip.g, h1], h2, h3⟩

/-! ### Pieces of rows of cells -/
theorem takeR_len {l : List AV} {off m N : Nat} (hN : l.length = N) (h : Nat.ble (off + m) N = true) : (takeR (dropR l off) m).length = m := by
  have := Nat.le_of_ble_eq_true h
  rw [takeR_eq, dropR_eq]; simp; omega
theorem takeR_mem {l : List AV} {off m : Nat} {v : AV} (h : v ∈ takeR (dropR l off) m) : v ∈ l := by
  rw [takeR_eq, dropR_eq] at h; exact List.mem_of_mem_drop (List.mem_of_mem_take h)
theorem getR_mem {l : List AV} {i : Nat} {v : AV} (h : getR l i = some v) : v ∈ l := by
  rw [getR_eq] at h; exact List.mem_of_getElem? h

theorem part_ok {t N off : Nat} {l : List AV} {v : AV} (h : Ev.part (tabOf P) t N l off = some v) (hN : l.length = N) (h1 : ∀ u ∈ l, oneA u = true) (hk : ∀ u ∈ l, okV k u) : okV k v ∧ isCell v = true := by
  simp only [Ev.part, tabOf, Option.bind_eq_bind, Option.bind_eq_some_iff] at h
  obtain ⟨d, hd, h⟩ := h
  split at h
  · obtain ⟨m, hm, h⟩ := Option.bind_eq_some_iff.1 h
    cases hb : (Nat.beq off 0 && Nat.beq m N) with
    | true => simp only [hb, cond_true, Option.some.injEq] at h; subst h; exact ⟨okV_agg.2 ⟨hN, h1, hk⟩, rfl⟩
    | false =>
      simp only [hb, cond_false] at h
      cases hc : Nat.ble (off + m) N with
      | true => simp only [hc, cond_true, Option.some.injEq] at h; subst h; exact ⟨okV_agg.2 ⟨takeR_len hN hc, fun u hu => h1 u (takeR_mem hu), fun u hu => hk u (takeR_mem hu)⟩, rfl⟩
      | false => simp [hc] at h
  · have hm := getR_mem h
    exact ⟨hk v hm, by have := h1 v hm; cases v <;> first | exact this | rfl⟩

theorem map_takeR (f : AV → Value) (l : List AV) (off m : Nat) : (takeR (dropR l off) m).map f = ((l.map f).drop off).take m := by
  rw [takeR_eq, dropR_eq, List.map_take, List.map_drop]

theorem part_load {t N off b base : Nat} {l : List AV} {v : AV} (h : Ev.part (tabOf P) t N l off = some v) (hN : l.length = N) (hc : Cells w b base (l.map I.g)) : (loadVar t ⟨b, base + off, none⟩).run P w = .ok (I.g v) w := by
  simp only [Ev.part, tabOf, Option.bind_eq_bind, Option.bind_eq_some_iff] at h
  obtain ⟨d, hd, h⟩ := h
  have ha := run_isAgg' hd w
  split at h
  · rename_i hag
    obtain ⟨m, hm, h⟩ := Option.bind_eq_some_iff.1 h
    have hs := run_sizeOf' hm w
    cases hb : (Nat.beq off 0 && Nat.beq m N) with
    | true =>
      simp only [hb, cond_true, Option.some.injEq] at h; subst h
      simp only [Bool.and_eq_true, Nat.beq_eq] at hb
      obtain ⟨rfl, rfl⟩ := hb
      have := Fw.run_loadCells (P := P) w b base (l.map I.g) hc
      simp only [List.length_map, hN] at this
      simp [loadVar, ha, hag, hs, this, gam, gams_eq]
    | false =>
      simp only [hb, cond_false] at h
      cases hx : Nat.ble (off + m) N with
      | true =>
        simp only [hx, cond_true, Option.some.injEq] at h; subst h
        have hle := Nat.le_of_ble_eq_true hx
        have hc' : Cells w b (base + off) ((takeR (dropR l off) m).map I.g) := hc.sub off m (by rw [map_takeR]; rfl)
        have := Fw.run_loadCells (P := P) w b (base + off) _ hc'
        simp only [List.length_map, takeR_len hN hx] at this
        simp [loadVar, ha, hag, hs, this, gam, gams_eq]
      | false => simp [hx] at h
  · rename_i hag
    rw [getR_eq] at h
    have := hc off (I.g v) (by rw [List.getElem?_map, h]; rfl)
    simp [loadVar, ha, hag, this]
theorem part_part {t N off : Nat} {l : List AV} {v : AV} (h : Ev.part (tabOf P) t N l off = some v) (hN : l.length = N) : (Go.part t (l.map I.g).toArray off).run P w = .ok (I.g v) w := by
  simp only [Ev.part, tabOf, Option.bind_eq_bind, Option.bind_eq_some_iff] at h
  obtain ⟨d, hd, h⟩ := h
  have ha := run_isAgg' hd w
  split at h
  · rename_i hag
    obtain ⟨m, hm, h⟩ := Option.bind_eq_some_iff.1 h
    have hs := run_sizeOf' hm w
    cases hb : (Nat.beq off 0 && Nat.beq m N) with
    | true =>
      simp only [hb, cond_true, Option.some.injEq] at h; subst h
      simp only [Bool.and_eq_true, Nat.beq_eq] at hb
      obtain ⟨rfl, rfl⟩ := hb
      simp [Go.part, ha, hag, hs, gam, gams_eq, List.extract]
      exact List.take_of_length_le (by simp [hN])
    | false =>
      simp only [hb, cond_false] at h
      cases hx : Nat.ble (off + m) N with
      | true =>
        simp only [hx, cond_true, Option.some.injEq] at h; subst h
        simp [Go.part, ha, hag, hs, gam, gams_eq, map_takeR, List.extract]
      | false => simp [hx] at h
  · rename_i hag
    rw [getR_eq] at h
    simp [Go.part, ha, hag, h]

theorem ownBlk {lo e z m : Nat} {s : SV} {xs : List Value} (h : w.ownsRow lo e z s.v m xs) : Cells w s.blk 0 xs := by
  rcases h.2 with ⟨h1, h2⟩ | ⟨q, cap, cur, h1, h3, h4, h5, h6, h7, h8⟩
  · have : xs = [] := List.eq_nil_of_length_eq_zero (by rw [h.1, h2, Nat.zero_mul])
    subst this; intro j v hv; simp at hv
  · obtain ⟨sa, sl, sc⟩ := s
    cases h1
    intro j v hv
    rw [← h8, List.getElem?_take] at hv
    split at hv
    · simp only [Nat.zero_add, SV.blk, World.cell?, h4]; simpa using hv
    · cases hv
theorem GK.cellsP (h : GK I env lo k w g) {m N T : Nat} {l : List AV} (hg : g m = some (.pt N l T)) : Cells w (I.sv m).blk 0 (l.map I.g) := cells_pt (n := (l.map I.g).length) (h.holds m _ hg) (cut_all rfl)
theorem GK.cellsF (h : GK I env lo k w g) {m N T : Nat} {l : List AV} (hg : g m = some (.fz N l T)) : Cells w (I.sv m).blk 0 (l.map I.g) := cells_pt (n := (l.map I.g).length) (h.holds m _ hg) (cut_all rfl)
theorem GK.cellsR (h : GK I env lo k w g) {m e z c : Nat} {l : List AV} (hg : g m = some (.row e z c l)) : Cells w (I.sv m).blk 0 (l.map I.g) := ownBlk (h.holds m _ hg)
end
end Go.Ev
