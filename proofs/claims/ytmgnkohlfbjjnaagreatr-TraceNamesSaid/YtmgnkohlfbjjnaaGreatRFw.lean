/- Frames as lookup lists, memory as a list of resources: the ground of the walks. No statement of the seat is proved here. -/
import Derived.WalkKit
import Derived.RangeFuncLeaves
import Derived.TacticsIn
import Derived.OrdersIn
namespace Go.Fw
set_option linter.unusedVariables false
set_option linter.unusedSimpArgs false

/-! ### Frames -/

def look : List (Nat × Value) → Nat → Option Value
  | [], _ => none
  | (j, v) :: r, i => bif Nat.beq j i then some v else look r i

structure Fr (n : Nat) (F : List (Nat × Value)) (a : Act) (dd : List Deferred := []) : Prop where
  defers : a.defers = dd
  size : a.tmps.size = n
  get : ∀ i v, look F i = some v → a.tmps[i]? = some v

theorem Fr.put {dd : List Deferred} {n F a d v} (h : Fr n F a dd) (hd : Nat.blt d n = true) : Fr n ((d, v) :: F) (a.put (some d) v) dd := by
  have hd' : d < n := Nat.le_of_ble_eq_true hd
  refine ⟨h.defers, by simp [Act.put, h.size], ?_⟩
  intro i u hu
  simp only [look] at hu
  cases hb : Nat.beq d i with
  | true =>
    have : d = i := Nat.eq_of_beq_eq_true hb
    subst this
    simp at hu
    subst hu
    simp [Act.put, h.size, hd']
  | false =>
    have hne : d ≠ i := fun e => by subst e; simp at hb
    simp [hb] at hu
    have := h.get i u hu
    simp [Act.put, hne, this]

theorem Fr.nodst {dd : List Deferred} {n F a v} (h : Fr n F a dd) : Fr n F (a.put none v) dd := h

theorem Fr.weaken {dd : List Deferred} {n F G a} (h : Fr n F a dd) (hg : ∀ i v, look G i = some v → look F i = some v) : Fr n G a dd :=
  ⟨h.defers, h.size, fun i v e => h.get i v (hg i v e)⟩

def keepF (F : List (Nat × Value)) : List Nat → List (Nat × Value)
  | [] => []
  | k :: ks => match look F k with
    | some v => (k, v) :: keepF F ks
    | none => keepF F ks

theorem look_keepF (F : List (Nat × Value)) (ks : List Nat) (i : Nat) (v : Value) (h : look (keepF F ks) i = some v) : look F i = some v := by
  induction ks with
  | nil => simp [keepF, look] at h
  | cons k ks ih =>
    simp only [keepF] at h
    split at h
    · rename_i u hu
      simp only [look] at h
      cases hb : Nat.beq k i with
      | true =>
        have : k = i := Nat.eq_of_beq_eq_true hb
        subst this
        simp at h
        subst h
        exact hu
      | false => simp [hb] at h; exact ih h
    · exact ih h

theorem look_append (F G : List (Nat × Value)) (i : Nat) (v : Value) (h : look (F ++ G) i = some v) :
    look F i = some v ∨ (look F i = none ∧ look G i = some v) := by
  induction F with
  | nil => exact .inr ⟨rfl, h⟩
  | cons p F ih =>
    obtain ⟨j, u⟩ := p
    simp only [List.cons_append, look] at h ⊢
    cases hb : Nat.beq j i with
    | true => simp [hb] at h ⊢; exact h
    | false => simp [hb] at h ⊢; exact ih h

/-- At a loop's head, or where ways meet: what is named anew, and what is kept. -/
theorem Fr.head {dd : List Deferred} {n F a} (h : Fr n F a dd) (G : List (Nat × Value)) (ks : List Nat)
    (hG : ∀ i v, look G i = some v → look F i = some v) : Fr n (G ++ keepF F ks) a dd := by
  refine h.weaken fun i v e => ?_
  rcases look_append _ _ _ _ e with e | ⟨_, e⟩
  · exact hG i v e
  · exact look_keepF _ _ _ _ e

/-- All of a short list stands in another one. -/
def allIn (F : List (Nat × Value)) : List (Nat × Value) → Prop
  | [] => True
  | (i, v) :: r => look F i = some v ∧ allIn F r

theorem allIn_look {F G : List (Nat × Value)} (h : allIn F G) (i : Nat) (v : Value) (e : look G i = some v) : look F i = some v := by
  induction G with
  | nil => simp [look] at e
  | cons p G ih =>
    obtain ⟨j, u⟩ := p
    simp only [look] at e
    cases hb : Nat.beq j i with
    | true =>
      have : j = i := Nat.eq_of_beq_eq_true hb
      subst this
      simp at e
      subst e
      exact h.1
    | false => simp [hb] at e; exact ih h.2 e

theorem Fr.to {dd : List Deferred} {n F a} (h : Fr n F a dd) {G : List (Nat × Value)} (hG : allIn F G) : Fr n G a dd := h.weaken (allIn_look hG)

/-- At the end of a round: the frame F' reads G, and keeps what an elder frame F had at ks. -/
theorem Fr.again {dd : List Deferred} {n F F' a} (h : Fr n F' a dd) {G : List (Nat × Value)} {ks : List Nat} (hG : allIn F' G) (hk : allIn F' (keepF F ks)) : Fr n (G ++ keepF F ks) a dd := by
  refine h.weaken fun i v e => ?_
  rcases look_append _ _ _ _ e with e | ⟨_, e⟩
  · exact allIn_look hG i v e
  · exact allIn_look hk i v e

def ev (F : List (Nat × Value)) : Operand → Option Value
  | .tmp t => look F t
  | .const v => some v
  | .global g => some (.pointer (some ⟨g, 0, none⟩))
  | .func f => some (.func (.func f) #[] #[])

theorem Fr.eval {dd : List Deferred} {n F a x v} (h : Fr n F a dd) (he : ev F x = some v) : a.eval x = v := by
  cases x with
  | tmp t =>
    have := h.get t v he
    simp [Act.eval, Array.getD_eq_getD_getElem?, this]
  | const u => simpa [ev, Act.eval] using he
  | global g => simpa [ev, Act.eval] using he
  | func f => simpa [ev, Act.eval] using he

def evs (F : List (Nat × Value)) : List Operand → Option (List Value)
  | [] => some []
  | x :: xs => match ev F x with
    | some v => match evs F xs with
      | some vs => some (v :: vs)
      | none => none
    | none => none

theorem Fr.evals {dd : List Deferred} {n F a} (h : Fr n F a dd) {xs : List Operand} {vs : List Value} (he : evs F xs = some vs) : xs.map a.eval = vs := by
  induction xs generalizing vs with
  | nil => simp [evs] at he; simp [he]
  | cons x xs ih =>
    simp only [evs] at he
    cases hx : ev F x with
    | none => simp [hx] at he
    | some v =>
      cases hxs : evs F xs with
      | none => simp [hx, hxs] at he
      | some us =>
        simp [hx, hxs] at he
        subst he
        simp [h.eval hx, ih hxs]

def evps (F : List (Nat × Value)) : List (Nat × Operand) → Option (List (Nat × Value))
  | [] => some []
  | (i, x) :: xs => match ev F x with
    | some v => match evps F xs with
      | some vs => some ((i, v) :: vs)
      | none => none
    | none => none

theorem Fr.evalps {dd : List Deferred} {n F a} (h : Fr n F a dd) {xs : List (Nat × Operand)} {vs : List (Nat × Value)} (he : evps F xs = some vs) :
    xs.map (fun p => (p.1, a.eval p.2)) = vs := by
  induction xs generalizing vs with
  | nil => simp [evps] at he; simp [he]
  | cons p xs ih =>
    obtain ⟨i, x⟩ := p
    simp only [evps] at he
    cases hx : ev F x with
    | none => simp [hx] at he
    | some v =>
      cases hxs : evps F xs with
      | none => simp [hx, hxs] at he
      | some us =>
        simp [hx, hxs] at he
        subst he
        simp [h.eval hx, ih hxs]

theorem Fr.yield {dd : List Deferred} {n F a} (h : Fr n F a dd) {ops : Array Oper} {j t : Nat} {b : Bool} (hj : (ops[j]?).bind (·.dst) = some t) (hb : look F t = some (.bool b)) :
    yielded ops a.tmps j = some b := by
  have := h.get t _ hb
  simp [yielded, hj, this]

/-- A frame at a function's beginning. -/
def idx : Nat → List Value → List (Nat × Value)
  | _, [] => []
  | i, v :: vs => (i, v) :: idx (i + 1) vs

theorem look_idx (vs : List Value) : ∀ (s i : Nat) (v : Value), look (idx s vs) i = some v → s ≤ i ∧ vs[i - s]? = some v := by
  induction vs with
  | nil => intro s i v h; simp [idx, look] at h
  | cons u vs ih =>
    intro s i v h
    simp only [idx, look] at h
    cases hb : Nat.beq s i with
    | true =>
      have : s = i := Nat.eq_of_beq_eq_true hb
      subst this
      simp at h
      simp [h]
    | false =>
      simp [hb] at h
      obtain ⟨h1, h2⟩ := ih _ _ _ h
      refine ⟨by omega, ?_⟩
      rw [show i - s = (i - (s + 1)) + 1 by omega]
      simpa using h2

theorem Fr.enter (vs : List Value) (n : Nat) (hn : Nat.ble vs.length n = true) :
    Fr n (idx 0 vs) { tmps := vs.toArray ++ Array.replicate (n - vs.toArray.size) undef, defers := [] } := by
  have hn' : vs.length ≤ n := Nat.le_of_ble_eq_true hn
  refine ⟨rfl, by simp; omega, ?_⟩
  intro i v h
  obtain ⟨_, h2⟩ := look_idx vs 0 i v h
  have hi : i < vs.length := by
    rcases Nat.lt_or_ge i vs.length with h' | h'
    · exact h'
    · simp [List.getElem?_eq_none h'] at h2
  simp only [Nat.sub_zero] at h2
  simpa [Array.getElem?_append, hi] using h2

/-! ### Memory -/

/-- All blocks of w1 from lo on, but for those in S, stand in w as they were. -/
structure Same (lo : Nat) (S : List Nat) (w1 w : World) : Prop where
  size : w1.heap.size ≤ w.heap.size
  block : ∀ k, lo ≤ k → k < w1.heap.size → k ∉ S → w.heap[k]? = w1.heap[k]?

structure Io (w1 w : World) : Prop where
  os : w.os = w1.os
  tape : w.tape = w1.tape
  output : w.output = w1.output

theorem Io.refl (w : World) : Io w w := ⟨rfl, rfl, rfl⟩
theorem Io.trans {a b c : World} (h : Io a b) (k : Io b c) : Io a c := ⟨k.os.trans h.os, k.tape.trans h.tape, k.output.trans h.output⟩

/-- What a call leaves: all old blocks but those in S, and the streams. -/
structure Keeps (S : List Nat) (w w' : World) : Prop where
  io : Io w w'
  size : w.heap.size ≤ w'.heap.size
  block : ∀ k, k < w.heap.size → k ∉ S → w'.heap[k]? = w.heap[k]?

theorem Keeps.refl (w : World) : Keeps [] w w := ⟨Io.refl w, Nat.le_refl _, fun _ _ _ => rfl⟩
theorem Keeps.trans {S} {a b c : World} (h : Keeps S a b) (k : Keeps S b c) : Keeps S a c :=
  ⟨h.io.trans k.io, Nat.le_trans h.size k.size, fun i hi hs => (k.block i (Nat.lt_of_lt_of_le hi h.size) hs).trans (h.block i hi hs)⟩

inductive Res where
  | obj (b : Nat) (o : Obj)
  | same (w1 : World) (lo : Nat) (S : List Nat)
  | io (w1 : World)
  | row (lo : Nat) (v : Value) (e sz n : Nat) (xs : List Value)
  | gen (f : Nat → Prop) (Q : World → Prop)

/-- A block of cells of the call's own. -/
abbrev pt (b : Nat) (cs : List Value) (T : TypeId) : Res := .obj b (.cells cs.toArray T (0, 0))

def Res.fp : Res → Nat → Prop
  | .obj b _, k => k = b
  | .same w1 lo S, k => lo ≤ k ∧ k < w1.heap.size ∧ k ∉ S
  | .io _, _ => False
  | .row _ v _ _ _ _, k => v.ownBlock = some k
  | .gen f _, k => f k

def Res.holds (w : World) : Res → Prop
  | .obj b o => w.heap[b]? = some o
  | .same w1 lo S => Same lo S w1 w
  | .io w1 => Io w1 w
  | .row lo v e sz n xs => w.ownsRow lo e sz v n xs
  | .gen f Q => (∀ k, f k → k < w.heap.size) ∧ ∀ w', Io w w' → w.heap.size ≤ w'.heap.size → (∀ k, f k → w'.heap[k]? = w.heap[k]?) → Q w'

abbrev Res.holds' (r : Res) (w : World) : Prop := r.holds w

structure MemL (w : World) (L : List Res) : Prop where
  hold : ∀ (i : Nat) (r : Res), L[i]? = some r → r.holds w
  apart : ∀ (i j : Nat) (r s : Res), L[i]? = some r → L[j]? = some s → i ≠ j → ∀ k, r.fp k → ¬ s.fp k

theorem Res.fp_lt {w : World} {r : Res} (h : r.holds w) {k : Nat} (hk : r.fp k) : k < w.heap.size := by
  cases r with
  | obj b o =>
    simp only [Res.fp] at hk; subst hk
    exact (Array.getElem?_eq_some_iff.1 h).1
  | same w1 lo S => exact Nat.lt_of_lt_of_le hk.2.1 h.size
  | io w1 => exact hk.elim
  | row lo v e sz n xs => exact (World.ownsRow.lt h k hk).2
  | gen f Q => exact h.1 k hk

/-- What a resource says stays where none of its blocks has turned. -/
theorem Res.keep {w w' : World} {r : Res} (h : r.holds w) (hio : Io w w') (hs : w.heap.size ≤ w'.heap.size)
    (hk : ∀ k, r.fp k → w'.heap[k]? = w.heap[k]?) : r.holds w' := by
  cases r with
  | obj b o => exact (hk b rfl).trans h
  | same w1 lo S => exact ⟨Nat.le_trans h.size hs, fun k h1 h2 h3 => (hk k ⟨h1, h2, h3⟩).trans (h.block k h1 h2 h3)⟩
  | io w1 => exact Io.trans h hio
  | row lo v e sz n xs =>
    obtain ⟨h1, h2⟩ := h
    refine ⟨h1, ?_⟩
    rcases h2 with h2 | ⟨g, cap, cur, hv, hg, hh, r⟩
    · exact .inl h2
    · refine .inr ⟨g, cap, cur, hv, hg, ?_, r⟩
      rw [hk g (by simp [Res.fp, hv, Value.ownBlock]), hh]
  | gen f Q => exact ⟨fun k h1 => Nat.lt_of_lt_of_le (h.1 k h1) hs, fun w2 i2 s2 k2 => h.2 w2 (hio.trans i2) (Nat.le_trans hs s2) fun k h1 => (k2 k h1).trans (hk k h1)⟩

section
variable {w w' : World} {L : List Res}

/-- Nothing old has turned. -/
theorem MemL.keep (h : MemL w L) (k : Keeps [] w w') : MemL w' L :=
  ⟨fun i r hi => Res.keep (h.hold i r hi) k.io k.size fun j hj => k.block j (Res.fp_lt (h.hold i r hi) hj) (by simp), h.apart⟩

/-- A resource that is new. -/
theorem MemL.add (h : MemL w L) (k : Keeps [] w w') {r : Res} (hr : r.holds w') (hf : ∀ j, r.fp j → w.heap.size ≤ j) : MemL w' (r :: L) := by
  have hk := h.keep k
  constructor
  · intro i s hi
    cases i with
    | zero => simp at hi; subst hi; exact hr
    | succ i => simp at hi; exact hk.hold i s hi
  · intro i j s t hi hj hij k' hs ht
    cases i with
    | zero =>
      cases j with
      | zero => exact hij rfl
      | succ j =>
        simp at hi hj; subst hi
        have h1 := hf k' hs
        have h2 := Res.fp_lt (h.hold j t hj) ht
        omega
    | succ i =>
      cases j with
      | zero =>
        simp at hi hj; subst hj
        have h1 := hf k' ht
        have h2 := Res.fp_lt (h.hold i s hi) hs
        omega
      | succ j =>
        simp at hi hj
        exact h.apart i j s t hi hj (by omega) k' hs ht

/-- One resource turns: its own blocks, and new ones. -/
theorem MemL.upd (h : MemL w L) (i : Nat) {r r' : Res} (hi : L[i]? = some r) (hio : Io w w') (hs : w.heap.size ≤ w'.heap.size)
    (hk : ∀ k, k < w.heap.size → ¬ r.fp k → w'.heap[k]? = w.heap[k]?) (hr : r'.holds w') (hf : ∀ k, r'.fp k → r.fp k ∨ w.heap.size ≤ k) : MemL w' (L.set i r') := by
  have hlt : i < L.length := (List.getElem?_eq_some_iff.1 hi).1
  constructor
  · intro j s hj
    by_cases hij : i = j
    · subst hij
      simp [hlt] at hj
      subst hj
      exact hr
    · rw [List.getElem?_set_ne hij] at hj
      exact Res.keep (h.hold j s hj) hio hs fun k hf' => hk k (Res.fp_lt (h.hold j s hj) hf') fun hrk => h.apart i j r s hi hj hij k hrk hf'
  · intro a b s t ha hb hab k hs' ht'
    by_cases hia : i = a
    · subst hia
      simp [hlt] at ha
      subst ha
      rw [List.getElem?_set_ne hab] at hb
      rcases hf k hs' with h1 | h1
      · exact h.apart i b r t hi hb hab k h1 ht'
      · have := Res.fp_lt (h.hold b t hb) ht'; omega
    · rw [List.getElem?_set_ne hia] at ha
      by_cases hib : i = b
      · subst hib
        simp [hlt] at hb
        subst hb
        rcases hf k ht' with h1 | h1
        · exact h.apart a i s r ha hi hab k hs' h1
        · have := Res.fp_lt (h.hold a s ha) hs'; omega
      · rw [List.getElem?_set_ne hib] at hb
        exact h.apart a b s t ha hb hab k hs' ht'

/-- Some of them, in another order. -/
def sel (L : List Res) : List Nat → List Res
  | [] => []
  | i :: is => match L[i]? with
    | some r => r :: sel L is
    | none => sel L is

def nodupN : List Nat → Bool
  | [] => true
  | i :: is => !is.contains i && nodupN is

theorem sel_get (L : List Res) : ∀ (is : List Nat) (j : Nat) (r : Res), (sel L is)[j]? = some r → ∃ i ∈ is, L[i]? = some r := by
  intro is
  induction is with
  | nil => intro j r h; simp [sel] at h
  | cons i is ih =>
    intro j r h
    simp only [sel] at h
    split at h
    · rename_i s hs
      cases j with
      | zero => simp at h; subst h; exact ⟨i, by simp, hs⟩
      | succ j => simp at h; obtain ⟨k, hk, e⟩ := ih j r h; exact ⟨k, by simp [hk], e⟩
    · obtain ⟨k, hk, e⟩ := ih j r h; exact ⟨k, by simp [hk], e⟩

theorem MemL.sel (h : MemL w L) (is : List Nat) (hn : nodupN is = true) : MemL w (sel L is) := by
  constructor
  · intro j r hj
    obtain ⟨i, _, e⟩ := sel_get L is j r hj
    exact h.hold i r e
  · induction is with
    | nil => intro i j r s hi; simp [Fw.sel] at hi
    | cons i is ih =>
      simp only [nodupN, Bool.and_eq_true, Bool.not_eq_true', List.contains_eq_mem, decide_eq_false_iff_not] at hn
      intro a b r s ha hb hab k hr hs
      simp only [Fw.sel] at ha hb
      split at ha
      · rename_i t ht
        rw [ht] at hb
        cases a with
        | zero =>
          cases b with
          | zero => exact hab rfl
          | succ b =>
            simp at ha hb; subst ha
            obtain ⟨m, hm, e⟩ := sel_get L is b s hb
            exact h.apart i m t s ht e (fun x => hn.1 (x ▸ hm)) k hr hs
        | succ a =>
          cases b with
          | zero =>
            simp at ha hb; subst hb
            obtain ⟨m, hm, e⟩ := sel_get L is a r ha
            exact h.apart m i r t e ht (fun x => hn.1 (x ▸ hm)) k hr hs
          | succ b => simp at ha hb; exact ih hn.2 a b r s ha hb (by omega) k hr hs
      · rename_i hnone
        rw [hnone] at hb
        exact ih hn.2 a b r s ha hb hab k hr hs

theorem MemL.obj (h : MemL w L) {i b : Nat} {o : Obj} (hi : L[i]? = some (.obj b o)) : w.heap[b]? = some o := h.hold i _ hi
theorem MemL.same (h : MemL w L) {i : Nat} {w1 : World} {lo : Nat} {S : List Nat} (hi : L[i]? = some (.same w1 lo S)) : Same lo S w1 w := h.hold i _ hi
theorem MemL.io (h : MemL w L) {i : Nat} {w1 : World} (hi : L[i]? = some (.io w1)) : Io w1 w := h.hold i _ hi
theorem MemL.row (h : MemL w L) {i lo e sz n : Nat} {v : Value} {xs : List Value} (hi : L[i]? = some (.row lo v e sz n xs)) : w.ownsRow lo e sz v n xs := h.hold i _ hi

theorem MemL.gen (h : MemL w L) {i : Nat} {f : Nat → Prop} {Q : World → Prop} (hi : L[i]? = some (.gen f Q)) : Q w :=
  (h.hold i _ hi).2 w (Io.refl w) (Nat.le_refl _) fun _ _ => rfl
/-- What a resource says, kept as such. -/
theorem MemL.freeze {r : Res} (h : MemL w (r :: L)) : MemL w (.gen r.fp r.holds' :: L) := by
  have h0 := h.hold 0 r rfl
  constructor
  · intro i s hi
    cases i with
    | zero =>
      simp at hi; subst hi
      exact ⟨fun k hk => Res.fp_lt h0 hk, fun w' i' s' k' => Res.keep h0 i' s' k'⟩
    | succ i => exact h.hold (i + 1) s (by simpa using hi)
  · intro i j s t hi hj hij k hs ht
    cases i with
    | zero =>
      cases j with
      | zero => exact hij rfl
      | succ j => simp at hi; subst hi; exact h.apart 0 (j + 1) r t rfl (by simpa using hj) hij k hs ht
    | succ i =>
      cases j with
      | zero => simp at hj; subst hj; exact h.apart (i + 1) 0 s r (by simpa using hi) rfl hij k hs ht
      | succ j => exact h.apart (i + 1) (j + 1) s t (by simpa using hi) (by simpa using hj) hij k hs ht
theorem MemL.weak {f : Nat → Prop} {Q Q' : World → Prop} (h : MemL w (.gen f Q :: L)) (hq : ∀ w, Q w → Q' w) : MemL w (.gen f Q' :: L) := by
  have h0 := h.hold 0 _ rfl
  constructor
  · intro i s hi
    cases i with
    | zero => simp at hi; subst hi; exact ⟨h0.1, fun w' a b c => hq _ (h0.2 w' a b c)⟩
    | succ i => exact h.hold (i + 1) s (by simpa using hi)
  · intro i j s t hi hj hij k hs ht
    cases i with
    | zero =>
      cases j with
      | zero => exact hij rfl
      | succ j => simp at hi; subst hi; exact h.apart 0 (j + 1) (.gen f Q) t rfl (by simpa using hj) hij k hs ht
    | succ i =>
      cases j with
      | zero => simp at hj; subst hj; exact h.apart (i + 1) 0 s (.gen f Q) (by simpa using hi) rfl hij k hs ht
      | succ j => exact h.apart (i + 1) (j + 1) s t (by simpa using hi) (by simpa using hj) hij k hs ht
/-- Two resources become one. -/
theorem MemL.both {r s : Res} (h : MemL w (r :: s :: L)) : MemL w (.gen (fun k => r.fp k ∨ s.fp k) (fun w => r.holds' w ∧ s.holds' w) :: L) := by
  have h0 := h.hold 0 r rfl
  have h1 := h.hold 1 s rfl
  constructor
  · intro i t hi
    cases i with
    | zero =>
      simp at hi; subst hi
      exact ⟨fun k hk => hk.elim (Res.fp_lt h0) (Res.fp_lt h1), fun w' i' s' k' => ⟨Res.keep h0 i' s' fun k hk => k' k (.inl hk), Res.keep h1 i' s' fun k hk => k' k (.inr hk)⟩⟩
    | succ i => exact h.hold (i + 2) t (by simpa using hi)
  · have key : ∀ (i : Nat) (t : Res), L[i]? = some t → ∀ k, (r.fp k ∨ s.fp k) → ¬ t.fp k := fun i t hi k hk ht => hk.elim (fun hk => h.apart 0 (i + 2) r t rfl (by simpa using hi) (by omega) k hk ht) fun hk => h.apart 1 (i + 2) s t rfl (by simpa using hi) (by omega) k hk ht
    intro i j a b hi hj hij k ha hb
    cases i with
    | zero =>
      cases j with
      | zero => exact hij rfl
      | succ j => simp at hi; subst hi; exact key j b (by simpa using hj) k ha hb
    | succ i =>
      cases j with
      | zero => simp at hj; subst hj; exact key i a (by simpa using hi) k hb ha
      | succ j => exact h.apart (i + 2) (j + 2) a b (by simpa using hi) (by simpa using hj) (by omega) k ha hb
/-- A resource of no memory. -/
theorem MemL.void (h : MemL w L) {Q : World → Prop} (hq : ∀ w, Q w) : MemL w (.gen (fun _ => False) Q :: L) :=
  h.add (Keeps.refl w) ⟨fun _ hk => hk.elim, fun w' _ _ _ => hq w'⟩ fun _ hk => hk.elim

/-- At a call's beginning: nothing has turned yet. -/
theorem MemL.start (w : World) : MemL w [.same w 0 [], .io w] := by
  constructor
  · intro i r hi
    match i, hi with
    | 0, hi => simp at hi; subst hi; exact ⟨Nat.le_refl _, fun _ _ _ _ => rfl⟩
    | 1, hi => simp at hi; subst hi; exact Io.refl w
  · intro i j r s hi hj hij k hr hs
    match i, j, hi, hj with
    | 0, 0, _, _ => exact hij rfl
    | 0, 1, hi, hj => simp at hj; subst hj; exact hs
    | 1, 0, hi, hj => simp at hi; subst hi; exact hr
    | 1, 1, _, _ => exact hij rfl

/-- The same, with blocks that the call may write to. -/
theorem MemL.start1 (w : World) {b : Nat} {o : Obj} (hb : w.heap[b]? = some o) : MemL w [.obj b o, .same w 0 [b], .io w] := by
  constructor
  · intro i r hi
    match i, hi with
    | 0, hi => simp at hi; subst hi; exact hb
    | 1, hi => simp at hi; subst hi; exact ⟨Nat.le_refl _, fun _ _ _ _ => rfl⟩
    | 2, hi => simp at hi; subst hi; exact Io.refl w
  · intro i j r s hi hj hij k hr hs
    match i, j, hi, hj with
    | 0, 0, _, _ => exact hij rfl
    | 1, 1, _, _ => exact hij rfl
    | 2, 2, _, _ => exact hij rfl
    | 0, 2, _, hj => simp at hj; subst hj; exact hs
    | 1, 2, _, hj => simp at hj; subst hj; exact hs
    | 2, 0, hi, _ => simp at hi; subst hi; exact hr
    | 2, 1, hi, _ => simp at hi; subst hi; exact hr
    | 0, 1, hi, hj => simp at hi hj; subst hi hj; simp [Res.fp] at hr hs; exact hs.2 hr
    | 1, 0, hi, hj => simp at hi hj; subst hi hj; simp [Res.fp] at hr hs; exact hr.2 hs

/-- What a call leaves, read off at its end. -/
theorem MemL.keeps {w0 : World} {S : List Nat} (h : MemL w L) {i j : Nat} (hi : L[i]? = some (.same w0 0 S)) (hj : L[j]? = some (.io w0)) : Keeps S w0 w :=
  ⟨h.io hj, (h.same hi).size, fun k hk hs => (h.same hi).block k (Nat.zero_le _) hk hs⟩

/-- Behind a call: what it made stands from its beginning's size on. -/
theorem MemL.called (h : MemL w L) (k : Keeps [] w w') : MemL w' (.same w' w.heap.size [] :: L) :=
  h.add k ⟨Nat.le_refl _, fun _ _ _ _ => rfl⟩ fun _ hj => hj.1
end
end Go.Fw
