/- Plain data, and what it is to read as them in memory. No statement of the seat is proved here. -/
import Derived.Test.YtmgnkohlfbjjnaaGreatRFwRow
namespace Go.Fw
set_option linter.unusedVariables false
set_option linter.unusedSimpArgs false




structure Each {A B : Type} (R : A → B → Prop) (hs : List A) (l : List B) : Prop where
  len : hs.length = l.length
  at_ : ∀ (i : Nat) h p, hs[i]? = some h → l[i]? = some p → R h p
theorem Each.nil {A B : Type} {R : A → B → Prop} : Each R ([] : List A) ([] : List B) := ⟨rfl, fun i h p hh => by simp at hh⟩
theorem Each.mono {A B : Type} {R R' : A → B → Prop} {hs : List A} {l : List B} (h : Each R hs l) (k : ∀ x y, R x y → R' x y) : Each R' hs l := ⟨h.len, fun i x y hx hy => k x y (h.at_ i x y hx hy)⟩
theorem Each.snoc {A B : Type} {R : A → B → Prop} {hs : List A} {l : List B} {x : A} {y : B} (h : Each R hs l) (k : R x y) : Each R (hs ++ [x]) (l ++ [y]) := by
  refine ⟨by simp [h.len], fun i a b ha hb => ?_⟩
  by_cases hi : i < hs.length
  · rw [List.getElem?_append_left hi] at ha
    rw [List.getElem?_append_left (by rw [← h.len]; exact hi)] at hb
    exact h.at_ i a b ha hb
  · rw [List.getElem?_append_right (by omega)] at ha
    rw [List.getElem?_append_right (by rw [← h.len]; omega)] at hb
    have hi0 : i - hs.length = 0 := by
      have := (List.getElem?_eq_some_iff.1 ha).1
      simp at this; omega
    rw [← h.len] at hb
    rw [hi0] at ha hb
    simp at ha hb
    subst ha hb
    exact k
theorem Each.append {A B : Type} {R : A → B → Prop} {hs hs' : List A} {l l' : List B} (h : Each R hs l) (k : Each R hs' l') : Each R (hs ++ hs') (l ++ l') := by
  refine ⟨by simp [h.len, k.len], fun i a b ha hb => ?_⟩
  by_cases hi : i < hs.length
  · rw [List.getElem?_append_left hi] at ha
    rw [List.getElem?_append_left (by rw [← h.len]; exact hi)] at hb
    exact h.at_ i a b ha hb
  · rw [List.getElem?_append_right (by omega)] at ha
    rw [List.getElem?_append_right (by rw [← h.len]; omega)] at hb
    rw [← h.len] at hb
    exact k.at_ _ a b ha hb
theorem Each.get {A B : Type} {R : A → B → Prop} {hs : List A} {l : List B} (h : Each R hs l) {i : Nat} (hi : i < l.length) : ∃ x y, hs[i]? = some x ∧ l[i]? = some y ∧ R x y := by
  have h1 := List.getElem?_eq_getElem (l := hs) (i := i) (by rw [h.len]; exact hi)
  have h2 := List.getElem?_eq_getElem (l := l) (i := i) hi
  exact ⟨_, _, h1, h2, h.at_ i _ _ h1 h2⟩
theorem Each.take {A B : Type} {R : A → B → Prop} {hs : List A} {l : List B} (h : Each R hs l) (n : Nat) : Each R (hs.take n) (l.take n) := by
  refine ⟨by simp [h.len], fun i a b ha hb => ?_⟩
  rw [List.getElem?_take] at ha hb
  split at ha
  · rename_i hi; rw [if_pos hi] at hb; exact h.at_ i a b ha hb
  · cases ha
theorem Each.set {A B : Type} {R : A → B → Prop} {hs : List A} {l : List B} {x : A} {y : B} (h : Each R hs l) (i : Nat) (k : R x y) : Each R (hs.set i x) (l.set i y) := by
  refine ⟨by simp [h.len], fun j a b ha hb => ?_⟩
  by_cases hij : i = j
  · subst hij
    rw [List.getElem?_set_self'] at ha hb
    cases h1 : hs[i]? with
    | none => simp [h1] at ha
    | some _ => cases h2 : l[i]? with
      | none => simp [h2] at hb
      | some _ => simp [h1] at ha; simp [h2] at hb; subst ha hb; exact k
  · rw [List.getElem?_set_ne hij] at ha hb; exact h.at_ j a b ha hb

theorem Each.any_eq {A B : Type} {R : A → B → Prop} {hs : List A} {l : List B} (h : Each R hs l) {q : A → Bool} {q' : B → Bool} (k : ∀ x y, R x y → q x = q' y) : hs.any q = l.any q' := by
  have h1 := h.len
  have h2 := h.at_
  clear h
  induction hs generalizing l with
  | nil => cases l with
    | nil => rfl
    | cons _ _ => simp at h1
  | cons x hs ih => cases l with
    | nil => simp at h1
    | cons y l =>
      simp only [List.any_cons]
      rw [k x y (h2 0 x y rfl rfl), ih (by simpa using h1) fun i a b ha hb => h2 (i + 1) a b (by simpa using ha) (by simpa using hb)]

theorem drop_cons {X : Type} {l : List X} {k : Nat} {x : X} (h : l[k]? = some x) : l.drop k = x :: l.drop (k + 1) := by
  obtain ⟨h1, h2⟩ := List.getElem?_eq_some_iff.1 h
  rw [← h2]; exact List.drop_eq_getElem_cons h1
theorem drop_all {X : Type} {l : List X} {k : Nat} (h : l.length ≤ k) : l.drop k = [] := List.drop_eq_nil_of_le h
theorem take_snoc {X : Type} {l : List X} {k : Nat} {x : X} (h : l[k]? = some x) : l.take (k + 1) = l.take k ++ [x] := by
  rw [List.take_add_one, h]; rfl
theorem get_ex {X : Type} {l : List X} {k : Nat} (h : k < l.length) : ∃ x, l[k]? = some x := ⟨_, List.getElem?_eq_getElem h⟩

/-- Bytes, numbers, plain things. -/
structure LAt {X : Type} [Enc X] (lo : Nat) (w : World) (s : SV) (l : List X) : Prop where
  sl : SliceOf lo w s l
  big : l.length ≤ 4294967296
/-- Lists of things with memory of their own. -/
structure LsAt {X Y : Type} [Enc X] (R : Nat → World → X → Y → Prop) (lo : Nat) (w : World) (s : SV) (hs : List X) (l : List Y) : Prop where
  sl : SliceOf lo w s hs
  big : l.length ≤ 4294967296
  each : Each (R lo w) hs l
abbrev BsAt := LsAt (X := SV) (Y := List UInt8) LAt

structure PIn where
  ctx : List UInt8
  tabs : List (List UInt8)
deriving DecidableEq
structure PState where
  regs : Vec LVal 11
  stack : Vec LSlot 32
  ctx : List UInt8
  tabs : List (List UInt8)
  sent : List Int
  at_ : Int
  steps : Int
  done : Bool
deriving DecidableEq
structure PPiece where
  table : Int
  from_ : Int
  old : List UInt8
  new : List UInt8
deriving DecidableEq
structure PMark where
  at_ : Int
  next : Int
  done : Bool
  regs : List LTurn
  slots : List LCell
  pieces : List PPiece
  sent : List Int
deriving DecidableEq
structure PRec where
  inp : PIn
  marks : List PMark
  end_ : Int
deriving DecidableEq

structure InAt (lo : Nat) (w : World) (x : RInput) (p : PIn) : Prop where
  ctx : LAt lo w x.ctx p.ctx
  tabs : ∃ hs, BsAt lo w x.tables hs p.tabs
structure PieceAt (lo : Nat) (w : World) (x : RPiece) (p : PPiece) : Prop where
  table : x.table = p.table
  from_ : x.from_ = p.from_
  old : LAt lo w x.old p.old
  new : LAt lo w x.new p.new
structure StAt (lo : Nat) (w : World) (x : RState) (p : PState) : Prop where
  regs : x.regs = p.regs
  stack : x.stack = p.stack
  ctx : LAt lo w x.ctx p.ctx
  tabs : ∃ hs, BsAt lo w x.tables hs p.tabs
  sent : LAt lo w x.sent p.sent
  at_ : x.at_ = p.at_
  steps : x.steps = p.steps
  done : x.done = p.done
structure MarkAt (lo : Nat) (w : World) (x : RMark) (p : PMark) : Prop where
  at_ : x.at_ = p.at_
  next : x.next = p.next
  done : x.done = p.done
  regs : LAt lo w x.regs p.regs
  slots : LAt lo w x.slots p.slots
  pieces : ∃ hs, LsAt PieceAt lo w x.pieces hs p.pieces
  sent : LAt lo w x.sent p.sent
structure RecAt (lo : Nat) (w : World) (x : RRecord) (p : PRec) : Prop where
  inp : InAt lo w x.in_ p.inp
  marks : ∃ hs, LsAt MarkAt lo w x.marks hs p.marks
  end_ : x.end_ = p.end_

/-! What was read at w1 still reads so at w. -/
section
variable {lo lo' : Nat} {S : List Nat} {w1 w w' : World}
theorem LAt.nil {X : Type} [Enc X] (lo : Nat) (w : World) : LAt lo w SV.nil ([] : List X) := ⟨SliceOf.nil lo w, by simp⟩
theorem LAt.now {X : Type} [Enc X] {s : SV} {l : List X} (h : LAt lo w1 s l) (hs : Same lo' S w1 w) (hlo : lo' ≤ lo) (hS : ∀ b ∈ S, b < lo) : LAt lo w s l := ⟨h.sl.now hs hlo hS, h.big⟩
theorem LsAt.now {X Y : Type} [Enc X] {R : Nat → World → X → Y → Prop} (hR : ∀ x y, R lo w1 x y → R lo w x y) {s : SV} {hs : List X} {l : List Y} (h : LsAt R lo w1 s hs l) (hsm : Same lo' S w1 w) (hlo : lo' ≤ lo) (hS : ∀ b ∈ S, b < lo) : LsAt R lo w s hs l :=
  ⟨h.sl.now hsm hlo hS, h.big, h.each.mono hR⟩
theorem InAt.now {x : RInput} {p : PIn} (h : InAt lo w1 x p) (hs : Same lo' S w1 w) (hlo : lo' ≤ lo) (hS : ∀ b ∈ S, b < lo) : InAt lo w x p :=
  ⟨h.ctx.now hs hlo hS, h.tabs.imp fun _ k => k.now (fun _ _ q => q.now hs hlo hS) hs hlo hS⟩
theorem PieceAt.now {x : RPiece} {p : PPiece} (h : PieceAt lo w1 x p) (hs : Same lo' S w1 w) (hlo : lo' ≤ lo) (hS : ∀ b ∈ S, b < lo) : PieceAt lo w x p :=
  ⟨h.table, h.from_, h.old.now hs hlo hS, h.new.now hs hlo hS⟩
theorem StAt.now {x : RState} {p : PState} (h : StAt lo w1 x p) (hs : Same lo' S w1 w) (hlo : lo' ≤ lo) (hS : ∀ b ∈ S, b < lo) : StAt lo w x p :=
  ⟨h.regs, h.stack, h.ctx.now hs hlo hS, h.tabs.imp fun _ k => k.now (fun _ _ q => q.now hs hlo hS) hs hlo hS, h.sent.now hs hlo hS, h.at_, h.steps, h.done⟩
theorem MarkAt.now {x : RMark} {p : PMark} (h : MarkAt lo w1 x p) (hs : Same lo' S w1 w) (hlo : lo' ≤ lo) (hS : ∀ b ∈ S, b < lo) : MarkAt lo w x p :=
  ⟨h.at_, h.next, h.done, h.regs.now hs hlo hS, h.slots.now hs hlo hS, h.pieces.imp fun _ k => k.now (fun _ _ q => q.now hs hlo hS) hs hlo hS, h.sent.now hs hlo hS⟩
theorem RecAt.now {x : RRecord} {p : PRec} (h : RecAt lo w1 x p) (hs : Same lo' S w1 w) (hlo : lo' ≤ lo) (hS : ∀ b ∈ S, b < lo) : RecAt lo w x p :=
  ⟨h.inp.now hs hlo hS, h.marks.imp fun _ k => k.now (fun _ _ q => q.now hs hlo hS) hs hlo hS, h.end_⟩

theorem LAt.mono {X : Type} [Enc X] {s : SV} {l : List X} (h : LAt lo w s l) (hl : lo' ≤ lo) : LAt lo' w s l := ⟨h.sl.mono hl, h.big⟩
theorem LsAt.mono {X Y : Type} [Enc X] {R : Nat → World → X → Y → Prop} (hR : ∀ x y, R lo w x y → R lo' w x y) {s : SV} {hs : List X} {l : List Y} (h : LsAt R lo w s hs l) (hl : lo' ≤ lo) : LsAt R lo' w s hs l := ⟨h.sl.mono hl, h.big, h.each.mono hR⟩
theorem InAt.mono {x : RInput} {p : PIn} (h : InAt lo w x p) (hl : lo' ≤ lo) : InAt lo' w x p := ⟨h.ctx.mono hl, h.tabs.imp fun _ k => k.mono (fun _ _ q => q.mono hl) hl⟩
theorem PieceAt.mono {x : RPiece} {p : PPiece} (h : PieceAt lo w x p) (hl : lo' ≤ lo) : PieceAt lo' w x p := ⟨h.table, h.from_, h.old.mono hl, h.new.mono hl⟩
theorem StAt.mono {x : RState} {p : PState} (h : StAt lo w x p) (hl : lo' ≤ lo) : StAt lo' w x p :=
  ⟨h.regs, h.stack, h.ctx.mono hl, h.tabs.imp fun _ k => k.mono (fun _ _ q => q.mono hl) hl, h.sent.mono hl, h.at_, h.steps, h.done⟩
theorem MarkAt.mono {x : RMark} {p : PMark} (h : MarkAt lo w x p) (hl : lo' ≤ lo) : MarkAt lo' w x p :=
  ⟨h.at_, h.next, h.done, h.regs.mono hl, h.slots.mono hl, h.pieces.imp fun _ k => k.mono (fun _ _ q => q.mono hl) hl, h.sent.mono hl⟩
theorem RecAt.mono {x : RRecord} {p : PRec} (h : RecAt lo w x p) (hl : lo' ≤ lo) : RecAt lo' w x p := ⟨h.inp.mono hl, h.marks.imp fun _ k => k.mono (fun _ _ q => q.mono hl) hl, h.end_⟩

theorem Keeps.same (k : Keeps [] w w') : Same 0 [] w w' := ⟨k.size, fun j _ hj _ => k.block j hj (by simp)⟩
theorem LAt.keep {X : Type} [Enc X] {s : SV} {l : List X} (h : LAt lo w s l) (k : Keeps [] w w') : LAt lo w' s l := h.now k.same (Nat.zero_le _) (by simp)
theorem LsAt.keep {X Y : Type} [Enc X] {R : Nat → World → X → Y → Prop} (hR : ∀ x y, R lo w x y → R lo w' x y) {s : SV} {hs : List X} {l : List Y} (h : LsAt R lo w s hs l) (k : Keeps [] w w') : LsAt R lo w' s hs l := h.now hR k.same (Nat.zero_le _) (by simp)
theorem InAt.keep {x : RInput} {p : PIn} (h : InAt lo w x p) (k : Keeps [] w w') : InAt lo w' x p := h.now k.same (Nat.zero_le _) (by simp)
theorem PieceAt.keep {x : RPiece} {p : PPiece} (h : PieceAt lo w x p) (k : Keeps [] w w') : PieceAt lo w' x p := h.now k.same (Nat.zero_le _) (by simp)
theorem StAt.keep {x : RState} {p : PState} (h : StAt lo w x p) (k : Keeps [] w w') : StAt lo w' x p := h.now k.same (Nat.zero_le _) (by simp)
theorem MarkAt.keep {x : RMark} {p : PMark} (h : MarkAt lo w x p) (k : Keeps [] w w') : MarkAt lo w' x p := h.now k.same (Nat.zero_le _) (by simp)
theorem RecAt.keep {x : RRecord} {p : PRec} (h : RecAt lo w x p) (k : Keeps [] w w') : RecAt lo w' x p := h.now k.same (Nat.zero_le _) (by simp)
end
end Go.Fw
