/- MADE BY PROGRAM (gentypes.py): the program's struct types, their cells, and the laws on fields. No statement of the seat is proved here. -/
import Derived.Test.YtmgnkohlfbjjnaaGreatRFwMem
namespace Go.Fw
set_option linter.unusedSimpArgs false
set_option linter.unusedVariables false

instance : Enc Int := ⟨fun x => [.int .i64 x], 1, fun _ => rfl, fun x u hu => by simp at hu; subst hu; rfl, by decide⟩
instance : Enc UInt8 := ⟨fun x => [.int .u8 (x.toNat : Int)], 1, fun _ => rfl, fun x u hu => by simp at hu; subst hu; rfl, by decide⟩
instance : Enc SV := ⟨fun x => [x.v], 1, fun _ => rfl, fun x u hu => by simp at hu; subst hu; rfl, by decide⟩

/-- A list of a fixed length. -/
structure Vec (X : Type) (n : Nat) where
  l : List X
  h : l.length = n
deriving DecidableEq
theorem Vec.len {X : Type} {n : Nat} (x : Vec X n) : x.l.length = n := x.h
def Vec.set {X : Type} {n : Nat} (x : Vec X n) (i : Nat) (y : X) : Vec X n := ⟨x.l.set i y, by rw [List.length_set]; exact x.h⟩
theorem Vec.ext {X : Type} {n : Nat} {x y : Vec X n} (h : x.l = y.l) : x = y := by cases x; cases y; cases h; rfl
theorem Vec.get {X : Type} {n : Nat} (x : Vec X n) {i : Nat} (h : i < n) : ∃ y, x.l[i]? = some y := ⟨_, List.getElem?_eq_getElem (by rw [x.len]; exact h)⟩

theorem get_skip {s R : List Value} {m o : Nat} {v : Value} (h : s.length = m) (t : R[o]? = some v) : (s ++ R)[m + o]? = some v := by
  subst h; rw [List.getElem?_append_right (by omega)]; simpa using t
theorem set_skip {s R R' : List Value} {m o : Nat} {v : Value} (h : s.length = m) (t : R.set o v = R') : (s ++ R).set (m + o) v = s ++ R' := by
  subst h; rw [List.set_append_right _ _ (by omega)]; simp [t]
theorem cut_skip {s R y : List Value} {m o n : Nat} (h : s.length = m) (t : cut R o n = y) : cut (s ++ R) (m + o) n = y := by
  subst h; unfold cut at *; rw [List.drop_length_add_append]; exact t
theorem cut_cons {R y : List Value} {v : Value} {o n : Nat} (t : cut R o n = y) : cut (v :: R) (o + 1) n = y := t
theorem cut_head {s R : List Value} {n : Nat} (h : s.length = n) : cut (s ++ R) 0 n = s := by
  subst h; simp [cut]
theorem cut_all {s : List Value} {n : Nat} (h : s.length = n) : cut s 0 n = s := by
  subst h; simp [cut]
theorem cut_in {s R y : List Value} {o n : Nat} (h : o + n ≤ s.length) (t : cut s o n = y) : cut (s ++ R) o n = y := by
  unfold cut at *
  rw [List.drop_append_of_le_length (by omega), List.take_append_of_le_length (by simp; omega)]
  exact t
theorem cut_skip' {s R y : List Value} {m o n e : Nat} (h : s.length = m) (t : cut R (o + e) n = y) : cut (s ++ R) (m + o + e) n = y := by rw [Nat.add_assoc]; exact cut_skip h t
theorem cut_cons' {R y : List Value} {v : Value} {o n e : Nat} (t : cut R (o + e) n = y) : cut (v :: R) (o + 1 + e) n = y := by rw [Nat.add_right_comm]; exact cut_cons t
theorem put_skip {s R R' vs : List Value} {m o : Nat} (h : s.length = m) (t : put R o vs = R') : put (s ++ R) (m + o) vs = s ++ R' := by
  subst h; unfold put at *; rw [List.take_length_add_append, Nat.add_assoc, List.drop_length_add_append, ← t]; simp
theorem put_cons {R R' vs : List Value} {v : Value} {o : Nat} (t : put R o vs = R') : put (v :: R) (o + 1) vs = v :: R' := by
  unfold put at *; rw [Nat.add_right_comm]; simp [← t]
theorem put_head {s R vs : List Value} (h : s.length = vs.length) : put (s ++ R) 0 vs = vs ++ R := by
  unfold put; simp [← h]
theorem put_all {s vs : List Value} (h : s.length = vs.length) : put s 0 vs = vs := by
  unfold put; simp [← h]
theorem put_in {s R s' vs : List Value} {o n : Nat} (h : o + n ≤ s.length) (hv : vs.length = n) (t : put s o vs = s') : put (s ++ R) o vs = s' ++ R := by
  unfold put at *
  rw [List.take_append_of_le_length (by omega), List.drop_append_of_le_length (by omega), ← t]
  simp
theorem put_skip' {s R R' vs : List Value} {m o e : Nat} (h : s.length = m) (t : put R (o + e) vs = R') : put (s ++ R) (m + o + e) vs = s ++ R' := by rw [Nat.add_assoc]; exact put_skip h t
theorem put_cons' {R R' vs : List Value} {v : Value} {o e : Nat} (t : put R (o + e) vs = R') : put (v :: R) (o + 1 + e) vs = v :: R' := by rw [Nat.add_right_comm]; exact put_cons t
theorem encs_inN {X : Type} [Enc X] {l : List X} {i : Nat} (h : i < l.length) : i * Enc.sz X + Enc.sz X ≤ (encs l).length := by
  rw [encs_len, ← Nat.succ_mul]; exact Nat.mul_le_mul_right _ h
theorem encs_in {X : Type} [Enc X] {l : List X} {i : Nat} {y : X} (h : l[i]? = some y) : i * Enc.sz X + Enc.sz X ≤ (encs l).length := encs_inN (List.getElem?_eq_some_iff.1 h).1
theorem encs_put {X : Type} [Enc X] {l : List X} {i : Nat} {y : X} (h : i < l.length) : put (encs l) (i * Enc.sz X) (Enc.enc y) = encs (l.set i y) := by
  induction l generalizing i with
  | nil => simp at h
  | cons z l ih =>
    cases i with
    | zero =>
      simp only [Nat.zero_mul, List.set_cons_zero, encs_cons]
      exact put_head ((Enc.len _).trans (Enc.len _).symm)
    | succ i =>
      simp only [List.set_cons_succ, encs_cons]
      rw [show (i + 1) * Enc.sz X = Enc.sz X + i * Enc.sz X by rw [Nat.add_mul]; omega]
      exact put_skip (Enc.len _) (ih (by simpa using h))
theorem encs_vec {X : Type} [Enc X] {n : Nat} (x : Vec X n) : (encs x.l).length = n * Enc.sz X := by rw [encs_len, x.len]
theorem encs_get0 {X : Type} [Enc X] {l : List X} {i : Nat} {y : X} (h : l[i]? = some y) : cut (encs l) (0 + i * Enc.sz X) (Enc.sz X) = Enc.enc y := by rw [Nat.zero_add]; exact encs_get l i y h
theorem encs_in0 {X : Type} [Enc X] {l : List X} {i : Nat} {y : X} (h : l[i]? = some y) : 0 + i * Enc.sz X + Enc.sz X ≤ (encs l).length := by rw [Nat.zero_add]; exact encs_in h
theorem encs_inV {X : Type} [Enc X] {n : Nat} {v : Vec X n} {i : Nat} (h : i < n) : 0 + i * Enc.sz X + Enc.sz X ≤ (encs v.l).length := by rw [Nat.zero_add]; exact encs_inN (by rw [v.len]; exact h)
theorem encs_put0 {X : Type} [Enc X] {n : Nat} {v : Vec X n} {i : Nat} {y : X} (h : i < n) : put (encs v.l) (0 + i * Enc.sz X) (Enc.enc y) = encs (v.set i y).l := by rw [Nat.zero_add]; exact encs_put (by rw [v.len]; exact h)
theorem get_of_cut {l vs : List Value} {o n j : Nat} {v : Value} (h : cut l o n = vs) (t : vs[j]? = some v) : l[o + j]? = some v := by
  subst h; exact (cut_get _ _ _ _ _ t).2

structure LVal where
  kind : Int
  table : Int
  row : Int
  x : Int
deriving DecidableEq

def LVal.enc (x : LVal) : List Value := [.int .i64 x.kind, .int .i64 x.table, .int .i64 x.row, .int .i64 x.x]
theorem LVal.len (x : LVal) : x.enc.length = 4 := rfl
theorem LVal.one (x : LVal) : ∀ u ∈ x.enc, u.oneCell' = true := (List.forall_mem_cons.2 ⟨rfl, (List.forall_mem_cons.2 ⟨rfl, (List.forall_mem_cons.2 ⟨rfl, (List.forall_mem_cons.2 ⟨rfl, (fun _ h => absurd h List.not_mem_nil)⟩)⟩)⟩)⟩)
instance : Enc LVal := ⟨LVal.enc, 4, LVal.len, LVal.one, by decide⟩
theorem LVal.g_kind (x : LVal) : x.enc[0]? = some (.int .i64 x.kind) := rfl
theorem LVal.s_kind (x : LVal) (y : Int) : x.enc.set 0 (.int .i64 y) = { x with kind := y }.enc := rfl
theorem LVal.g_table (x : LVal) : x.enc[1]? = some (.int .i64 x.table) := rfl
theorem LVal.s_table (x : LVal) (y : Int) : x.enc.set 1 (.int .i64 y) = { x with table := y }.enc := (congrArg (List.cons _) rfl)
theorem LVal.g_row (x : LVal) : x.enc[2]? = some (.int .i64 x.row) := rfl
theorem LVal.s_row (x : LVal) (y : Int) : x.enc.set 2 (.int .i64 y) = { x with row := y }.enc := (congrArg (List.cons _) (congrArg (List.cons _) rfl))
theorem LVal.g_x (x : LVal) : x.enc[3]? = some (.int .i64 x.x) := rfl
theorem LVal.s_x (x : LVal) (y : Int) : x.enc.set 3 (.int .i64 y) = { x with x := y }.enc := (congrArg (List.cons _) (congrArg (List.cons _) (congrArg (List.cons _) rfl)))

structure LSlot where
  ptr : LVal
  bytes : Vec UInt8 8
  mask : Int
deriving DecidableEq

def LSlot.enc (x : LSlot) : List Value := LVal.enc x.ptr ++ (encs x.bytes.l ++ ([.int .i64 x.mask]))
theorem LSlot.len (x : LSlot) : x.enc.length = 13 := by
  have h0 : (LVal.enc x.ptr).length = 4 := LVal.len x.ptr
  have h1 : (encs x.bytes.l).length = 8 := encs_vec x.bytes
  simp [LSlot.enc, h0, h1]
theorem LSlot.one (x : LSlot) : ∀ u ∈ x.enc, u.oneCell' = true := (List.forall_mem_append.2 ⟨LVal.one x.ptr, (List.forall_mem_append.2 ⟨encs_ones x.bytes.l, (List.forall_mem_cons.2 ⟨rfl, (fun _ h => absurd h List.not_mem_nil)⟩)⟩)⟩)
instance : Enc LSlot := ⟨LSlot.enc, 13, LSlot.len, LSlot.one, by decide⟩
theorem LSlot.c_ptr (x : LSlot) : cut x.enc 0 4 = x.ptr.enc := (cut_head (n := 4) (LVal.len x.ptr))
theorem LSlot.p_ptr (x : LSlot) (y : LVal) : put x.enc 0 (y.enc) = { x with ptr := y }.enc := (put_head (Eq.trans (b := 4) (LVal.len x.ptr) (Eq.symm (LVal.len y))))
theorem LSlot.c_bytes (x : LSlot) : cut x.enc 4 8 = encs x.bytes.l := (cut_skip (m := 4) (o := 0) (LVal.len x.ptr) (cut_head (n := 8) (encs_vec x.bytes)))
theorem LSlot.p_bytes (x : LSlot) (y : Vec UInt8 8) : put x.enc 4 (encs y.l) = { x with bytes := y }.enc := (put_skip (m := 4) (o := 0) (LVal.len x.ptr) (put_head (Eq.trans (b := 8) (encs_vec x.bytes) (Eq.symm (encs_vec y)))))
theorem LSlot.ci_bytes (x : LSlot) (i : Nat) (y : UInt8) (h : x.bytes.l[i]? = some y) : cut x.enc (4 + i * 1) 1 = [.int .u8 (y.toNat : Int)] := (cut_skip' (m := 4) (o := 0) (e := i * 1) (LVal.len x.ptr) (cut_in (encs_in0 h) (encs_get0 h)))
theorem LSlot.pi_bytes (x : LSlot) (i : Nat) (y : UInt8) (h : i < 8) : put x.enc (4 + i * 1) ([.int .u8 (y.toNat : Int)]) = { x with bytes := x.bytes.set i y }.enc := (put_skip' (m := 4) (o := 0) (e := i * 1) (LVal.len x.ptr) (put_in (encs_inV (v := x.bytes) h) (Enc.len y) (encs_put0 (v := x.bytes) h)))
theorem LSlot.g_mask (x : LSlot) : x.enc[12]? = some (.int .i64 x.mask) := (get_skip (m := 4) (o := 8) (LVal.len x.ptr) (get_skip (m := 8) (o := 0) (encs_vec x.bytes) rfl))
theorem LSlot.s_mask (x : LSlot) (y : Int) : x.enc.set 12 (.int .i64 y) = { x with mask := y }.enc := (set_skip (m := 4) (o := 8) (LVal.len x.ptr) (set_skip (m := 8) (o := 0) (encs_vec x.bytes) rfl))
theorem LSlot.g_ptr_kind (x : LSlot) : x.enc[0 + 0]? = some (.int .i64 x.ptr.kind) := get_of_cut (LSlot.c_ptr x) (LVal.g_kind _)
theorem LSlot.g_ptr_table (x : LSlot) : x.enc[0 + 1]? = some (.int .i64 x.ptr.table) := get_of_cut (LSlot.c_ptr x) (LVal.g_table _)
theorem LSlot.g_ptr_row (x : LSlot) : x.enc[0 + 2]? = some (.int .i64 x.ptr.row) := get_of_cut (LSlot.c_ptr x) (LVal.g_row _)
theorem LSlot.g_ptr_x (x : LSlot) : x.enc[0 + 3]? = some (.int .i64 x.ptr.x) := get_of_cut (LSlot.c_ptr x) (LVal.g_x _)

structure LTurn where
  reg : Int
  old : LVal
  new : LVal
deriving DecidableEq

def LTurn.enc (x : LTurn) : List Value := .int .i64 x.reg :: LVal.enc x.old ++ (LVal.enc x.new)
theorem LTurn.len (x : LTurn) : x.enc.length = 9 := by
  have h0 : (LVal.enc x.old).length = 4 := LVal.len x.old
  have h1 : (LVal.enc x.new).length = 4 := LVal.len x.new
  simp [LTurn.enc, h0, h1]
theorem LTurn.one (x : LTurn) : ∀ u ∈ x.enc, u.oneCell' = true := (List.forall_mem_cons.2 ⟨rfl, (List.forall_mem_append.2 ⟨LVal.one x.old, (LVal.one x.new)⟩)⟩)
instance : Enc LTurn := ⟨LTurn.enc, 9, LTurn.len, LTurn.one, by decide⟩
theorem LTurn.g_reg (x : LTurn) : x.enc[0]? = some (.int .i64 x.reg) := rfl
theorem LTurn.s_reg (x : LTurn) (y : Int) : x.enc.set 0 (.int .i64 y) = { x with reg := y }.enc := rfl
theorem LTurn.c_old (x : LTurn) : cut x.enc 1 4 = x.old.enc := (cut_cons (o := 0) (cut_head (n := 4) (LVal.len x.old)))
theorem LTurn.p_old (x : LTurn) (y : LVal) : put x.enc 1 (y.enc) = { x with old := y }.enc := (put_cons (o := 0) (put_head (Eq.trans (b := 4) (LVal.len x.old) (Eq.symm (LVal.len y)))))
theorem LTurn.c_new (x : LTurn) : cut x.enc 5 4 = x.new.enc := (cut_cons (o := 4) (cut_skip (m := 4) (o := 0) (LVal.len x.old) (cut_all (n := 4) (LVal.len x.new))))
theorem LTurn.p_new (x : LTurn) (y : LVal) : put x.enc 5 (y.enc) = { x with new := y }.enc := (put_cons (o := 4) (put_skip (m := 4) (o := 0) (LVal.len x.old) (put_all (Eq.trans (b := 4) (LVal.len x.new) (Eq.symm (LVal.len y))))))
theorem LTurn.g_old_kind (x : LTurn) : x.enc[1 + 0]? = some (.int .i64 x.old.kind) := get_of_cut (LTurn.c_old x) (LVal.g_kind _)
theorem LTurn.g_old_table (x : LTurn) : x.enc[1 + 1]? = some (.int .i64 x.old.table) := get_of_cut (LTurn.c_old x) (LVal.g_table _)
theorem LTurn.g_old_row (x : LTurn) : x.enc[1 + 2]? = some (.int .i64 x.old.row) := get_of_cut (LTurn.c_old x) (LVal.g_row _)
theorem LTurn.g_old_x (x : LTurn) : x.enc[1 + 3]? = some (.int .i64 x.old.x) := get_of_cut (LTurn.c_old x) (LVal.g_x _)
theorem LTurn.g_new_kind (x : LTurn) : x.enc[5 + 0]? = some (.int .i64 x.new.kind) := get_of_cut (LTurn.c_new x) (LVal.g_kind _)
theorem LTurn.g_new_table (x : LTurn) : x.enc[5 + 1]? = some (.int .i64 x.new.table) := get_of_cut (LTurn.c_new x) (LVal.g_table _)
theorem LTurn.g_new_row (x : LTurn) : x.enc[5 + 2]? = some (.int .i64 x.new.row) := get_of_cut (LTurn.c_new x) (LVal.g_row _)
theorem LTurn.g_new_x (x : LTurn) : x.enc[5 + 3]? = some (.int .i64 x.new.x) := get_of_cut (LTurn.c_new x) (LVal.g_x _)

structure LCell where
  slot : Int
  old : LSlot
  new : LSlot
deriving DecidableEq

def LCell.enc (x : LCell) : List Value := .int .i64 x.slot :: LSlot.enc x.old ++ (LSlot.enc x.new)
theorem LCell.len (x : LCell) : x.enc.length = 27 := by
  have h0 : (LSlot.enc x.old).length = 13 := LSlot.len x.old
  have h1 : (LSlot.enc x.new).length = 13 := LSlot.len x.new
  simp [LCell.enc, h0, h1]
theorem LCell.one (x : LCell) : ∀ u ∈ x.enc, u.oneCell' = true := (List.forall_mem_cons.2 ⟨rfl, (List.forall_mem_append.2 ⟨LSlot.one x.old, (LSlot.one x.new)⟩)⟩)
instance : Enc LCell := ⟨LCell.enc, 27, LCell.len, LCell.one, by decide⟩
theorem LCell.g_slot (x : LCell) : x.enc[0]? = some (.int .i64 x.slot) := rfl
theorem LCell.s_slot (x : LCell) (y : Int) : x.enc.set 0 (.int .i64 y) = { x with slot := y }.enc := rfl
theorem LCell.c_old (x : LCell) : cut x.enc 1 13 = x.old.enc := (cut_cons (o := 0) (cut_head (n := 13) (LSlot.len x.old)))
theorem LCell.p_old (x : LCell) (y : LSlot) : put x.enc 1 (y.enc) = { x with old := y }.enc := (put_cons (o := 0) (put_head (Eq.trans (b := 13) (LSlot.len x.old) (Eq.symm (LSlot.len y)))))
theorem LCell.c_new (x : LCell) : cut x.enc 14 13 = x.new.enc := (cut_cons (o := 13) (cut_skip (m := 13) (o := 0) (LSlot.len x.old) (cut_all (n := 13) (LSlot.len x.new))))
theorem LCell.p_new (x : LCell) (y : LSlot) : put x.enc 14 (y.enc) = { x with new := y }.enc := (put_cons (o := 13) (put_skip (m := 13) (o := 0) (LSlot.len x.old) (put_all (Eq.trans (b := 13) (LSlot.len x.new) (Eq.symm (LSlot.len y))))))
theorem LCell.g_old_mask (x : LCell) : x.enc[1 + 12]? = some (.int .i64 x.old.mask) := get_of_cut (LCell.c_old x) (LSlot.g_mask _)
theorem LCell.g_new_mask (x : LCell) : x.enc[14 + 12]? = some (.int .i64 x.new.mask) := get_of_cut (LCell.c_new x) (LSlot.g_mask _)

structure RPiece where
  table : Int
  from_ : Int
  old : SV
  new : SV
deriving DecidableEq

def RPiece.enc (x : RPiece) : List Value := [.int .i64 x.table, .int .i64 x.from_, x.old.v, x.new.v]
theorem RPiece.len (x : RPiece) : x.enc.length = 4 := rfl
theorem RPiece.one (x : RPiece) : ∀ u ∈ x.enc, u.oneCell' = true := (List.forall_mem_cons.2 ⟨rfl, (List.forall_mem_cons.2 ⟨rfl, (List.forall_mem_cons.2 ⟨rfl, (List.forall_mem_cons.2 ⟨rfl, (fun _ h => absurd h List.not_mem_nil)⟩)⟩)⟩)⟩)
instance : Enc RPiece := ⟨RPiece.enc, 4, RPiece.len, RPiece.one, by decide⟩
theorem RPiece.g_table (x : RPiece) : x.enc[0]? = some (.int .i64 x.table) := rfl
theorem RPiece.s_table (x : RPiece) (y : Int) : x.enc.set 0 (.int .i64 y) = { x with table := y }.enc := rfl
theorem RPiece.g_from_ (x : RPiece) : x.enc[1]? = some (.int .i64 x.from_) := rfl
theorem RPiece.s_from_ (x : RPiece) (y : Int) : x.enc.set 1 (.int .i64 y) = { x with from_ := y }.enc := (congrArg (List.cons _) rfl)
theorem RPiece.g_old (x : RPiece) : x.enc[2]? = some (x.old.v) := rfl
theorem RPiece.s_old (x : RPiece) (y : SV) : x.enc.set 2 (y.v) = { x with old := y }.enc := (congrArg (List.cons _) (congrArg (List.cons _) rfl))
theorem RPiece.g_new (x : RPiece) : x.enc[3]? = some (x.new.v) := rfl
theorem RPiece.s_new (x : RPiece) (y : SV) : x.enc.set 3 (y.v) = { x with new := y }.enc := (congrArg (List.cons _) (congrArg (List.cons _) (congrArg (List.cons _) rfl)))

structure RMark where
  at_ : Int
  next : Int
  done : Bool
  regs : SV
  slots : SV
  pieces : SV
  sent : SV
deriving DecidableEq

def RMark.enc (x : RMark) : List Value := [.int .i64 x.at_, .int .i64 x.next, .bool x.done, x.regs.v, x.slots.v, x.pieces.v, x.sent.v]
theorem RMark.len (x : RMark) : x.enc.length = 7 := rfl
theorem RMark.one (x : RMark) : ∀ u ∈ x.enc, u.oneCell' = true := (List.forall_mem_cons.2 ⟨rfl, (List.forall_mem_cons.2 ⟨rfl, (List.forall_mem_cons.2 ⟨rfl, (List.forall_mem_cons.2 ⟨rfl, (List.forall_mem_cons.2 ⟨rfl, (List.forall_mem_cons.2 ⟨rfl, (List.forall_mem_cons.2 ⟨rfl, (fun _ h => absurd h List.not_mem_nil)⟩)⟩)⟩)⟩)⟩)⟩)⟩)
instance : Enc RMark := ⟨RMark.enc, 7, RMark.len, RMark.one, by decide⟩
theorem RMark.g_at_ (x : RMark) : x.enc[0]? = some (.int .i64 x.at_) := rfl
theorem RMark.s_at_ (x : RMark) (y : Int) : x.enc.set 0 (.int .i64 y) = { x with at_ := y }.enc := rfl
theorem RMark.g_next (x : RMark) : x.enc[1]? = some (.int .i64 x.next) := rfl
theorem RMark.s_next (x : RMark) (y : Int) : x.enc.set 1 (.int .i64 y) = { x with next := y }.enc := (congrArg (List.cons _) rfl)
theorem RMark.g_done (x : RMark) : x.enc[2]? = some (.bool x.done) := rfl
theorem RMark.s_done (x : RMark) (y : Bool) : x.enc.set 2 (.bool y) = { x with done := y }.enc := (congrArg (List.cons _) (congrArg (List.cons _) rfl))
theorem RMark.g_regs (x : RMark) : x.enc[3]? = some (x.regs.v) := rfl
theorem RMark.s_regs (x : RMark) (y : SV) : x.enc.set 3 (y.v) = { x with regs := y }.enc := (congrArg (List.cons _) (congrArg (List.cons _) (congrArg (List.cons _) rfl)))
theorem RMark.g_slots (x : RMark) : x.enc[4]? = some (x.slots.v) := rfl
theorem RMark.s_slots (x : RMark) (y : SV) : x.enc.set 4 (y.v) = { x with slots := y }.enc := (congrArg (List.cons _) (congrArg (List.cons _) (congrArg (List.cons _) (congrArg (List.cons _) rfl))))
theorem RMark.g_pieces (x : RMark) : x.enc[5]? = some (x.pieces.v) := rfl
theorem RMark.s_pieces (x : RMark) (y : SV) : x.enc.set 5 (y.v) = { x with pieces := y }.enc := (congrArg (List.cons _) (congrArg (List.cons _) (congrArg (List.cons _) (congrArg (List.cons _) (congrArg (List.cons _) rfl)))))
theorem RMark.g_sent (x : RMark) : x.enc[6]? = some (x.sent.v) := rfl
theorem RMark.s_sent (x : RMark) (y : SV) : x.enc.set 6 (y.v) = { x with sent := y }.enc := (congrArg (List.cons _) (congrArg (List.cons _) (congrArg (List.cons _) (congrArg (List.cons _) (congrArg (List.cons _) (congrArg (List.cons _) rfl))))))

structure RInput where
  ctx : SV
  tables : SV
deriving DecidableEq

def RInput.enc (x : RInput) : List Value := [x.ctx.v, x.tables.v]
theorem RInput.len (x : RInput) : x.enc.length = 2 := rfl
theorem RInput.one (x : RInput) : ∀ u ∈ x.enc, u.oneCell' = true := (List.forall_mem_cons.2 ⟨rfl, (List.forall_mem_cons.2 ⟨rfl, (fun _ h => absurd h List.not_mem_nil)⟩)⟩)
instance : Enc RInput := ⟨RInput.enc, 2, RInput.len, RInput.one, by decide⟩
theorem RInput.g_ctx (x : RInput) : x.enc[0]? = some (x.ctx.v) := rfl
theorem RInput.s_ctx (x : RInput) (y : SV) : x.enc.set 0 (y.v) = { x with ctx := y }.enc := rfl
theorem RInput.g_tables (x : RInput) : x.enc[1]? = some (x.tables.v) := rfl
theorem RInput.s_tables (x : RInput) (y : SV) : x.enc.set 1 (y.v) = { x with tables := y }.enc := (congrArg (List.cons _) rfl)

structure RRecord where
  in_ : RInput
  marks : SV
  end_ : Int
deriving DecidableEq

def RRecord.enc (x : RRecord) : List Value := RInput.enc x.in_ ++ (x.marks.v :: [.int .i64 x.end_])
theorem RRecord.len (x : RRecord) : x.enc.length = 4 := by
  have h0 : (RInput.enc x.in_).length = 2 := RInput.len x.in_
  simp [RRecord.enc, h0]
theorem RRecord.one (x : RRecord) : ∀ u ∈ x.enc, u.oneCell' = true := (List.forall_mem_append.2 ⟨RInput.one x.in_, (List.forall_mem_cons.2 ⟨rfl, (List.forall_mem_cons.2 ⟨rfl, (fun _ h => absurd h List.not_mem_nil)⟩)⟩)⟩)
instance : Enc RRecord := ⟨RRecord.enc, 4, RRecord.len, RRecord.one, by decide⟩
theorem RRecord.c_in_ (x : RRecord) : cut x.enc 0 2 = x.in_.enc := (cut_head (n := 2) (RInput.len x.in_))
theorem RRecord.p_in_ (x : RRecord) (y : RInput) : put x.enc 0 (y.enc) = { x with in_ := y }.enc := (put_head (Eq.trans (b := 2) (RInput.len x.in_) (Eq.symm (RInput.len y))))
theorem RRecord.g_marks (x : RRecord) : x.enc[2]? = some (x.marks.v) := (get_skip (m := 2) (o := 0) (RInput.len x.in_) rfl)
theorem RRecord.s_marks (x : RRecord) (y : SV) : x.enc.set 2 (y.v) = { x with marks := y }.enc := (set_skip (m := 2) (o := 0) (RInput.len x.in_) rfl)
theorem RRecord.g_end_ (x : RRecord) : x.enc[3]? = some (.int .i64 x.end_) := (get_skip (m := 2) (o := 1) (RInput.len x.in_) rfl)
theorem RRecord.s_end_ (x : RRecord) (y : Int) : x.enc.set 3 (.int .i64 y) = { x with end_ := y }.enc := (set_skip (m := 2) (o := 1) (RInput.len x.in_) (congrArg (List.cons _) rfl))
theorem RRecord.g_in__ctx (x : RRecord) : x.enc[0 + 0]? = some (x.in_.ctx.v) := get_of_cut (RRecord.c_in_ x) (RInput.g_ctx _)
theorem RRecord.g_in__tables (x : RRecord) : x.enc[0 + 1]? = some (x.in_.tables.v) := get_of_cut (RRecord.c_in_ x) (RInput.g_tables _)

structure LTbl where
  rows : Int
  wide : Int
deriving DecidableEq

def LTbl.enc (x : LTbl) : List Value := [.int .i64 x.rows, .int .i64 x.wide]
theorem LTbl.len (x : LTbl) : x.enc.length = 2 := rfl
theorem LTbl.one (x : LTbl) : ∀ u ∈ x.enc, u.oneCell' = true := (List.forall_mem_cons.2 ⟨rfl, (List.forall_mem_cons.2 ⟨rfl, (fun _ h => absurd h List.not_mem_nil)⟩)⟩)
instance : Enc LTbl := ⟨LTbl.enc, 2, LTbl.len, LTbl.one, by decide⟩
theorem LTbl.g_rows (x : LTbl) : x.enc[0]? = some (.int .i64 x.rows) := rfl
theorem LTbl.s_rows (x : LTbl) (y : Int) : x.enc.set 0 (.int .i64 y) = { x with rows := y }.enc := rfl
theorem LTbl.g_wide (x : LTbl) : x.enc[1]? = some (.int .i64 x.wide) := rfl
theorem LTbl.s_wide (x : LTbl) (y : Int) : x.enc.set 1 (.int .i64 y) = { x with wide := y }.enc := (congrArg (List.cons _) rfl)

structure LIns where
  op : Int
  narrow : Bool
  reg : Bool
  size : Int
  dst : Int
  src : Int
  off : Int
  imm : Int
deriving DecidableEq

def LIns.enc (x : LIns) : List Value := [.int .i64 x.op, .bool x.narrow, .bool x.reg, .int .i64 x.size, .int .i64 x.dst, .int .i64 x.src, .int .i64 x.off, .int .i64 x.imm]
theorem LIns.len (x : LIns) : x.enc.length = 8 := rfl
theorem LIns.one (x : LIns) : ∀ u ∈ x.enc, u.oneCell' = true := (List.forall_mem_cons.2 ⟨rfl, (List.forall_mem_cons.2 ⟨rfl, (List.forall_mem_cons.2 ⟨rfl, (List.forall_mem_cons.2 ⟨rfl, (List.forall_mem_cons.2 ⟨rfl, (List.forall_mem_cons.2 ⟨rfl, (List.forall_mem_cons.2 ⟨rfl, (List.forall_mem_cons.2 ⟨rfl, (fun _ h => absurd h List.not_mem_nil)⟩)⟩)⟩)⟩)⟩)⟩)⟩)⟩)
instance : Enc LIns := ⟨LIns.enc, 8, LIns.len, LIns.one, by decide⟩
theorem LIns.g_op (x : LIns) : x.enc[0]? = some (.int .i64 x.op) := rfl
theorem LIns.s_op (x : LIns) (y : Int) : x.enc.set 0 (.int .i64 y) = { x with op := y }.enc := rfl
theorem LIns.g_narrow (x : LIns) : x.enc[1]? = some (.bool x.narrow) := rfl
theorem LIns.s_narrow (x : LIns) (y : Bool) : x.enc.set 1 (.bool y) = { x with narrow := y }.enc := (congrArg (List.cons _) rfl)
theorem LIns.g_reg (x : LIns) : x.enc[2]? = some (.bool x.reg) := rfl
theorem LIns.s_reg (x : LIns) (y : Bool) : x.enc.set 2 (.bool y) = { x with reg := y }.enc := (congrArg (List.cons _) (congrArg (List.cons _) rfl))
theorem LIns.g_size (x : LIns) : x.enc[3]? = some (.int .i64 x.size) := rfl
theorem LIns.s_size (x : LIns) (y : Int) : x.enc.set 3 (.int .i64 y) = { x with size := y }.enc := (congrArg (List.cons _) (congrArg (List.cons _) (congrArg (List.cons _) rfl)))
theorem LIns.g_dst (x : LIns) : x.enc[4]? = some (.int .i64 x.dst) := rfl
theorem LIns.s_dst (x : LIns) (y : Int) : x.enc.set 4 (.int .i64 y) = { x with dst := y }.enc := (congrArg (List.cons _) (congrArg (List.cons _) (congrArg (List.cons _) (congrArg (List.cons _) rfl))))
theorem LIns.g_src (x : LIns) : x.enc[5]? = some (.int .i64 x.src) := rfl
theorem LIns.s_src (x : LIns) (y : Int) : x.enc.set 5 (.int .i64 y) = { x with src := y }.enc := (congrArg (List.cons _) (congrArg (List.cons _) (congrArg (List.cons _) (congrArg (List.cons _) (congrArg (List.cons _) rfl)))))
theorem LIns.g_off (x : LIns) : x.enc[6]? = some (.int .i64 x.off) := rfl
theorem LIns.s_off (x : LIns) (y : Int) : x.enc.set 6 (.int .i64 y) = { x with off := y }.enc := (congrArg (List.cons _) (congrArg (List.cons _) (congrArg (List.cons _) (congrArg (List.cons _) (congrArg (List.cons _) (congrArg (List.cons _) rfl))))))
theorem LIns.g_imm (x : LIns) : x.enc[7]? = some (.int .i64 x.imm) := rfl
theorem LIns.s_imm (x : LIns) (y : Int) : x.enc.set 7 (.int .i64 y) = { x with imm := y }.enc := (congrArg (List.cons _) (congrArg (List.cons _) (congrArg (List.cons _) (congrArg (List.cons _) (congrArg (List.cons _) (congrArg (List.cons _) (congrArg (List.cons _) rfl)))))))

structure RProgram where
  lo : Int
  hi : Int
  data : SV
  tables : SV
  code : SV
deriving DecidableEq

def RProgram.enc (x : RProgram) : List Value := [.int .i64 x.lo, .int .i64 x.hi, x.data.v, x.tables.v, x.code.v]
theorem RProgram.len (x : RProgram) : x.enc.length = 5 := rfl
theorem RProgram.one (x : RProgram) : ∀ u ∈ x.enc, u.oneCell' = true := (List.forall_mem_cons.2 ⟨rfl, (List.forall_mem_cons.2 ⟨rfl, (List.forall_mem_cons.2 ⟨rfl, (List.forall_mem_cons.2 ⟨rfl, (List.forall_mem_cons.2 ⟨rfl, (fun _ h => absurd h List.not_mem_nil)⟩)⟩)⟩)⟩)⟩)
instance : Enc RProgram := ⟨RProgram.enc, 5, RProgram.len, RProgram.one, by decide⟩
theorem RProgram.g_lo (x : RProgram) : x.enc[0]? = some (.int .i64 x.lo) := rfl
theorem RProgram.s_lo (x : RProgram) (y : Int) : x.enc.set 0 (.int .i64 y) = { x with lo := y }.enc := rfl
theorem RProgram.g_hi (x : RProgram) : x.enc[1]? = some (.int .i64 x.hi) := rfl
theorem RProgram.s_hi (x : RProgram) (y : Int) : x.enc.set 1 (.int .i64 y) = { x with hi := y }.enc := (congrArg (List.cons _) rfl)
theorem RProgram.g_data (x : RProgram) : x.enc[2]? = some (x.data.v) := rfl
theorem RProgram.s_data (x : RProgram) (y : SV) : x.enc.set 2 (y.v) = { x with data := y }.enc := (congrArg (List.cons _) (congrArg (List.cons _) rfl))
theorem RProgram.g_tables (x : RProgram) : x.enc[3]? = some (x.tables.v) := rfl
theorem RProgram.s_tables (x : RProgram) (y : SV) : x.enc.set 3 (y.v) = { x with tables := y }.enc := (congrArg (List.cons _) (congrArg (List.cons _) (congrArg (List.cons _) rfl)))
theorem RProgram.g_code (x : RProgram) : x.enc[4]? = some (x.code.v) := rfl
theorem RProgram.s_code (x : RProgram) (y : SV) : x.enc.set 4 (y.v) = { x with code := y }.enc := (congrArg (List.cons _) (congrArg (List.cons _) (congrArg (List.cons _) (congrArg (List.cons _) rfl))))

structure RState where
  regs : Vec LVal 11
  stack : Vec LSlot 32
  ctx : SV
  tables : SV
  sent : SV
  at_ : Int
  steps : Int
  done : Bool
deriving DecidableEq

def RState.enc (x : RState) : List Value := encs x.regs.l ++ (encs x.stack.l ++ (x.ctx.v :: x.tables.v :: x.sent.v :: .int .i64 x.at_ :: .int .i64 x.steps :: [.bool x.done]))
theorem RState.len (x : RState) : x.enc.length = 466 := by
  have h0 : (encs x.regs.l).length = 44 := encs_vec x.regs
  have h1 : (encs x.stack.l).length = 416 := encs_vec x.stack
  simp [RState.enc, h0, h1]
theorem RState.one (x : RState) : ∀ u ∈ x.enc, u.oneCell' = true := (List.forall_mem_append.2 ⟨encs_ones x.regs.l, (List.forall_mem_append.2 ⟨encs_ones x.stack.l, (List.forall_mem_cons.2 ⟨rfl, (List.forall_mem_cons.2 ⟨rfl, (List.forall_mem_cons.2 ⟨rfl, (List.forall_mem_cons.2 ⟨rfl, (List.forall_mem_cons.2 ⟨rfl, (List.forall_mem_cons.2 ⟨rfl, (fun _ h => absurd h List.not_mem_nil)⟩)⟩)⟩)⟩)⟩)⟩)⟩)⟩)
instance : Enc RState := ⟨RState.enc, 466, RState.len, RState.one, by decide⟩
theorem RState.c_regs (x : RState) : cut x.enc 0 44 = encs x.regs.l := (cut_head (n := 44) (encs_vec x.regs))
theorem RState.p_regs (x : RState) (y : Vec LVal 11) : put x.enc 0 (encs y.l) = { x with regs := y }.enc := (put_head (Eq.trans (b := 44) (encs_vec x.regs) (Eq.symm (encs_vec y))))
theorem RState.ci_regs (x : RState) (i : Nat) (y : LVal) (h : x.regs.l[i]? = some y) : cut x.enc (0 + i * 4) 4 = y.enc := (cut_in (encs_in0 h) (encs_get0 h))
theorem RState.pi_regs (x : RState) (i : Nat) (y : LVal) (h : i < 11) : put x.enc (0 + i * 4) (y.enc) = { x with regs := x.regs.set i y }.enc := (put_in (encs_inV (v := x.regs) h) (Enc.len y) (encs_put0 (v := x.regs) h))
theorem RState.c_stack (x : RState) : cut x.enc 44 416 = encs x.stack.l := (cut_skip (m := 44) (o := 0) (encs_vec x.regs) (cut_head (n := 416) (encs_vec x.stack)))
theorem RState.p_stack (x : RState) (y : Vec LSlot 32) : put x.enc 44 (encs y.l) = { x with stack := y }.enc := (put_skip (m := 44) (o := 0) (encs_vec x.regs) (put_head (Eq.trans (b := 416) (encs_vec x.stack) (Eq.symm (encs_vec y)))))
theorem RState.ci_stack (x : RState) (i : Nat) (y : LSlot) (h : x.stack.l[i]? = some y) : cut x.enc (44 + i * 13) 13 = y.enc := (cut_skip' (m := 44) (o := 0) (e := i * 13) (encs_vec x.regs) (cut_in (encs_in0 h) (encs_get0 h)))
theorem RState.pi_stack (x : RState) (i : Nat) (y : LSlot) (h : i < 32) : put x.enc (44 + i * 13) (y.enc) = { x with stack := x.stack.set i y }.enc := (put_skip' (m := 44) (o := 0) (e := i * 13) (encs_vec x.regs) (put_in (encs_inV (v := x.stack) h) (Enc.len y) (encs_put0 (v := x.stack) h)))
theorem RState.g_ctx (x : RState) : x.enc[460]? = some (x.ctx.v) := (get_skip (m := 44) (o := 416) (encs_vec x.regs) (get_skip (m := 416) (o := 0) (encs_vec x.stack) rfl))
theorem RState.s_ctx (x : RState) (y : SV) : x.enc.set 460 (y.v) = { x with ctx := y }.enc := (set_skip (m := 44) (o := 416) (encs_vec x.regs) (set_skip (m := 416) (o := 0) (encs_vec x.stack) rfl))
theorem RState.g_tables (x : RState) : x.enc[461]? = some (x.tables.v) := (get_skip (m := 44) (o := 417) (encs_vec x.regs) (get_skip (m := 416) (o := 1) (encs_vec x.stack) rfl))
theorem RState.s_tables (x : RState) (y : SV) : x.enc.set 461 (y.v) = { x with tables := y }.enc := (set_skip (m := 44) (o := 417) (encs_vec x.regs) (set_skip (m := 416) (o := 1) (encs_vec x.stack) (congrArg (List.cons _) rfl)))
theorem RState.g_sent (x : RState) : x.enc[462]? = some (x.sent.v) := (get_skip (m := 44) (o := 418) (encs_vec x.regs) (get_skip (m := 416) (o := 2) (encs_vec x.stack) rfl))
theorem RState.s_sent (x : RState) (y : SV) : x.enc.set 462 (y.v) = { x with sent := y }.enc := (set_skip (m := 44) (o := 418) (encs_vec x.regs) (set_skip (m := 416) (o := 2) (encs_vec x.stack) (congrArg (List.cons _) (congrArg (List.cons _) rfl))))
theorem RState.g_at_ (x : RState) : x.enc[463]? = some (.int .i64 x.at_) := (get_skip (m := 44) (o := 419) (encs_vec x.regs) (get_skip (m := 416) (o := 3) (encs_vec x.stack) rfl))
theorem RState.s_at_ (x : RState) (y : Int) : x.enc.set 463 (.int .i64 y) = { x with at_ := y }.enc := (set_skip (m := 44) (o := 419) (encs_vec x.regs) (set_skip (m := 416) (o := 3) (encs_vec x.stack) (congrArg (List.cons _) (congrArg (List.cons _) (congrArg (List.cons _) rfl)))))
theorem RState.g_steps (x : RState) : x.enc[464]? = some (.int .i64 x.steps) := (get_skip (m := 44) (o := 420) (encs_vec x.regs) (get_skip (m := 416) (o := 4) (encs_vec x.stack) rfl))
theorem RState.s_steps (x : RState) (y : Int) : x.enc.set 464 (.int .i64 y) = { x with steps := y }.enc := (set_skip (m := 44) (o := 420) (encs_vec x.regs) (set_skip (m := 416) (o := 4) (encs_vec x.stack) (congrArg (List.cons _) (congrArg (List.cons _) (congrArg (List.cons _) (congrArg (List.cons _) rfl))))))
theorem RState.g_done (x : RState) : x.enc[465]? = some (.bool x.done) := (get_skip (m := 44) (o := 421) (encs_vec x.regs) (get_skip (m := 416) (o := 5) (encs_vec x.stack) rfl))
theorem RState.s_done (x : RState) (y : Bool) : x.enc.set 465 (.bool y) = { x with done := y }.enc := (set_skip (m := 44) (o := 421) (encs_vec x.regs) (set_skip (m := 416) (o := 5) (encs_vec x.stack) (congrArg (List.cons _) (congrArg (List.cons _) (congrArg (List.cons _) (congrArg (List.cons _) (congrArg (List.cons _) rfl)))))))

structure ROutput where
  r0 : Int
  ctx : SV
  tables : SV
  sent : SV
deriving DecidableEq

def ROutput.enc (x : ROutput) : List Value := [.int .i64 x.r0, x.ctx.v, x.tables.v, x.sent.v]
theorem ROutput.len (x : ROutput) : x.enc.length = 4 := rfl
theorem ROutput.one (x : ROutput) : ∀ u ∈ x.enc, u.oneCell' = true := (List.forall_mem_cons.2 ⟨rfl, (List.forall_mem_cons.2 ⟨rfl, (List.forall_mem_cons.2 ⟨rfl, (List.forall_mem_cons.2 ⟨rfl, (fun _ h => absurd h List.not_mem_nil)⟩)⟩)⟩)⟩)
instance : Enc ROutput := ⟨ROutput.enc, 4, ROutput.len, ROutput.one, by decide⟩
theorem ROutput.g_r0 (x : ROutput) : x.enc[0]? = some (.int .i64 x.r0) := rfl
theorem ROutput.s_r0 (x : ROutput) (y : Int) : x.enc.set 0 (.int .i64 y) = { x with r0 := y }.enc := rfl
theorem ROutput.g_ctx (x : ROutput) : x.enc[1]? = some (x.ctx.v) := rfl
theorem ROutput.s_ctx (x : ROutput) (y : SV) : x.enc.set 1 (y.v) = { x with ctx := y }.enc := (congrArg (List.cons _) rfl)
theorem ROutput.g_tables (x : ROutput) : x.enc[2]? = some (x.tables.v) := rfl
theorem ROutput.s_tables (x : ROutput) (y : SV) : x.enc.set 2 (y.v) = { x with tables := y }.enc := (congrArg (List.cons _) (congrArg (List.cons _) rfl))
theorem ROutput.g_sent (x : ROutput) : x.enc[3]? = some (x.sent.v) := rfl
theorem ROutput.s_sent (x : ROutput) (y : SV) : x.enc.set 3 (y.v) = { x with sent := y }.enc := (congrArg (List.cons _) (congrArg (List.cons _) (congrArg (List.cons _) rfl)))

structure RWriter where
  b : SV
deriving DecidableEq

def RWriter.enc (x : RWriter) : List Value := [x.b.v]
theorem RWriter.len (x : RWriter) : x.enc.length = 1 := rfl
theorem RWriter.one (x : RWriter) : ∀ u ∈ x.enc, u.oneCell' = true := (List.forall_mem_cons.2 ⟨rfl, (fun _ h => absurd h List.not_mem_nil)⟩)
instance : Enc RWriter := ⟨RWriter.enc, 1, RWriter.len, RWriter.one, by decide⟩
theorem RWriter.g_b (x : RWriter) : x.enc[0]? = some (x.b.v) := rfl
theorem RWriter.s_b (x : RWriter) (y : SV) : x.enc.set 0 (y.v) = { x with b := y }.enc := rfl

structure RReader where
  b : SV
  at_ : Int
  place : Int
  e : Int
deriving DecidableEq

def RReader.enc (x : RReader) : List Value := [x.b.v, .int .i64 x.at_, .int .i64 x.place, .int .i64 x.e]
theorem RReader.len (x : RReader) : x.enc.length = 4 := rfl
theorem RReader.one (x : RReader) : ∀ u ∈ x.enc, u.oneCell' = true := (List.forall_mem_cons.2 ⟨rfl, (List.forall_mem_cons.2 ⟨rfl, (List.forall_mem_cons.2 ⟨rfl, (List.forall_mem_cons.2 ⟨rfl, (fun _ h => absurd h List.not_mem_nil)⟩)⟩)⟩)⟩)
instance : Enc RReader := ⟨RReader.enc, 4, RReader.len, RReader.one, by decide⟩
theorem RReader.g_b (x : RReader) : x.enc[0]? = some (x.b.v) := rfl
theorem RReader.s_b (x : RReader) (y : SV) : x.enc.set 0 (y.v) = { x with b := y }.enc := rfl
theorem RReader.g_at_ (x : RReader) : x.enc[1]? = some (.int .i64 x.at_) := rfl
theorem RReader.s_at_ (x : RReader) (y : Int) : x.enc.set 1 (.int .i64 y) = { x with at_ := y }.enc := (congrArg (List.cons _) rfl)
theorem RReader.g_place (x : RReader) : x.enc[2]? = some (.int .i64 x.place) := rfl
theorem RReader.s_place (x : RReader) (y : Int) : x.enc.set 2 (.int .i64 y) = { x with place := y }.enc := (congrArg (List.cons _) (congrArg (List.cons _) rfl))
theorem RReader.g_e (x : RReader) : x.enc[3]? = some (.int .i64 x.e) := rfl
theorem RReader.s_e (x : RReader) (y : Int) : x.enc.set 3 (.int .i64 y) = { x with e := y }.enc := (congrArg (List.cons _) (congrArg (List.cons _) (congrArg (List.cons _) rfl)))

structure RCursor where
  b : SV
  at_ : Int
  place : Int
  e : Int
deriving DecidableEq

def RCursor.enc (x : RCursor) : List Value := [x.b.v, .int .i64 x.at_, .int .i64 x.place, .int .i64 x.e]
theorem RCursor.len (x : RCursor) : x.enc.length = 4 := rfl
theorem RCursor.one (x : RCursor) : ∀ u ∈ x.enc, u.oneCell' = true := (List.forall_mem_cons.2 ⟨rfl, (List.forall_mem_cons.2 ⟨rfl, (List.forall_mem_cons.2 ⟨rfl, (List.forall_mem_cons.2 ⟨rfl, (fun _ h => absurd h List.not_mem_nil)⟩)⟩)⟩)⟩)
instance : Enc RCursor := ⟨RCursor.enc, 4, RCursor.len, RCursor.one, by decide⟩
theorem RCursor.g_b (x : RCursor) : x.enc[0]? = some (x.b.v) := rfl
theorem RCursor.s_b (x : RCursor) (y : SV) : x.enc.set 0 (y.v) = { x with b := y }.enc := rfl
theorem RCursor.g_at_ (x : RCursor) : x.enc[1]? = some (.int .i64 x.at_) := rfl
theorem RCursor.s_at_ (x : RCursor) (y : Int) : x.enc.set 1 (.int .i64 y) = { x with at_ := y }.enc := (congrArg (List.cons _) rfl)
theorem RCursor.g_place (x : RCursor) : x.enc[2]? = some (.int .i64 x.place) := rfl
theorem RCursor.s_place (x : RCursor) (y : Int) : x.enc.set 2 (.int .i64 y) = { x with place := y }.enc := (congrArg (List.cons _) (congrArg (List.cons _) rfl))
theorem RCursor.g_e (x : RCursor) : x.enc[3]? = some (.int .i64 x.e) := rfl
theorem RCursor.s_e (x : RCursor) (y : Int) : x.enc.set 3 (.int .i64 y) = { x with e := y }.enc := (congrArg (List.cons _) (congrArg (List.cons _) (congrArg (List.cons _) rfl)))

structure RMemory where
  stack : Vec LSlot 32
  ctx : SV
  tables : SV
  data : SV
  sizes : SV
deriving DecidableEq

def RMemory.enc (x : RMemory) : List Value := encs x.stack.l ++ (x.ctx.v :: x.tables.v :: x.data.v :: [x.sizes.v])
theorem RMemory.len (x : RMemory) : x.enc.length = 420 := by
  have h0 : (encs x.stack.l).length = 416 := encs_vec x.stack
  simp [RMemory.enc, h0]
theorem RMemory.one (x : RMemory) : ∀ u ∈ x.enc, u.oneCell' = true := (List.forall_mem_append.2 ⟨encs_ones x.stack.l, (List.forall_mem_cons.2 ⟨rfl, (List.forall_mem_cons.2 ⟨rfl, (List.forall_mem_cons.2 ⟨rfl, (List.forall_mem_cons.2 ⟨rfl, (fun _ h => absurd h List.not_mem_nil)⟩)⟩)⟩)⟩)⟩)
instance : Enc RMemory := ⟨RMemory.enc, 420, RMemory.len, RMemory.one, by decide⟩
theorem RMemory.c_stack (x : RMemory) : cut x.enc 0 416 = encs x.stack.l := (cut_head (n := 416) (encs_vec x.stack))
theorem RMemory.p_stack (x : RMemory) (y : Vec LSlot 32) : put x.enc 0 (encs y.l) = { x with stack := y }.enc := (put_head (Eq.trans (b := 416) (encs_vec x.stack) (Eq.symm (encs_vec y))))
theorem RMemory.ci_stack (x : RMemory) (i : Nat) (y : LSlot) (h : x.stack.l[i]? = some y) : cut x.enc (0 + i * 13) 13 = y.enc := (cut_in (encs_in0 h) (encs_get0 h))
theorem RMemory.pi_stack (x : RMemory) (i : Nat) (y : LSlot) (h : i < 32) : put x.enc (0 + i * 13) (y.enc) = { x with stack := x.stack.set i y }.enc := (put_in (encs_inV (v := x.stack) h) (Enc.len y) (encs_put0 (v := x.stack) h))
theorem RMemory.g_ctx (x : RMemory) : x.enc[416]? = some (x.ctx.v) := (get_skip (m := 416) (o := 0) (encs_vec x.stack) rfl)
theorem RMemory.s_ctx (x : RMemory) (y : SV) : x.enc.set 416 (y.v) = { x with ctx := y }.enc := (set_skip (m := 416) (o := 0) (encs_vec x.stack) rfl)
theorem RMemory.g_tables (x : RMemory) : x.enc[417]? = some (x.tables.v) := (get_skip (m := 416) (o := 1) (encs_vec x.stack) rfl)
theorem RMemory.s_tables (x : RMemory) (y : SV) : x.enc.set 417 (y.v) = { x with tables := y }.enc := (set_skip (m := 416) (o := 1) (encs_vec x.stack) (congrArg (List.cons _) rfl))
theorem RMemory.g_data (x : RMemory) : x.enc[418]? = some (x.data.v) := (get_skip (m := 416) (o := 2) (encs_vec x.stack) rfl)
theorem RMemory.s_data (x : RMemory) (y : SV) : x.enc.set 418 (y.v) = { x with data := y }.enc := (set_skip (m := 416) (o := 2) (encs_vec x.stack) (congrArg (List.cons _) (congrArg (List.cons _) rfl)))
theorem RMemory.g_sizes (x : RMemory) : x.enc[419]? = some (x.sizes.v) := (get_skip (m := 416) (o := 3) (encs_vec x.stack) rfl)
theorem RMemory.s_sizes (x : RMemory) (y : SV) : x.enc.set 419 (y.v) = { x with sizes := y }.enc := (set_skip (m := 416) (o := 3) (encs_vec x.stack) (congrArg (List.cons _) (congrArg (List.cons _) (congrArg (List.cons _) rfl))))

structure RMachine where
  memory : RMemory
  code : SV
  units : SV
  begin_ : Option Nat
  regs : Vec LVal 11
  sent : SV
  at_ : Int
  steps : Int
  done : Bool
deriving DecidableEq

def RMachine.enc (x : RMachine) : List Value := RMemory.enc x.memory ++ (x.code.v :: x.units.v :: .map x.begin_ :: encs x.regs.l ++ (x.sent.v :: .int .i64 x.at_ :: .int .i64 x.steps :: [.bool x.done]))
theorem RMachine.len (x : RMachine) : x.enc.length = 471 := by
  have h0 : (RMemory.enc x.memory).length = 420 := RMemory.len x.memory
  have h1 : (encs x.regs.l).length = 44 := encs_vec x.regs
  simp [RMachine.enc, h0, h1]
theorem RMachine.one (x : RMachine) : ∀ u ∈ x.enc, u.oneCell' = true := (List.forall_mem_append.2 ⟨RMemory.one x.memory, (List.forall_mem_cons.2 ⟨rfl, (List.forall_mem_cons.2 ⟨rfl, (List.forall_mem_cons.2 ⟨rfl, (List.forall_mem_append.2 ⟨encs_ones x.regs.l, (List.forall_mem_cons.2 ⟨rfl, (List.forall_mem_cons.2 ⟨rfl, (List.forall_mem_cons.2 ⟨rfl, (List.forall_mem_cons.2 ⟨rfl, (fun _ h => absurd h List.not_mem_nil)⟩)⟩)⟩)⟩)⟩)⟩)⟩)⟩)⟩)
instance : Enc RMachine := ⟨RMachine.enc, 471, RMachine.len, RMachine.one, by decide⟩
theorem RMachine.c_memory (x : RMachine) : cut x.enc 0 420 = x.memory.enc := (cut_head (n := 420) (RMemory.len x.memory))
theorem RMachine.p_memory (x : RMachine) (y : RMemory) : put x.enc 0 (y.enc) = { x with memory := y }.enc := (put_head (Eq.trans (b := 420) (RMemory.len x.memory) (Eq.symm (RMemory.len y))))
theorem RMachine.g_code (x : RMachine) : x.enc[420]? = some (x.code.v) := (get_skip (m := 420) (o := 0) (RMemory.len x.memory) rfl)
theorem RMachine.s_code (x : RMachine) (y : SV) : x.enc.set 420 (y.v) = { x with code := y }.enc := (set_skip (m := 420) (o := 0) (RMemory.len x.memory) rfl)
theorem RMachine.g_units (x : RMachine) : x.enc[421]? = some (x.units.v) := (get_skip (m := 420) (o := 1) (RMemory.len x.memory) rfl)
theorem RMachine.s_units (x : RMachine) (y : SV) : x.enc.set 421 (y.v) = { x with units := y }.enc := (set_skip (m := 420) (o := 1) (RMemory.len x.memory) (congrArg (List.cons _) rfl))
theorem RMachine.g_begin_ (x : RMachine) : x.enc[422]? = some (.map x.begin_) := (get_skip (m := 420) (o := 2) (RMemory.len x.memory) rfl)
theorem RMachine.s_begin_ (x : RMachine) (y : Option Nat) : x.enc.set 422 (.map y) = { x with begin_ := y }.enc := (set_skip (m := 420) (o := 2) (RMemory.len x.memory) (congrArg (List.cons _) (congrArg (List.cons _) rfl)))
theorem RMachine.c_regs (x : RMachine) : cut x.enc 423 44 = encs x.regs.l := (cut_skip (m := 420) (o := 3) (RMemory.len x.memory) (cut_cons (o := 2) (cut_cons (o := 1) (cut_cons (o := 0) (cut_head (n := 44) (encs_vec x.regs))))))
theorem RMachine.p_regs (x : RMachine) (y : Vec LVal 11) : put x.enc 423 (encs y.l) = { x with regs := y }.enc := (put_skip (m := 420) (o := 3) (RMemory.len x.memory) (put_cons (o := 2) (put_cons (o := 1) (put_cons (o := 0) (put_head (Eq.trans (b := 44) (encs_vec x.regs) (Eq.symm (encs_vec y))))))))
theorem RMachine.ci_regs (x : RMachine) (i : Nat) (y : LVal) (h : x.regs.l[i]? = some y) : cut x.enc (423 + i * 4) 4 = y.enc := (cut_skip' (m := 420) (o := 3) (e := i * 4) (RMemory.len x.memory) (cut_cons' (o := 2) (e := i * 4) (cut_cons' (o := 1) (e := i * 4) (cut_cons' (o := 0) (e := i * 4) (cut_in (encs_in0 h) (encs_get0 h))))))
theorem RMachine.pi_regs (x : RMachine) (i : Nat) (y : LVal) (h : i < 11) : put x.enc (423 + i * 4) (y.enc) = { x with regs := x.regs.set i y }.enc := (put_skip' (m := 420) (o := 3) (e := i * 4) (RMemory.len x.memory) (put_cons' (o := 2) (e := i * 4) (put_cons' (o := 1) (e := i * 4) (put_cons' (o := 0) (e := i * 4) (put_in (encs_inV (v := x.regs) h) (Enc.len y) (encs_put0 (v := x.regs) h))))))
theorem RMachine.g_sent (x : RMachine) : x.enc[467]? = some (x.sent.v) := (get_skip (m := 420) (o := 47) (RMemory.len x.memory) (get_skip (m := 44) (o := 0) (encs_vec x.regs) rfl))
theorem RMachine.s_sent (x : RMachine) (y : SV) : x.enc.set 467 (y.v) = { x with sent := y }.enc := (set_skip (m := 420) (o := 47) (RMemory.len x.memory) (congrArg (List.cons _) (congrArg (List.cons _) (congrArg (List.cons _) (set_skip (m := 44) (o := 0) (encs_vec x.regs) rfl)))))
theorem RMachine.g_at_ (x : RMachine) : x.enc[468]? = some (.int .i64 x.at_) := (get_skip (m := 420) (o := 48) (RMemory.len x.memory) (get_skip (m := 44) (o := 1) (encs_vec x.regs) rfl))
theorem RMachine.s_at_ (x : RMachine) (y : Int) : x.enc.set 468 (.int .i64 y) = { x with at_ := y }.enc := (set_skip (m := 420) (o := 48) (RMemory.len x.memory) (congrArg (List.cons _) (congrArg (List.cons _) (congrArg (List.cons _) (set_skip (m := 44) (o := 1) (encs_vec x.regs) (congrArg (List.cons _) rfl))))))
theorem RMachine.g_steps (x : RMachine) : x.enc[469]? = some (.int .i64 x.steps) := (get_skip (m := 420) (o := 49) (RMemory.len x.memory) (get_skip (m := 44) (o := 2) (encs_vec x.regs) rfl))
theorem RMachine.s_steps (x : RMachine) (y : Int) : x.enc.set 469 (.int .i64 y) = { x with steps := y }.enc := (set_skip (m := 420) (o := 49) (RMemory.len x.memory) (congrArg (List.cons _) (congrArg (List.cons _) (congrArg (List.cons _) (set_skip (m := 44) (o := 2) (encs_vec x.regs) (congrArg (List.cons _) (congrArg (List.cons _) rfl)))))))
theorem RMachine.g_done (x : RMachine) : x.enc[470]? = some (.bool x.done) := (get_skip (m := 420) (o := 50) (RMemory.len x.memory) (get_skip (m := 44) (o := 3) (encs_vec x.regs) rfl))
theorem RMachine.s_done (x : RMachine) (y : Bool) : x.enc.set 470 (.bool y) = { x with done := y }.enc := (set_skip (m := 420) (o := 50) (RMemory.len x.memory) (congrArg (List.cons _) (congrArg (List.cons _) (congrArg (List.cons _) (set_skip (m := 44) (o := 3) (encs_vec x.regs) (congrArg (List.cons _) (congrArg (List.cons _) (congrArg (List.cons _) rfl))))))))
theorem RMachine.g_memory_ctx (x : RMachine) : x.enc[0 + 416]? = some (x.memory.ctx.v) := get_of_cut (RMachine.c_memory x) (RMemory.g_ctx _)
theorem RMachine.g_memory_tables (x : RMachine) : x.enc[0 + 417]? = some (x.memory.tables.v) := get_of_cut (RMachine.c_memory x) (RMemory.g_tables _)
theorem RMachine.g_memory_data (x : RMachine) : x.enc[0 + 418]? = some (x.memory.data.v) := get_of_cut (RMachine.c_memory x) (RMemory.g_data _)
theorem RMachine.g_memory_sizes (x : RMachine) : x.enc[0 + 419]? = some (x.memory.sizes.v) := get_of_cut (RMachine.c_memory x) (RMemory.g_sizes _)

structure LCl where
  written : Bool
  byte : UInt8
  ptr : Int
  pos : Int
deriving DecidableEq

def LCl.enc (x : LCl) : List Value := [.bool x.written, .int .u8 (x.byte.toNat : Int), .int .i64 x.ptr, .int .i64 x.pos]
theorem LCl.len (x : LCl) : x.enc.length = 4 := rfl
theorem LCl.one (x : LCl) : ∀ u ∈ x.enc, u.oneCell' = true := (List.forall_mem_cons.2 ⟨rfl, (List.forall_mem_cons.2 ⟨rfl, (List.forall_mem_cons.2 ⟨rfl, (List.forall_mem_cons.2 ⟨rfl, (fun _ h => absurd h List.not_mem_nil)⟩)⟩)⟩)⟩)
instance : Enc LCl := ⟨LCl.enc, 4, LCl.len, LCl.one, by decide⟩
theorem LCl.g_written (x : LCl) : x.enc[0]? = some (.bool x.written) := rfl
theorem LCl.s_written (x : LCl) (y : Bool) : x.enc.set 0 (.bool y) = { x with written := y }.enc := rfl
theorem LCl.g_byte (x : LCl) : x.enc[1]? = some (.int .u8 (x.byte.toNat : Int)) := rfl
theorem LCl.s_byte (x : LCl) (y : UInt8) : x.enc.set 1 (.int .u8 (y.toNat : Int)) = { x with byte := y }.enc := (congrArg (List.cons _) rfl)
theorem LCl.g_ptr (x : LCl) : x.enc[2]? = some (.int .i64 x.ptr) := rfl
theorem LCl.s_ptr (x : LCl) (y : Int) : x.enc.set 2 (.int .i64 y) = { x with ptr := y }.enc := (congrArg (List.cons _) (congrArg (List.cons _) rfl))
theorem LCl.g_pos (x : LCl) : x.enc[3]? = some (.int .i64 x.pos) := rfl
theorem LCl.s_pos (x : LCl) (y : Int) : x.enc.set 3 (.int .i64 y) = { x with pos := y }.enc := (congrArg (List.cons _) (congrArg (List.cons _) (congrArg (List.cons _) rfl)))

structure RM where
  p : RProgram
  units : SV
  regs : Vec LVal 11
  cells : Vec LCl 256
  ptrs : SV
  ctx : SV
  tables : SV
  sent : SV
  at_ : Int
  steps : Int
  done : Bool
deriving DecidableEq

def RM.enc (x : RM) : List Value := RProgram.enc x.p ++ (x.units.v :: encs x.regs.l ++ (encs x.cells.l ++ (x.ptrs.v :: x.ctx.v :: x.tables.v :: x.sent.v :: .int .i64 x.at_ :: .int .i64 x.steps :: [.bool x.done])))
theorem RM.len (x : RM) : x.enc.length = 1081 := by
  have h0 : (RProgram.enc x.p).length = 5 := RProgram.len x.p
  have h1 : (encs x.regs.l).length = 44 := encs_vec x.regs
  have h2 : (encs x.cells.l).length = 1024 := encs_vec x.cells
  simp [RM.enc, h0, h1, h2]
theorem RM.one (x : RM) : ∀ u ∈ x.enc, u.oneCell' = true := (List.forall_mem_append.2 ⟨RProgram.one x.p, (List.forall_mem_cons.2 ⟨rfl, (List.forall_mem_append.2 ⟨encs_ones x.regs.l, (List.forall_mem_append.2 ⟨encs_ones x.cells.l, (List.forall_mem_cons.2 ⟨rfl, (List.forall_mem_cons.2 ⟨rfl, (List.forall_mem_cons.2 ⟨rfl, (List.forall_mem_cons.2 ⟨rfl, (List.forall_mem_cons.2 ⟨rfl, (List.forall_mem_cons.2 ⟨rfl, (List.forall_mem_cons.2 ⟨rfl, (fun _ h => absurd h List.not_mem_nil)⟩)⟩)⟩)⟩)⟩)⟩)⟩)⟩)⟩)⟩)⟩)
instance : Enc RM := ⟨RM.enc, 1081, RM.len, RM.one, by decide⟩
theorem RM.c_p (x : RM) : cut x.enc 0 5 = x.p.enc := (cut_head (n := 5) (RProgram.len x.p))
theorem RM.p_p (x : RM) (y : RProgram) : put x.enc 0 (y.enc) = { x with p := y }.enc := (put_head (Eq.trans (b := 5) (RProgram.len x.p) (Eq.symm (RProgram.len y))))
theorem RM.g_units (x : RM) : x.enc[5]? = some (x.units.v) := (get_skip (m := 5) (o := 0) (RProgram.len x.p) rfl)
theorem RM.s_units (x : RM) (y : SV) : x.enc.set 5 (y.v) = { x with units := y }.enc := (set_skip (m := 5) (o := 0) (RProgram.len x.p) rfl)
theorem RM.c_regs (x : RM) : cut x.enc 6 44 = encs x.regs.l := (cut_skip (m := 5) (o := 1) (RProgram.len x.p) (cut_cons (o := 0) (cut_head (n := 44) (encs_vec x.regs))))
theorem RM.p_regs (x : RM) (y : Vec LVal 11) : put x.enc 6 (encs y.l) = { x with regs := y }.enc := (put_skip (m := 5) (o := 1) (RProgram.len x.p) (put_cons (o := 0) (put_head (Eq.trans (b := 44) (encs_vec x.regs) (Eq.symm (encs_vec y))))))
theorem RM.ci_regs (x : RM) (i : Nat) (y : LVal) (h : x.regs.l[i]? = some y) : cut x.enc (6 + i * 4) 4 = y.enc := (cut_skip' (m := 5) (o := 1) (e := i * 4) (RProgram.len x.p) (cut_cons' (o := 0) (e := i * 4) (cut_in (encs_in0 h) (encs_get0 h))))
theorem RM.pi_regs (x : RM) (i : Nat) (y : LVal) (h : i < 11) : put x.enc (6 + i * 4) (y.enc) = { x with regs := x.regs.set i y }.enc := (put_skip' (m := 5) (o := 1) (e := i * 4) (RProgram.len x.p) (put_cons' (o := 0) (e := i * 4) (put_in (encs_inV (v := x.regs) h) (Enc.len y) (encs_put0 (v := x.regs) h))))
theorem RM.c_cells (x : RM) : cut x.enc 50 1024 = encs x.cells.l := (cut_skip (m := 5) (o := 45) (RProgram.len x.p) (cut_cons (o := 44) (cut_skip (m := 44) (o := 0) (encs_vec x.regs) (cut_head (n := 1024) (encs_vec x.cells)))))
theorem RM.p_cells (x : RM) (y : Vec LCl 256) : put x.enc 50 (encs y.l) = { x with cells := y }.enc := (put_skip (m := 5) (o := 45) (RProgram.len x.p) (put_cons (o := 44) (put_skip (m := 44) (o := 0) (encs_vec x.regs) (put_head (Eq.trans (b := 1024) (encs_vec x.cells) (Eq.symm (encs_vec y)))))))
theorem RM.ci_cells (x : RM) (i : Nat) (y : LCl) (h : x.cells.l[i]? = some y) : cut x.enc (50 + i * 4) 4 = y.enc := (cut_skip' (m := 5) (o := 45) (e := i * 4) (RProgram.len x.p) (cut_cons' (o := 44) (e := i * 4) (cut_skip' (m := 44) (o := 0) (e := i * 4) (encs_vec x.regs) (cut_in (encs_in0 h) (encs_get0 h)))))
theorem RM.pi_cells (x : RM) (i : Nat) (y : LCl) (h : i < 256) : put x.enc (50 + i * 4) (y.enc) = { x with cells := x.cells.set i y }.enc := (put_skip' (m := 5) (o := 45) (e := i * 4) (RProgram.len x.p) (put_cons' (o := 44) (e := i * 4) (put_skip' (m := 44) (o := 0) (e := i * 4) (encs_vec x.regs) (put_in (encs_inV (v := x.cells) h) (Enc.len y) (encs_put0 (v := x.cells) h)))))
theorem RM.g_ptrs (x : RM) : x.enc[1074]? = some (x.ptrs.v) := (get_skip (m := 5) (o := 1069) (RProgram.len x.p) (get_skip (m := 44) (o := 1024) (encs_vec x.regs) (get_skip (m := 1024) (o := 0) (encs_vec x.cells) rfl)))
theorem RM.s_ptrs (x : RM) (y : SV) : x.enc.set 1074 (y.v) = { x with ptrs := y }.enc := (set_skip (m := 5) (o := 1069) (RProgram.len x.p) (congrArg (List.cons _) (set_skip (m := 44) (o := 1024) (encs_vec x.regs) (set_skip (m := 1024) (o := 0) (encs_vec x.cells) rfl))))
theorem RM.g_ctx (x : RM) : x.enc[1075]? = some (x.ctx.v) := (get_skip (m := 5) (o := 1070) (RProgram.len x.p) (get_skip (m := 44) (o := 1025) (encs_vec x.regs) (get_skip (m := 1024) (o := 1) (encs_vec x.cells) rfl)))
theorem RM.s_ctx (x : RM) (y : SV) : x.enc.set 1075 (y.v) = { x with ctx := y }.enc := (set_skip (m := 5) (o := 1070) (RProgram.len x.p) (congrArg (List.cons _) (set_skip (m := 44) (o := 1025) (encs_vec x.regs) (set_skip (m := 1024) (o := 1) (encs_vec x.cells) (congrArg (List.cons _) rfl)))))
theorem RM.g_tables (x : RM) : x.enc[1076]? = some (x.tables.v) := (get_skip (m := 5) (o := 1071) (RProgram.len x.p) (get_skip (m := 44) (o := 1026) (encs_vec x.regs) (get_skip (m := 1024) (o := 2) (encs_vec x.cells) rfl)))
theorem RM.s_tables (x : RM) (y : SV) : x.enc.set 1076 (y.v) = { x with tables := y }.enc := (set_skip (m := 5) (o := 1071) (RProgram.len x.p) (congrArg (List.cons _) (set_skip (m := 44) (o := 1026) (encs_vec x.regs) (set_skip (m := 1024) (o := 2) (encs_vec x.cells) (congrArg (List.cons _) (congrArg (List.cons _) rfl))))))
theorem RM.g_sent (x : RM) : x.enc[1077]? = some (x.sent.v) := (get_skip (m := 5) (o := 1072) (RProgram.len x.p) (get_skip (m := 44) (o := 1027) (encs_vec x.regs) (get_skip (m := 1024) (o := 3) (encs_vec x.cells) rfl)))
theorem RM.s_sent (x : RM) (y : SV) : x.enc.set 1077 (y.v) = { x with sent := y }.enc := (set_skip (m := 5) (o := 1072) (RProgram.len x.p) (congrArg (List.cons _) (set_skip (m := 44) (o := 1027) (encs_vec x.regs) (set_skip (m := 1024) (o := 3) (encs_vec x.cells) (congrArg (List.cons _) (congrArg (List.cons _) (congrArg (List.cons _) rfl)))))))
theorem RM.g_at_ (x : RM) : x.enc[1078]? = some (.int .i64 x.at_) := (get_skip (m := 5) (o := 1073) (RProgram.len x.p) (get_skip (m := 44) (o := 1028) (encs_vec x.regs) (get_skip (m := 1024) (o := 4) (encs_vec x.cells) rfl)))
theorem RM.s_at_ (x : RM) (y : Int) : x.enc.set 1078 (.int .i64 y) = { x with at_ := y }.enc := (set_skip (m := 5) (o := 1073) (RProgram.len x.p) (congrArg (List.cons _) (set_skip (m := 44) (o := 1028) (encs_vec x.regs) (set_skip (m := 1024) (o := 4) (encs_vec x.cells) (congrArg (List.cons _) (congrArg (List.cons _) (congrArg (List.cons _) (congrArg (List.cons _) rfl))))))))
theorem RM.g_steps (x : RM) : x.enc[1079]? = some (.int .i64 x.steps) := (get_skip (m := 5) (o := 1074) (RProgram.len x.p) (get_skip (m := 44) (o := 1029) (encs_vec x.regs) (get_skip (m := 1024) (o := 5) (encs_vec x.cells) rfl)))
theorem RM.s_steps (x : RM) (y : Int) : x.enc.set 1079 (.int .i64 y) = { x with steps := y }.enc := (set_skip (m := 5) (o := 1074) (RProgram.len x.p) (congrArg (List.cons _) (set_skip (m := 44) (o := 1029) (encs_vec x.regs) (set_skip (m := 1024) (o := 5) (encs_vec x.cells) (congrArg (List.cons _) (congrArg (List.cons _) (congrArg (List.cons _) (congrArg (List.cons _) (congrArg (List.cons _) rfl)))))))))
theorem RM.g_done (x : RM) : x.enc[1080]? = some (.bool x.done) := (get_skip (m := 5) (o := 1075) (RProgram.len x.p) (get_skip (m := 44) (o := 1030) (encs_vec x.regs) (get_skip (m := 1024) (o := 6) (encs_vec x.cells) rfl)))
theorem RM.s_done (x : RM) (y : Bool) : x.enc.set 1080 (.bool y) = { x with done := y }.enc := (set_skip (m := 5) (o := 1075) (RProgram.len x.p) (congrArg (List.cons _) (set_skip (m := 44) (o := 1030) (encs_vec x.regs) (set_skip (m := 1024) (o := 6) (encs_vec x.cells) (congrArg (List.cons _) (congrArg (List.cons _) (congrArg (List.cons _) (congrArg (List.cons _) (congrArg (List.cons _) (congrArg (List.cons _) rfl))))))))))
theorem RM.g_p_lo (x : RM) : x.enc[0 + 0]? = some (.int .i64 x.p.lo) := get_of_cut (RM.c_p x) (RProgram.g_lo _)
theorem RM.g_p_hi (x : RM) : x.enc[0 + 1]? = some (.int .i64 x.p.hi) := get_of_cut (RM.c_p x) (RProgram.g_hi _)
theorem RM.g_p_data (x : RM) : x.enc[0 + 2]? = some (x.p.data.v) := get_of_cut (RM.c_p x) (RProgram.g_data _)
theorem RM.g_p_tables (x : RM) : x.enc[0 + 3]? = some (x.p.tables.v) := get_of_cut (RM.c_p x) (RProgram.g_tables _)
theorem RM.g_p_code (x : RM) : x.enc[0 + 4]? = some (x.p.code.v) := get_of_cut (RM.c_p x) (RProgram.g_code _)

structure LRw where
  code : Int
  op : Int
  size : Int
  narrow : Bool
  reg : Bool
  dst : Int
  src : Int
  off : Int
  imm : Int
  second : Int
  writes : Bool
deriving DecidableEq

def LRw.enc (x : LRw) : List Value := [.int .i64 x.code, .int .i64 x.op, .int .i64 x.size, .bool x.narrow, .bool x.reg, .int .i64 x.dst, .int .i64 x.src, .int .i64 x.off, .int .i64 x.imm, .int .i64 x.second, .bool x.writes]
theorem LRw.len (x : LRw) : x.enc.length = 11 := rfl
theorem LRw.one (x : LRw) : ∀ u ∈ x.enc, u.oneCell' = true := (List.forall_mem_cons.2 ⟨rfl, (List.forall_mem_cons.2 ⟨rfl, (List.forall_mem_cons.2 ⟨rfl, (List.forall_mem_cons.2 ⟨rfl, (List.forall_mem_cons.2 ⟨rfl, (List.forall_mem_cons.2 ⟨rfl, (List.forall_mem_cons.2 ⟨rfl, (List.forall_mem_cons.2 ⟨rfl, (List.forall_mem_cons.2 ⟨rfl, (List.forall_mem_cons.2 ⟨rfl, (List.forall_mem_cons.2 ⟨rfl, (fun _ h => absurd h List.not_mem_nil)⟩)⟩)⟩)⟩)⟩)⟩)⟩)⟩)⟩)⟩)⟩)
instance : Enc LRw := ⟨LRw.enc, 11, LRw.len, LRw.one, by decide⟩
theorem LRw.g_code (x : LRw) : x.enc[0]? = some (.int .i64 x.code) := rfl
theorem LRw.s_code (x : LRw) (y : Int) : x.enc.set 0 (.int .i64 y) = { x with code := y }.enc := rfl
theorem LRw.g_op (x : LRw) : x.enc[1]? = some (.int .i64 x.op) := rfl
theorem LRw.s_op (x : LRw) (y : Int) : x.enc.set 1 (.int .i64 y) = { x with op := y }.enc := (congrArg (List.cons _) rfl)
theorem LRw.g_size (x : LRw) : x.enc[2]? = some (.int .i64 x.size) := rfl
theorem LRw.s_size (x : LRw) (y : Int) : x.enc.set 2 (.int .i64 y) = { x with size := y }.enc := (congrArg (List.cons _) (congrArg (List.cons _) rfl))
theorem LRw.g_narrow (x : LRw) : x.enc[3]? = some (.bool x.narrow) := rfl
theorem LRw.s_narrow (x : LRw) (y : Bool) : x.enc.set 3 (.bool y) = { x with narrow := y }.enc := (congrArg (List.cons _) (congrArg (List.cons _) (congrArg (List.cons _) rfl)))
theorem LRw.g_reg (x : LRw) : x.enc[4]? = some (.bool x.reg) := rfl
theorem LRw.s_reg (x : LRw) (y : Bool) : x.enc.set 4 (.bool y) = { x with reg := y }.enc := (congrArg (List.cons _) (congrArg (List.cons _) (congrArg (List.cons _) (congrArg (List.cons _) rfl))))
theorem LRw.g_dst (x : LRw) : x.enc[5]? = some (.int .i64 x.dst) := rfl
theorem LRw.s_dst (x : LRw) (y : Int) : x.enc.set 5 (.int .i64 y) = { x with dst := y }.enc := (congrArg (List.cons _) (congrArg (List.cons _) (congrArg (List.cons _) (congrArg (List.cons _) (congrArg (List.cons _) rfl)))))
theorem LRw.g_src (x : LRw) : x.enc[6]? = some (.int .i64 x.src) := rfl
theorem LRw.s_src (x : LRw) (y : Int) : x.enc.set 6 (.int .i64 y) = { x with src := y }.enc := (congrArg (List.cons _) (congrArg (List.cons _) (congrArg (List.cons _) (congrArg (List.cons _) (congrArg (List.cons _) (congrArg (List.cons _) rfl))))))
theorem LRw.g_off (x : LRw) : x.enc[7]? = some (.int .i64 x.off) := rfl
theorem LRw.s_off (x : LRw) (y : Int) : x.enc.set 7 (.int .i64 y) = { x with off := y }.enc := (congrArg (List.cons _) (congrArg (List.cons _) (congrArg (List.cons _) (congrArg (List.cons _) (congrArg (List.cons _) (congrArg (List.cons _) (congrArg (List.cons _) rfl)))))))
theorem LRw.g_imm (x : LRw) : x.enc[8]? = some (.int .i64 x.imm) := rfl
theorem LRw.s_imm (x : LRw) (y : Int) : x.enc.set 8 (.int .i64 y) = { x with imm := y }.enc := (congrArg (List.cons _) (congrArg (List.cons _) (congrArg (List.cons _) (congrArg (List.cons _) (congrArg (List.cons _) (congrArg (List.cons _) (congrArg (List.cons _) (congrArg (List.cons _) rfl))))))))
theorem LRw.g_second (x : LRw) : x.enc[9]? = some (.int .i64 x.second) := rfl
theorem LRw.s_second (x : LRw) (y : Int) : x.enc.set 9 (.int .i64 y) = { x with second := y }.enc := (congrArg (List.cons _) (congrArg (List.cons _) (congrArg (List.cons _) (congrArg (List.cons _) (congrArg (List.cons _) (congrArg (List.cons _) (congrArg (List.cons _) (congrArg (List.cons _) (congrArg (List.cons _) rfl)))))))))
theorem LRw.g_writes (x : LRw) : x.enc[10]? = some (.bool x.writes) := rfl
theorem LRw.s_writes (x : LRw) (y : Bool) : x.enc.set 10 (.bool y) = { x with writes := y }.enc := (congrArg (List.cons _) (congrArg (List.cons _) (congrArg (List.cons _) (congrArg (List.cons _) (congrArg (List.cons _) (congrArg (List.cons _) (congrArg (List.cons _) (congrArg (List.cons _) (congrArg (List.cons _) (congrArg (List.cons _) rfl))))))))))

structure LSpan where
  lo : Int
  hi : Int
  noLo : Bool
  noHi : Bool
deriving DecidableEq

def LSpan.enc (x : LSpan) : List Value := [.int .i64 x.lo, .int .i64 x.hi, .bool x.noLo, .bool x.noHi]
theorem LSpan.len (x : LSpan) : x.enc.length = 4 := rfl
theorem LSpan.one (x : LSpan) : ∀ u ∈ x.enc, u.oneCell' = true := (List.forall_mem_cons.2 ⟨rfl, (List.forall_mem_cons.2 ⟨rfl, (List.forall_mem_cons.2 ⟨rfl, (List.forall_mem_cons.2 ⟨rfl, (fun _ h => absurd h List.not_mem_nil)⟩)⟩)⟩)⟩)
instance : Enc LSpan := ⟨LSpan.enc, 4, LSpan.len, LSpan.one, by decide⟩
theorem LSpan.g_lo (x : LSpan) : x.enc[0]? = some (.int .i64 x.lo) := rfl
theorem LSpan.s_lo (x : LSpan) (y : Int) : x.enc.set 0 (.int .i64 y) = { x with lo := y }.enc := rfl
theorem LSpan.g_hi (x : LSpan) : x.enc[1]? = some (.int .i64 x.hi) := rfl
theorem LSpan.s_hi (x : LSpan) (y : Int) : x.enc.set 1 (.int .i64 y) = { x with hi := y }.enc := (congrArg (List.cons _) rfl)
theorem LSpan.g_noLo (x : LSpan) : x.enc[2]? = some (.bool x.noLo) := rfl
theorem LSpan.s_noLo (x : LSpan) (y : Bool) : x.enc.set 2 (.bool y) = { x with noLo := y }.enc := (congrArg (List.cons _) (congrArg (List.cons _) rfl))
theorem LSpan.g_noHi (x : LSpan) : x.enc[3]? = some (.bool x.noHi) := rfl
theorem LSpan.s_noHi (x : LSpan) (y : Bool) : x.enc.set 3 (.bool y) = { x with noHi := y }.enc := (congrArg (List.cons _) (congrArg (List.cons _) (congrArg (List.cons _) rfl)))

structure RSig where
  args : SV
  ret : LSpan
deriving DecidableEq

def RSig.enc (x : RSig) : List Value := x.args.v :: LSpan.enc x.ret
theorem RSig.len (x : RSig) : x.enc.length = 5 := by
  have h0 : (LSpan.enc x.ret).length = 4 := LSpan.len x.ret
  simp [RSig.enc, h0]
theorem RSig.one (x : RSig) : ∀ u ∈ x.enc, u.oneCell' = true := (List.forall_mem_cons.2 ⟨rfl, (LSpan.one x.ret)⟩)
instance : Enc RSig := ⟨RSig.enc, 5, RSig.len, RSig.one, by decide⟩
theorem RSig.g_args (x : RSig) : x.enc[0]? = some (x.args.v) := rfl
theorem RSig.s_args (x : RSig) (y : SV) : x.enc.set 0 (y.v) = { x with args := y }.enc := rfl
theorem RSig.c_ret (x : RSig) : cut x.enc 1 4 = x.ret.enc := (cut_cons (o := 0) (cut_all (n := 4) (LSpan.len x.ret)))
theorem RSig.p_ret (x : RSig) (y : LSpan) : put x.enc 1 (y.enc) = { x with ret := y }.enc := (put_cons (o := 0) (put_all (Eq.trans (b := 4) (LSpan.len x.ret) (Eq.symm (LSpan.len y)))))
theorem RSig.g_ret_lo (x : RSig) : x.enc[1 + 0]? = some (.int .i64 x.ret.lo) := get_of_cut (RSig.c_ret x) (LSpan.g_lo _)
theorem RSig.g_ret_hi (x : RSig) : x.enc[1 + 1]? = some (.int .i64 x.ret.hi) := get_of_cut (RSig.c_ret x) (LSpan.g_hi _)
theorem RSig.g_ret_noLo (x : RSig) : x.enc[1 + 2]? = some (.bool x.ret.noLo) := get_of_cut (RSig.c_ret x) (LSpan.g_noLo _)
theorem RSig.g_ret_noHi (x : RSig) : x.enc[1 + 3]? = some (.bool x.ret.noHi) := get_of_cut (RSig.c_ret x) (LSpan.g_noHi _)

structure RLender where
  room : SV
deriving DecidableEq

def RLender.enc (x : RLender) : List Value := [x.room.v]
theorem RLender.len (x : RLender) : x.enc.length = 1 := rfl
theorem RLender.one (x : RLender) : ∀ u ∈ x.enc, u.oneCell' = true := (List.forall_mem_cons.2 ⟨rfl, (fun _ h => absurd h List.not_mem_nil)⟩)
instance : Enc RLender := ⟨RLender.enc, 1, RLender.len, RLender.one, by decide⟩
theorem RLender.g_room (x : RLender) : x.enc[0]? = some (x.room.v) := rfl
theorem RLender.s_room (x : RLender) (y : SV) : x.enc.set 0 (y.v) = { x with room := y }.enc := rfl

structure LOrdU where
  a : Int
  b : Int
deriving DecidableEq

def LOrdU.enc (x : LOrdU) : List Value := [.int .u64 x.a, .int .u64 x.b]
theorem LOrdU.len (x : LOrdU) : x.enc.length = 2 := rfl
theorem LOrdU.one (x : LOrdU) : ∀ u ∈ x.enc, u.oneCell' = true := (List.forall_mem_cons.2 ⟨rfl, (List.forall_mem_cons.2 ⟨rfl, (fun _ h => absurd h List.not_mem_nil)⟩)⟩)
instance : Enc LOrdU := ⟨LOrdU.enc, 2, LOrdU.len, LOrdU.one, by decide⟩
theorem LOrdU.g_a (x : LOrdU) : x.enc[0]? = some (.int .u64 x.a) := rfl
theorem LOrdU.s_a (x : LOrdU) (y : Int) : x.enc.set 0 (.int .u64 y) = { x with a := y }.enc := rfl
theorem LOrdU.g_b (x : LOrdU) : x.enc[1]? = some (.int .u64 x.b) := rfl
theorem LOrdU.s_b (x : LOrdU) (y : Int) : x.enc.set 1 (.int .u64 y) = { x with b := y }.enc := (congrArg (List.cons _) rfl)

structure LOrdI where
  a : Int
  b : Int
deriving DecidableEq

def LOrdI.enc (x : LOrdI) : List Value := [.int .i64 x.a, .int .i64 x.b]
theorem LOrdI.len (x : LOrdI) : x.enc.length = 2 := rfl
theorem LOrdI.one (x : LOrdI) : ∀ u ∈ x.enc, u.oneCell' = true := (List.forall_mem_cons.2 ⟨rfl, (List.forall_mem_cons.2 ⟨rfl, (fun _ h => absurd h List.not_mem_nil)⟩)⟩)
instance : Enc LOrdI := ⟨LOrdI.enc, 2, LOrdI.len, LOrdI.one, by decide⟩
theorem LOrdI.g_a (x : LOrdI) : x.enc[0]? = some (.int .i64 x.a) := rfl
theorem LOrdI.s_a (x : LOrdI) (y : Int) : x.enc.set 0 (.int .i64 y) = { x with a := y }.enc := rfl
theorem LOrdI.g_b (x : LOrdI) : x.enc[1]? = some (.int .i64 x.b) := rfl
theorem LOrdI.s_b (x : LOrdI) (y : Int) : x.enc.set 1 (.int .i64 y) = { x with b := y }.enc := (congrArg (List.cons _) rfl)

end Go.Fw
