/- What each operation yields, said over lookup lists and cells. No statement of the seat is proved here. -/
import Derived.Test.YtmgnkohlfbjjnaaGreatRFw
namespace Go.Fw
set_option linter.unusedVariables false
set_option linter.unusedSimpArgs false
open Go.RowKit

/-- A slice's header. -/
structure SV where
  a : Option Addr
  len : Nat
  cap : Nat
deriving DecidableEq

abbrev SV.v (s : SV) : Value := .slice s.a s.len s.cap
abbrev SV.nil : SV := ⟨none, 0, 0⟩

def Cells (w : World) (b off : Nat) (vs : List Value) : Prop := ∀ j v, vs[j]? = some v → w.cell? ⟨b, off + j, none⟩ = some v

/-- A piece of a list. -/
def cut {α : Type} (l : List α) (off n : Nat) : List α := (l.drop off).take n

theorem cut_get {α : Type} (l : List α) (off n j : Nat) (v : α) (h : (cut l off n)[j]? = some v) : j < n ∧ l[off + j]? = some v := by
  unfold cut at h
  rw [List.getElem?_take] at h
  split at h
  · exact ⟨by assumption, by rw [List.getElem?_drop] at h; exact h⟩
  · cases h

theorem length_cut {α : Type} (l : List α) (off n : Nat) (h : off + n ≤ l.length) : (cut l off n).length = n := by
  unfold cut; simp; omega

theorem cell_pt {w : World} {b off : Nat} {cs : List Value} {T : TypeId} {fz : Nat × Nat} {v : Value} (hb : w.heap[b]? = some (.cells cs.toArray T fz)) (h : cs[off]? = some v) :
    w.cell? ⟨b, off, none⟩ = some v := by
  simp [World.cell?, hb, h]

theorem cells_pt {w : World} {b off n : Nat} {cs vs : List Value} {T : TypeId} {fz : Nat × Nat} (hb : w.heap[b]? = some (.cells cs.toArray T fz)) (h : cut cs off n = vs) : Cells w b off vs := by
  intro j v hv
  subst h
  exact cell_pt hb (cut_get _ _ _ _ _ hv).2

section
variable {L : List Res} {w : World}
theorem MemL.cell (h : MemL w L) {i b off : Nat} {cs : List Value} {T : TypeId} {v : Value} (hi : L[i]? = some (pt b cs T)) (hv : cs[off]? = some v) :
    w.cell? ⟨b, off, none⟩ = some v := cell_pt (h.obj hi) hv
theorem MemL.cells (h : MemL w L) {i b off n : Nat} {cs vs : List Value} {T : TypeId} (hi : L[i]? = some (pt b cs T)) (hv : cut cs off n = vs) : Cells w b off vs := cells_pt (h.obj hi) hv
/-- An old cell still reads as it did. -/
theorem Same.cell {lo : Nat} {S : List Nat} {w1 : World} (h : Same lo S w1 w) {a : Addr} {v : Value} (hc : w1.cell? a = some v) (hlo : lo ≤ a.block) (hS : a.block ∉ S) : w.cell? a = some v := by
  have hlt : a.block < w1.heap.size := World.block_lt_of_cell? w1 a hc
  rw [World.cell?_of_block (h.block a.block hlo hlt hS)]
  exact hc
theorem Same.cells {lo : Nat} {S : List Nat} {w1 : World} (h : Same lo S w1 w) {b off : Nat} {vs : List Value} (hc : Cells w1 b off vs) (hlo : lo ≤ b) (hS : b ∉ S) : Cells w b off vs :=
  fun j v hv => h.cell (hc j v hv) hlo hS
end

/-! ### Values -/
section
variable {P : Program} {n : Nat} {F : List (Nat × Value)} {a : Act} {dd : List Deferred} {w : World} {o : Oper}

theorem r_move {x : Operand} {v : Value} (hF : Fr n F a dd) (ho : o.op = .move x) (hx : ev F x = some v) : (execOp a.eval o).run P w = .ok (.value v) w := by
  simp [execOp, ho, hF.eval hx]
theorem r_assign {x : Operand} {v : Value} (hF : Fr n F a dd) (ho : o.op = .assign x) (hx : ev F x = some v) : (execOp a.eval o).run P w = .ok (.value v) w := by
  simp [execOp, ho, hF.eval hx]
theorem r_pick1 {c x y : Operand} {b : Bool} {v : Value} (hF : Fr n F a dd) (ho : o.op = .pick c x y) (hc : ev F c = some (.bool b)) (hb : b = true) (hx : ev F x = some v) : (execOp a.eval o).run P w = .ok (.value v) w := by
  simp [execOp, ho, hF.eval hc, hF.eval hx, hb, asBool]
theorem r_pick0 {c x y : Operand} {b : Bool} {v : Value} (hF : Fr n F a dd) (ho : o.op = .pick c x y) (hc : ev F c = some (.bool b)) (hb : b = false) (hx : ev F y = some v) : (execOp a.eval o).run P w = .ok (.value v) w := by
  simp [execOp, ho, hF.eval hc, hF.eval hx, hb, asBool]

theorem wrap64_id {x : Int} (h : -9223372036854775808 ≤ x ∧ x ≤ 9223372036854775807) : IntKind.i64.wrap x = x := IntWalk.i64_in x h

theorem r_add {t yt : TypeId} {x y : Operand} {k : IntKind} {i j : Int} (hF : Fr n F a dd) (ho : o.op = .binOp .add t x y yt) (hx : ev F x = some (.int k i)) (hy : ev F y = some (.int k j)) :
    (execOp a.eval o).run P w = .ok (.value (.int k (k.wrap (i + j)))) w := by
  simp [execOp, ho, hF.eval hx, hF.eval hy, eqGuard, binOp, Op.intArith]
theorem r_sub {t yt : TypeId} {x y : Operand} {k : IntKind} {i j : Int} (hF : Fr n F a dd) (ho : o.op = .binOp .sub t x y yt) (hx : ev F x = some (.int k i)) (hy : ev F y = some (.int k j)) :
    (execOp a.eval o).run P w = .ok (.value (.int k (k.wrap (i - j)))) w := by
  simp [execOp, ho, hF.eval hx, hF.eval hy, eqGuard, binOp, Op.intArith]
theorem r_mul {t yt : TypeId} {x y : Operand} {k : IntKind} {i j : Int} (hF : Fr n F a dd) (ho : o.op = .binOp .mul t x y yt) (hx : ev F x = some (.int k i)) (hy : ev F y = some (.int k j)) :
    (execOp a.eval o).run P w = .ok (.value (.int k (k.wrap (i * j)))) w := by
  simp [execOp, ho, hF.eval hx, hF.eval hy, eqGuard, binOp, Op.intArith]
/-- Sums of ints that do not wrap. -/
theorem r_addN {t yt : TypeId} {x y : Operand} {i j : Int} (hF : Fr n F a dd) (ho : o.op = .binOp .add t x y yt) (hx : ev F x = some (.int .i64 i)) (hy : ev F y = some (.int .i64 j))
    (h : -9223372036854775808 ≤ i + j ∧ i + j ≤ 9223372036854775807) : (execOp a.eval o).run P w = .ok (.value (.int .i64 (i + j))) w := by
  rw [r_add hF ho hx hy, wrap64_id h]
theorem r_subN {t yt : TypeId} {x y : Operand} {i j : Int} (hF : Fr n F a dd) (ho : o.op = .binOp .sub t x y yt) (hx : ev F x = some (.int .i64 i)) (hy : ev F y = some (.int .i64 j))
    (h : -9223372036854775808 ≤ i - j ∧ i - j ≤ 9223372036854775807) : (execOp a.eval o).run P w = .ok (.value (.int .i64 (i - j))) w := by
  rw [r_sub hF ho hx hy, wrap64_id h]
theorem r_mulN {t yt : TypeId} {x y : Operand} {i j : Int} (hF : Fr n F a dd) (ho : o.op = .binOp .mul t x y yt) (hx : ev F x = some (.int .i64 i)) (hy : ev F y = some (.int .i64 j))
    (h : -9223372036854775808 ≤ i * j ∧ i * j ≤ 9223372036854775807) : (execOp a.eval o).run P w = .ok (.value (.int .i64 (i * j))) w := by
  rw [r_mul hF ho hx hy, wrap64_id h]

theorem r_lss {t yt : TypeId} {x y : Operand} {k : IntKind} {i j : Int} (hF : Fr n F a dd) (ho : o.op = .binOp .lss t x y yt) (hx : ev F x = some (.int k i)) (hy : ev F y = some (.int k j)) :
    (execOp a.eval o).run P w = .ok (.value (.bool (decide (i < j)))) w := by
  simp [execOp, ho, hF.eval hx, hF.eval hy, eqGuard, binOp, Op.intCmp]
theorem r_leq {t yt : TypeId} {x y : Operand} {k : IntKind} {i j : Int} (hF : Fr n F a dd) (ho : o.op = .binOp .leq t x y yt) (hx : ev F x = some (.int k i)) (hy : ev F y = some (.int k j)) :
    (execOp a.eval o).run P w = .ok (.value (.bool (decide (i ≤ j)))) w := by
  simp [execOp, ho, hF.eval hx, hF.eval hy, eqGuard, binOp, Op.intCmp]
theorem r_gtr {t yt : TypeId} {x y : Operand} {k : IntKind} {i j : Int} (hF : Fr n F a dd) (ho : o.op = .binOp .gtr t x y yt) (hx : ev F x = some (.int k i)) (hy : ev F y = some (.int k j)) :
    (execOp a.eval o).run P w = .ok (.value (.bool (decide (j < i)))) w := by
  simp [execOp, ho, hF.eval hx, hF.eval hy, eqGuard, binOp, Op.intCmp]
theorem r_geq {t yt : TypeId} {x y : Operand} {k : IntKind} {i j : Int} (hF : Fr n F a dd) (ho : o.op = .binOp .geq t x y yt) (hx : ev F x = some (.int k i)) (hy : ev F y = some (.int k j)) :
    (execOp a.eval o).run P w = .ok (.value (.bool (decide (j ≤ i)))) w := by
  simp [execOp, ho, hF.eval hx, hF.eval hy, eqGuard, binOp, Op.intCmp]
theorem r_eql {t yt : TypeId} {x y : Operand} {k : IntKind} {i j : Int} (hF : Fr n F a dd) (ho : o.op = .binOp .eql t x y yt) (hx : ev F x = some (.int k i)) (hy : ev F y = some (.int k j)) :
    (execOp a.eval o).run P w = .ok (.value (.bool (decide (i = j)))) w := by
  simp [execOp, ho, hF.eval hx, hF.eval hy, eqGuard, binOp, Op.intCmp]
  rfl
theorem r_neq {t yt : TypeId} {x y : Operand} {k : IntKind} {i j : Int} (hF : Fr n F a dd) (ho : o.op = .binOp .neq t x y yt) (hx : ev F x = some (.int k i)) (hy : ev F y = some (.int k j)) :
    (execOp a.eval o).run P w = .ok (.value (.bool (!decide (i = j)))) w := by
  simp [execOp, ho, hF.eval hx, hF.eval hy, eqGuard, binOp, Op.intCmp]
  rfl

theorem run_equalIn_bool (d : Nat) {t : TypeId} {i j : Bool} (hu : P.underlying t = some .bool) : (Op.equalIn (d + 1) t (.bool i) (.bool j)).run P w = .ok (decide (i = j)) w := by
  simp [Op.equalIn, run_underlying hu]
  cases i <;> cases j <;> rfl

theorem run_equal_bool {t : TypeId} {i j : Bool} (hu : P.underlying t = some .bool) : (Op.equal t (.bool i) (.bool j)).run P w = .ok (decide (i = j)) w :=
  run_equalIn_bool 9999 hu

/-- Of two bools. -/
theorem r_eqlB {t yt : TypeId} {x y : Operand} {i j : Bool} (hu : P.underlying t = some .bool) (hF : Fr n F a dd) (ho : o.op = .binOp .eql t x y yt) (hx : ev F x = some (.bool i)) (hy : ev F y = some (.bool j)) :
    (execOp a.eval o).run P w = .ok (.value (.bool (decide (i = j)))) w := by
  simp only [execOp, ho, hF.eval hx, hF.eval hy, eqGuard, binOp]
  simp [run_equal_bool hu]
theorem r_neqB {t yt : TypeId} {x y : Operand} {i j : Bool} (hu : P.underlying t = some .bool) (hF : Fr n F a dd) (ho : o.op = .binOp .neq t x y yt) (hx : ev F x = some (.bool i)) (hy : ev F y = some (.bool j)) :
    (execOp a.eval o).run P w = .ok (.value (.bool (!decide (i = j)))) w := by
  simp only [execOp, ho, hF.eval hx, hF.eval hy, eqGuard, binOp]
  simp [run_equal_bool hu]

/-- Of two strings. -/
theorem r_eqlS {t yt : TypeId} {x y : Operand} {i j : ByteArray} (hF : Fr n F a dd) (ho : o.op = .binOp .eql t x y yt) (hx : ev F x = some (.string i)) (hy : ev F y = some (.string j)) :
    (execOp a.eval o).run P w = .ok (.value (.bool (i.toList == j.toList))) w := by
  simp only [execOp, ho, hF.eval hx, hF.eval hy, eqGuard, binOp, Op.stringOp]
  rfl
theorem r_neqS {t yt : TypeId} {x y : Operand} {i j : ByteArray} (hF : Fr n F a dd) (ho : o.op = .binOp .neq t x y yt) (hx : ev F x = some (.string i)) (hy : ev F y = some (.string j)) :
    (execOp a.eval o).run P w = .ok (.value (.bool (!(i.toList == j.toList)))) w := by
  simp only [execOp, ho, hF.eval hx, hF.eval hy, eqGuard, binOp, Op.stringOp]
  rfl

theorem r_quo {t yt : TypeId} {x y : Operand} {k : IntKind} {i j : Int} (hF : Fr n F a dd) (ho : o.op = .binOp .quo t x y yt) (hx : ev F x = some (.int k i)) (hy : ev F y = some (.int k j)) (hj : j ≠ 0) :
    (execOp a.eval o).run P w = .ok (.value (.int k (k.wrap (i.tdiv j)))) w := by
  simp [execOp, ho, hF.eval hx, hF.eval hy, eqGuard, binOp, Op.intDiv, hj]
theorem r_rem {t yt : TypeId} {x y : Operand} {k : IntKind} {i j : Int} (hF : Fr n F a dd) (ho : o.op = .binOp .rem t x y yt) (hx : ev F x = some (.int k i)) (hy : ev F y = some (.int k j)) (hj : j ≠ 0) :
    (execOp a.eval o).run P w = .ok (.value (.int k (i.tmod j))) w := by
  simp [execOp, ho, hF.eval hx, hF.eval hy, eqGuard, binOp, Op.intDiv, hj]

/-- The bits of two numbers, joined. -/
def band (k : IntKind) (x y : Int) : Int := k.wrap ((BitVec.ofInt k.bits x &&& BitVec.ofInt k.bits y).toNat : Int)
def bor (k : IntKind) (x y : Int) : Int := k.wrap ((BitVec.ofInt k.bits x ||| BitVec.ofInt k.bits y).toNat : Int)
def bxor (k : IntKind) (x y : Int) : Int := k.wrap ((BitVec.ofInt k.bits x ^^^ BitVec.ofInt k.bits y).toNat : Int)
def bandn (k : IntKind) (x y : Int) : Int := k.wrap ((BitVec.ofInt k.bits x &&& ~~~ BitVec.ofInt k.bits y).toNat : Int)
def shl (k : IntKind) (x : Int) (y : Nat) : Int := k.wrap (x * 2 ^ min y k.bits)
def shr (k : IntKind) (x : Int) (y : Nat) : Int := x.fdiv (2 ^ min y k.bits)

theorem r_and {t yt : TypeId} {x y : Operand} {k : IntKind} {i j : Int} (hF : Fr n F a dd) (ho : o.op = .binOp .and t x y yt) (hx : ev F x = some (.int k i)) (hy : ev F y = some (.int k j)) :
    (execOp a.eval o).run P w = .ok (.value (.int k (band k i j))) w := by
  simp [execOp, ho, hF.eval hx, hF.eval hy, eqGuard, binOp, Op.intBits, band]
theorem r_or {t yt : TypeId} {x y : Operand} {k : IntKind} {i j : Int} (hF : Fr n F a dd) (ho : o.op = .binOp .or t x y yt) (hx : ev F x = some (.int k i)) (hy : ev F y = some (.int k j)) :
    (execOp a.eval o).run P w = .ok (.value (.int k (bor k i j))) w := by
  simp [execOp, ho, hF.eval hx, hF.eval hy, eqGuard, binOp, Op.intBits, bor]
theorem r_xor {t yt : TypeId} {x y : Operand} {k : IntKind} {i j : Int} (hF : Fr n F a dd) (ho : o.op = .binOp .xor t x y yt) (hx : ev F x = some (.int k i)) (hy : ev F y = some (.int k j)) :
    (execOp a.eval o).run P w = .ok (.value (.int k (bxor k i j))) w := by
  simp [execOp, ho, hF.eval hx, hF.eval hy, eqGuard, binOp, Op.intBits, bxor]
theorem r_andNot {t yt : TypeId} {x y : Operand} {k : IntKind} {i j : Int} (hF : Fr n F a dd) (ho : o.op = .binOp .andNot t x y yt) (hx : ev F x = some (.int k i)) (hy : ev F y = some (.int k j)) :
    (execOp a.eval o).run P w = .ok (.value (.int k (bandn k i j))) w := by
  simp [execOp, ho, hF.eval hx, hF.eval hy, eqGuard, binOp, Op.intBits, bandn]
theorem r_shl {t yt : TypeId} {x y : Operand} {k k' : IntKind} {i j : Int} (hF : Fr n F a dd) (ho : o.op = .binOp .shl t x y yt) (hx : ev F x = some (.int k i)) (hy : ev F y = some (.int k' j)) (hj : 0 ≤ j) :
    (execOp a.eval o).run P w = .ok (.value (.int k (shl k i j.toNat))) w := by
  have hj' : ¬ j < 0 := by omega
  simp [execOp, ho, hF.eval hx, hF.eval hy, eqGuard, binOp, Op.shift, shl, hj']
theorem r_shr {t yt : TypeId} {x y : Operand} {k k' : IntKind} {i j : Int} (hF : Fr n F a dd) (ho : o.op = .binOp .shr t x y yt) (hx : ev F x = some (.int k i)) (hy : ev F y = some (.int k' j)) (hj : 0 ≤ j) :
    (execOp a.eval o).run P w = .ok (.value (.int k (shr k i j.toNat))) w := by
  have hj' : ¬ j < 0 := by omega
  simp [execOp, ho, hF.eval hx, hF.eval hy, eqGuard, binOp, Op.shift, shr, hj']

theorem r_not {t : TypeId} {x : Operand} {b : Bool} (hF : Fr n F a dd) (ho : o.op = .unOp .not t x) (hx : ev F x = some (.bool b)) : (execOp a.eval o).run P w = .ok (.value (.bool (!b))) w := by
  simp [execOp, ho, hF.eval hx, Op.unary]
theorem r_neg {t : TypeId} {x : Operand} {k : IntKind} {i : Int} (hF : Fr n F a dd) (ho : o.op = .unOp .neg t x) (hx : ev F x = some (.int k i)) : (execOp a.eval o).run P w = .ok (.value (.int k (k.wrap (0 - i)))) w := by
  simp [execOp, ho, hF.eval hx, Op.unary, Op.intArith]

theorem r_conv {s d : TypeId} {x : Operand} {ds : TypeDesc} {k k' : IntKind} {i : Int} (hs : P.underlying s = some ds) (hd : P.underlying d = some (.int k')) (hF : Fr n F a dd) (ho : o.op = .convert s d x) (hx : ev F x = some (.int k i)) :
    (execOp a.eval o).run P w = .ok (.value (.int k' (k'.wrap i))) w := by
  simp [execOp, ho, hF.eval hx, convert, run_underlying hs, run_underlying hd, Conv.intToInt]

theorem r_len {t e : TypeId} {x : Operand} {s : SV} (ht : P.underlying t = some (.slice e)) (hF : Fr n F a dd) (ho : o.op = .call { callee := .builtin .len, args := #[x], argTypes := #[t] }) (hx : ev F x = some s.v) :
    (execOp a.eval o).run P w = .ok (.value (.int .i64 s.len)) w := by
  simp [execOp, ho, resolve, invoke, builtin, Builtin.len_, hF.eval hx, run_underlying ht, goInt]
theorem r_lenS {t : TypeId} {x : Operand} {s : ByteArray} (ht : P.underlying t = some .string) (hF : Fr n F a dd) (ho : o.op = .call { callee := .builtin .len, args := #[x], argTypes := #[t] }) (hx : ev F x = some (.string s)) :
    (execOp a.eval o).run P w = .ok (.value (.int .i64 s.size)) w := by
  simp [execOp, ho, resolve, invoke, builtin, Builtin.len_, hF.eval hx, run_underlying ht, goInt]

theorem r_extract {x : Operand} {i : Nat} {vs : List Value} {v : Value} (hF : Fr n F a dd) (ho : o.op = .extract x i) (hx : ev F x = some (.tuple vs.toArray)) (hv : vs[i]? = some v) :
    (execOp a.eval o).run P w = .ok (.value v) w := by
  simp [execOp, ho, hF.eval hx, Instr.extract, hv]

theorem r_makeFunc {fn : Fn} {fs cs : List Operand} {us vs : List Value} (hF : Fr n F a dd) (ho : o.op = .makeFunc fn fs.toArray cs.toArray) (hf : evs F fs = some us) (hc : evs F cs = some vs) :
    (execOp a.eval o).run P w = .ok (.value (.func fn us.toArray vs.toArray)) w := by
  simp [execOp, ho, Instr.makeFunc, hF.evals hf, hF.evals hc]

theorem r_nilCheckP {x : Operand} {ad : Addr} (hF : Fr n F a dd) (ho : o.op = .nilCheck x) (hx : ev F x = some (.pointer (some ad))) :
    (execOp a.eval o).run P w = .ok (.value (.pointer (some ad))) w := by
  simp [execOp, ho, hF.eval hx]
theorem r_nilCheckF {x : Operand} {f : FuncId} {us vs : Array Value} (hF : Fr n F a dd) (ho : o.op = .nilCheck x) (hx : ev F x = some (.func (.func f) us vs)) :
    (execOp a.eval o).run P w = .ok (.value (.func (.func f) us vs)) w := by
  simp [execOp, ho, hF.eval hx]

/-! ### Addresses -/

theorem addr_add (b off m : Nat) : (⟨b, off, none⟩ : Addr).add m = ⟨b, off + m, none⟩ := by unfold Addr.add; split <;> simp_all

theorem r_fieldAddr {t ft : TypeId} {x : Operand} {i b off off' fo : Nat} {fs : Array Field} {ti : TypeInfo} (ht : P.underlying t = some (.struct fs)) (hf : (fs[i]?).map (fun f => (f.offset, f.type)) = some (fo, ft)) (hi : P.info? ft = some ti) (hz : Nat.beq ti.size 0 = false)
    (hF : Fr n F a dd) (ho : o.op = .fieldAddr t x i) (hx : ev F x = some (.pointer (some ⟨b, off, none⟩))) (hoff : off + fo = off') :
    (execOp a.eval o).run P w = .ok (.value (.pointer (some ⟨b, off', none⟩))) w := by
  have hz' : ti.size ≠ 0 := fun e => by rw [e] at hz; cases hz
  subst hoff
  obtain ⟨f, hf1, hft⟩ := Option.map_eq_some_iff.1 hf
  simp only [Prod.mk.injEq] at hft
  obtain ⟨rfl, rfl⟩ := hft
  simp [execOp, ho, hF.eval hx, Instr.fieldAt, run_underlying ht, hf1, Instr.sureAddr, fieldPlace, sizeOf, typeInfo, hi, hz', addr_add]

/-- A slice's element. -/
theorem r_indexAddr {t e : TypeId} {x y : Operand} {b off len cap sz : Nat} {k : IntKind} {i : Int} {ti : TypeInfo} (ht : P.underlying t = some (.slice e)) (hi : P.info? e = some ti) (hs : ti.size = sz)
    (hF : Fr n F a dd) (ho : o.op = .indexAddr t x y) (hx : ev F x = some (.slice (some ⟨b, off, none⟩) len cap)) (hy : ev F y = some (.int k i)) (h : 0 ≤ i ∧ i < (len : Int)) :
    (execOp a.eval o).run P w = .ok (.value (.pointer (some ⟨b, off + i.toNat * sz, none⟩))) w := by
  simp [execOp, ho, hF.eval hx, hF.eval hy, Instr.indexAt, asIntOf, run_underlying ht, h, sizeOf, typeInfo, hi, hs, addr_add]
/-- An array's element. -/
theorem r_indexAddrA {t e : TypeId} {x y : Operand} {b off len sz : Nat} {k : IntKind} {i : Int} {ti : TypeInfo} (ht : P.underlying t = some (.array len e)) (hi : P.info? e = some ti) (hs : ti.size = sz)
    (hF : Fr n F a dd) (ho : o.op = .indexAddr t x y) (hx : ev F x = some (.pointer (some ⟨b, off, none⟩))) (hy : ev F y = some (.int k i)) (h : 0 ≤ i ∧ i < (len : Int)) :
    (execOp a.eval o).run P w = .ok (.value (.pointer (some ⟨b, off + i.toNat * sz, none⟩))) w := by
  simp [execOp, ho, hF.eval hx, hF.eval hy, Instr.indexAt, asIntOf, run_underlying ht, Instr.sureAddr, h, sizeOf, typeInfo, hi, hs, addr_add]

/-! ### Loads -/

theorem r_load1 {t : TypeId} {x : Operand} {b off : Nat} {v : Value} (ht : ∀ w, (isAgg t).run P w = .ok false w) (hF : Fr n F a dd) (ho : o.op = .load t x) (hx : ev F x = some (.pointer (some ⟨b, off, none⟩)))
    (hc : w.cell? ⟨b, off, none⟩ = some v) : (execOp a.eval o).run P w = .ok (.value v) w := by
  simp [execOp, ho, hF.eval hx, Instr.loadAt, Instr.sureAddr, loadVar, ht, hc]

theorem run_loadCells (w : World) (b off : Nat) (vs : List Value) (h : Cells w b off vs) : (loadCells ⟨b, off, none⟩ vs.length).run P w = .ok vs.toArray w :=
  run_loadCells_list (P := P) w ⟨b, off, none⟩ vs fun j v hv => by rw [addr_add]; exact h j v hv

theorem r_loadn {t : TypeId} {x : Operand} {b off sz : Nat} {vs : List Value} (ht : ∀ w, (isAgg t).run P w = .ok true w) (hs : ∀ w, (sizeOf t).run P w = .ok sz w) (hF : Fr n F a dd) (ho : o.op = .load t x) (hx : ev F x = some (.pointer (some ⟨b, off, none⟩)))
    (hl : vs.length = sz) (hc : Cells w b off vs) : (execOp a.eval o).run P w = .ok (.value (.agg vs.toArray)) w := by
  subst hl
  simp [execOp, ho, hF.eval hx, Instr.loadAt, Instr.sureAddr, loadVar, ht, hs, run_loadCells w b off vs hc]
end
end Go.Fw
