/- A run of closed code, reckoned over plain data: what is reckoned. No statement of the seat is proved here. -/
import Derived.Test.YtmgnkohlfbjjnaaGreatRFwMore
namespace Go.Ev
set_option linter.unusedVariables false
set_option linter.unusedSimpArgs false
open Go.Fw

inductive AV where
  | b (x : Bool)
  | i (k : IntKind) (n : Int)
  | s (l : List UInt8)
  | np | nsl | nf | nm | und
  | p (n off : Nat)
  | sl (n off len cap : Nat)
  | row (n : Nat) (cuts : List (Nat × Nat × Nat))
  | mp (n : Nat)
  | f (g : Nat) (fs cs : List AV)
  | y (n : Nat)
  | agg (n : Nat) (l : List AV)
  | tup (l : List AV)
deriving Inhabited

/-- Things by number. -/
inductive Tr (α : Type) where
  | e
  | n (v : Option α) (l r : Tr α)
deriving Inhabited
def Tr.path {α : Type} : Nat → Nat → α → Tr α
  | 0, _, _ => .e
  | d + 1, k, x => bif Nat.beq k 0 then .n (some x) .e .e else bif Nat.beq (k % 2) 1 then .n none (Tr.path d (k / 2) x) .e else .n none .e (Tr.path d (k / 2 - 1) x)
noncomputable def Tr.get {α : Type} (t : Tr α) : Nat → Option α :=
  Tr.rec (motive := fun _ => Nat → Option α) (fun _ => none) (fun v _ _ gl gr k => bif Nat.beq k 0 then v else bif Nat.beq (k % 2) 1 then gl (k / 2) else gr (k / 2 - 1)) t
noncomputable def Tr.set {α : Type} (t : Tr α) (k : Nat) (x : α) : Tr α :=
  Tr.rec (motive := fun _ => Nat → Tr α) (fun k => Tr.path 20 k x) (fun v l r sl sr k => bif Nat.beq k 0 then .n (some x) l r else bif Nat.beq (k % 2) 1 then .n v (sl (k / 2)) r else .n v l (sr (k / 2 - 1))) t k

mutual
/-- With other names. -/
def ren (f : Nat → Nat) : AV → AV
  | .p n off => .p (f n) off
  | .sl n off len cap => .sl (f n) off len cap
  | .row n cuts => .row (f n) cuts
  | .mp n => .mp (f n)
  | .y n => .y (f n)
  | .f g a c => .f g (rens f a) (rens f c)
  | .agg n l => .agg n (rens f l)
  | .tup l => .tup (rens f l)
  | v => v
def rens (f : Nat → Nat) : List AV → List AV
  | [] => []
  | v :: r => ren f v :: rens f r
end
mutual
def eqV : AV → AV → Bool
  | .b x, .b y => x == y
  | .i k x, .i k' y => decide (k = k') && decide (x = y)
  | .s x, .s y => decide (x = y)
  | .np, .np => true
  | .nsl, .nsl => true
  | .nf, .nf => true
  | .nm, .nm => true
  | .und, .und => true
  | .p n o, .p n' o' => Nat.beq n n' && Nat.beq o o'
  | .sl n o l c, .sl n' o' l' c' => Nat.beq n n' && Nat.beq o o' && Nat.beq l l' && Nat.beq c c'
  | .row n c, .row n' c' => Nat.beq n n' && decide (c = c')
  | .mp n, .mp n' => Nat.beq n n'
  | .y n, .y n' => Nat.beq n n'
  | .f g a c, .f g' a' c' => Nat.beq g g' && eqVs a a' && eqVs c c'
  | .agg n l, .agg n' l' => Nat.beq n n' && eqVs l l'
  | .tup l, .tup l' => eqVs l l'
  | _, _ => false
def eqVs : List AV → List AV → Bool
  | [], [] => true
  | x :: l, y :: m => eqV x y && eqVs l m
  | _, _ => false
end

noncomputable def getR {α : Type} (l : List α) : Nat → Option α :=
  List.rec (motive := fun _ => Nat → Option α) (fun _ => none) (fun x _ ih k => bif Nat.beq k 0 then some x else ih (k - 1)) l
noncomputable def dropR {α : Type} (l : List α) : Nat → List α :=
  List.rec (motive := fun _ => Nat → List α) (fun _ => []) (fun x xs ih k => bif Nat.beq k 0 then x :: xs else ih (k - 1)) l
noncomputable def takeR {α : Type} (l : List α) : Nat → List α :=
  List.rec (motive := fun _ => Nat → List α) (fun _ => []) (fun x _ ih k => bif Nat.beq k 0 then [] else x :: ih (k - 1)) l
noncomputable def appR {α : Type} (l m : List α) : List α :=
  List.rec (motive := fun _ => List α) m (fun x _ ih => x :: ih) l
noncomputable def lenR {α : Type} (l : List α) : Nat :=
  List.rec (motive := fun _ => Nat) 0 (fun _ _ ih => ih + 1) l
noncomputable def allR {α : Type} (f : α → Bool) (l : List α) : Bool :=
  List.rec (motive := fun _ => Bool) true (fun x _ ih => bif f x then ih else false) l
/-- Over a list another one is laid, which must not be longer. -/
noncomputable def overR {α : Type} (vs : List α) : List α → List α :=
  List.rec (motive := fun _ => List α → List α) (fun l => l) (fun v _ ih l => v :: ih l.tail) vs
noncomputable def putR {α : Type} (l : List α) (k : Nat) (vs : List α) : List α :=
  List.rec (motive := fun _ => Nat → List α) (fun _ => vs) (fun x xs ih k => bif Nat.beq k 0 then overR vs (x :: xs) else x :: ih (k - 1)) l k

inductive AObj where
  | pt (n : Nat) (l : List AV) (T : Nat)
  | fz (n : Nat) (l : List AV) (T : Nat)
  | row (e sz m : Nat) (l : List AV)
  | map (es : List (AV × AV × Nat)) (clock : Nat)
  | loop (st : LoopState) (pend : Option (Option Nat))
  | defd (taken : Bool)
  | dead
deriving Inhabited

abbrev Fm := Tr AV
/-- A loop over a function, on its way: whose, its frame, what is assigned to, its code, the block of its deferred calls. -/
structure LInfo where
  fn : Nat
  n : Nat
  tm : Fm
  ps : List Nat
  asg : Code
  body : Code
  d : Nat
abbrev Env := List (Nat × LInfo)
def envGet : Env → Nat → Option LInfo
  | [], _ => none
  | (m, i) :: r, n => bif Nat.beq m n then some i else envGet r n
abbrev Heap := Tr AObj
structure St where
  h : Heap
  nx : Nat
  marks : List Nat := []
  wr : List Nat := []
deriving Inhabited

noncomputable def find (h : Heap) (n : Nat) : Option AObj := h.get n
noncomputable def upd (h : Heap) (n : Nat) (o : AObj) : Heap := h.set n o

def forceN {β : Type} (n : Nat) (k : Nat → β) : β := match n with
  | 0 => k 0
  | m + 1 => k (m + 1)
def forceI {β : Type} (n : Int) (k : Int → β) : β := match n with
  | .ofNat m => forceN m fun m => k (.ofNat m)
  | .negSucc m => forceN m fun m => k (.negSucc m)
def force {β : Type} (v : AV) (k : AV → β) : β := match v with
  | .i q n => forceI n fun n => k (.i q n)
  | .b true => k (.b true)
  | .b false => k (.b false)
  | .p n off => forceN n fun n => forceN off fun off => k (.p n off)
  | v => k v

/-- What the program's tables say. -/
structure Tab where
  small : Nat → Bool
  und : Nat → Option TypeDesc
  sz : Nat → Option Nat
  zero : Nat → Option AV
  plain : Nat → Bool
  fn : Nat → Option (Nat × List ResultVar × Code)

def isAggD : TypeDesc → Bool
  | .struct _ | .array _ _ => true
  | _ => false

def ofL : Value → Option AV
  | .bool b => some (.b b)
  | .int k n => some (.i k n)
  | .string s => some (.s s.data.toList)
  | .pointer none => some .np
  | .slice none 0 0 => some .nsl
  | .map none => some .nm
  | .nilFunc => some .nf
  | _ => none
noncomputable def ofV : Value → Option AV
  | .agg cs => (cs.toList.mapM ofL).map fun l => .agg (lenR l) l
  | v => ofL v

noncomputable def aget (F : Fm) : Operand → Option AV
  | .tmp t => F.get t
  | .const v => ofV v
  | .func g => some (.f g [] [])
  | .global _ => none

def cellsOf : AV → List AV
  | .agg _ l => l
  | v => [v]
def lenOf : AV → Nat
  | .agg n _ => n
  | _ => 1
def oneA : AV → Bool
  | .agg _ _ => false
  | .tup _ => false
  | .und => false
  | _ => true
/-- May it lie in memory? -/
def isCell : AV → Bool
  | .agg _ _ => true
  | v => oneA v
/-- Cells are laid over some of a row of cells. -/
noncomputable def putA (n : Nat) (l : List AV) (off m : Nat) (vs : List AV) : Option (List AV) :=
  bif Nat.beq off 0 && Nat.beq n m then some vs else bif Nat.ble (off + m) n then some (putR l off vs) else none

/-- A piece of a list of cells, at a type. -/
noncomputable def part (T : Tab) (t n : Nat) (cs : List AV) (off : Nat) : Option AV := do
  let d ← T.und t
  if isAggD d then
    let m ← T.sz t
    bif Nat.beq off 0 && Nat.beq m n then some (.agg n cs) else
    bif Nat.ble (off + m) n then some (.agg m (takeR (dropR cs off) m)) else none
  else getR cs off

def intBin : BinOp → IntKind → Int → Int → Option AV
  | .add, k, x, y => some (.i k (k.wrap (x + y)))
  | .sub, k, x, y => some (.i k (k.wrap (x - y)))
  | .mul, k, x, y => some (.i k (k.wrap (x * y)))
  | .quo, k, x, y => if y = 0 then none else some (.i k (k.wrap (x.tdiv y)))
  | .rem, k, x, y => if y = 0 then none else some (.i k (x.tmod y))
  | .and, k, x, y => some (.i k (band k x y))
  | .or, k, x, y => some (.i k (bor k x y))
  | .xor, k, x, y => some (.i k (bxor k x y))
  | .andNot, k, x, y => some (.i k (bandn k x y))
  | .eql, _, x, y => some (.b (decide (x = y)))
  | .neq, _, x, y => some (.b (!decide (x = y)))
  | .lss, _, x, y => some (.b (decide (x < y)))
  | .leq, _, x, y => some (.b (decide (x ≤ y)))
  | .gtr, _, x, y => some (.b (decide (y < x)))
  | .geq, _, x, y => some (.b (decide (y ≤ x)))
  | _, _, _, _ => none

noncomputable def allO {β : Type} (f : β → Option Bool) : List β → Option Bool
  | [] => some true
  | i :: is => do if ← f i then allO f is else some false
/-- A row of things, each of z cells. -/
noncomputable def allZ (f : List AV → List AV → Option Bool) (z : Nat) : Nat → List AV → List AV → Option Bool
  | 0, _, _ => some true
  | n + 1, xs, ys => do if ← f (takeR xs z) (takeR ys z) then allZ f z n (dropR xs z) (dropR ys z) else some false

/-- '==' of things without addresses. -/
noncomputable def aeq (T : Tab) : Nat → Nat → AV → AV → Option Bool
  | 0, _, _, _ => none
  | d + 1, t, x, y => do
    match ← T.und t, x, y with
    | .bool, .b x, .b y => some (decide (x = y))
    | .int _, .i k x, .i k' y => if k = k' then some (decide (x = y)) else none
    | .struct fs, .agg n xs, .agg m ys => if !T.plain t then none else allO (fun f => do
        if f.name == "_" then none else
        aeq T d f.type (← part T f.type n xs f.offset) (← part T f.type m ys f.offset)) fs.toList
    | .array k e, .agg n xs, .agg m ys => do
        let z ← T.sz e
        bif Nat.beq n (k * z) && Nat.beq m (k * z) then
          if isAggD (← T.und e) then allZ (fun a b => aeq T d e (.agg z a) (.agg z b)) z k xs ys
          else allO (fun i => do aeq T d e (← getR xs (i * z)) (← getR ys (i * z))) (List.range k)
        else none
    | _, _, _ => none

noncomputable def abin (T : Tab) (g : Nat → Option AObj) (op : BinOp) (t : Nat) : AV → AV → Option AV
  | .i k x, .i k' y =>
    match op with
    | .shl => if y < 0 then none else some (.i k (shl k x y.toNat))
    | .shr => if y < 0 then none else some (.i k (shr k x y.toNat))
    | _ => if k = k' then intBin op k x y else none
  | .s x, .s y => match op with
    | .eql => some (.b (decide (x = y)))
    | .neq => some (.b (!decide (x = y)))
    | _ => none
  | .b x, .b y => do match op, ← T.und t with
    | .eql, .bool => some (.b (decide (x = y)))
    | .neq, .bool => some (.b (!decide (x = y)))
    | _, _ => none
  | .agg n x, .agg m y => match op with
    | .eql => if !T.plain t then none else do some (.b (← aeq T 20 t (.agg n x) (.agg m y)))
    | .neq => if !T.plain t then none else do some (.b (!(← aeq T 20 t (.agg n x) (.agg m y))))
    | _ => none
  | .nsl, .nsl => do match op, ← T.und t with
    | .eql, .slice _ => some (.b true)
    | _, _ => none
  | .sl .., .nsl => do match op, ← T.und t with
    | .eql, .slice _ => some (.b false)
    | _, _ => none
  | .row n _, .nsl => do match op, ← T.und t, g n with
    | .eql, .slice _, some (.row _ _ m _) => if m = 0 then none else some (.b false)
    | _, _, _ => none
  | _, _ => none

def asInt : AV → Option Int
  | .i _ n => some n
  | _ => none
def asNat : AV → Option Nat
  | .i _ n => if 0 ≤ n then some n.toNat else none
  | _ => none

/-- A slice's cells: where they lie, how many elements, and what. -/
abbrev Look := Nat → Option AObj
def startOf : List (Nat × Nat × Nat) → Nat
  | [] => 0
  | (i, _, _) :: r => i + startOf r
def cutLen (z : Nat) : Nat → List (Nat × Nat × Nat) → Option Nat
  | len, [] => some len
  | len, (i, j, z') :: r => if i ≤ j ∧ j ≤ len ∧ z' = z then cutLen z (j - i) r else none
noncomputable def cutCells : List (Nat × Nat × Nat) → List AV → List AV
  | [], l => l
  | (i, j, z) :: r, l => cutCells r (takeR (dropR l (i * z)) ((j - i) * z))
/-- A slice's elements: how many, and their cells. -/
noncomputable def sliceOf (g : Look) (z : Nat) : AV → Option (Nat × List AV)
  | .nsl => some (0, [])
  | .sl n off len cap => match g n with
    | some (.pt N l _) => if off + len * z ≤ N ∧ len ≤ cap then some (len, bif Nat.beq off 0 && Nat.beq N (len * z) then l else takeR (dropR l off) (len * z)) else none
    | some (.fz N l _) => if off + len * z ≤ N ∧ len ≤ cap then some (len, bif Nat.beq off 0 && Nat.beq N (len * z) then l else takeR (dropR l off) (len * z)) else none
    | _ => none
  | .row n cuts => match g n with
    | some (.row _ z' m l) => if z' = z then do
        let len ← cutLen z m cuts
        some (len, cutCells cuts l)
      else none
    | _ => none
  | _ => none

noncomputable def fillA (place : Nat → Option (Nat × Nat)) (N : Nat) (cells : List AV) : List (Nat × AV) → Option (List AV)
  | [] => some cells
  | (i, v) :: rest => do
    let (off, size) ← place i
    if lenOf v ≠ size ∨ isCell v = false then none else fillA place N (← putA N cells off size (cellsOf v)) rest

noncomputable def aparts (F : Fm) : List (Nat × Operand) → Option (List (Nat × AV))
  | [] => some []
  | (i, x) :: r => do
    let v ← aget F x
    some ((i, v) :: (← aparts F r))
noncomputable def agets (F : Fm) : List Operand → Option (List AV)
  | [] => some []
  | x :: r => do
    let v ← aget F x
    some (v :: (← agets F r))
noncomputable def agetO (F : Fm) : Option Operand → Option (Option AV)
  | none => some none
  | some x => (aget F x).map some

def mapFind (k : AV) : List (AV × AV × Nat) → Option (Option AV)
  | [] => some none
  | (k', v, _) :: r => match k, k' with
    | .i a x, .i b y => if a = b then (if x = y then some (some v) else mapFind k r) else none
    | _, _ => none

def boundA (d : Nat) : Option AV → Option Nat
  | none => some d
  | some v => asNat v
def mapOf (g : Look) : AV → Option (List (AV × AV × Nat))
  | .nm => some []
  | .mp n => match g n with
    | some (.map es _) => some es
    | _ => none
  | _ => none
def lookV (ok : Bool) (r : Option AV) (z : AV) : AV := match r, ok with
  | some v, true => .tup [v, .b true]
  | some v, false => v
  | none, true => .tup [z, .b false]
  | none, false => z
/-- What only looks. -/
noncomputable def aval (T : Tab) (g : Look) (F : Fm) (o : Op) : Option AV :=
  match o with
  | .move x | .assign x => aget F x
  | .pick c x y => do match ← aget F c with
    | .b t => if t then aget F x else aget F y
    | _ => none
  | .binOp op t x y _ => do abin T g op t (← aget F x) (← aget F y)
  | .unOp op _ x => do match op, ← aget F x with
    | .not, .b x => some (.b (!x))
    | .neg, .i k n => some (.i k (k.wrap (0 - n)))
    | _, _ => none
  | .convert s d x => do match ← T.und s, ← T.und d, ← aget F x with
    | _, .int k, .i _ n => some (.i k (k.wrap n))
    | .slice e, .string, v => match ← T.und e with
      | .int .u8 => do
        let l ← sliceOf g 1 v
        some (.s (← l.2.mapM fun c => match c with | .i .u8 n => if 0 ≤ n ∧ n < 256 then some (UInt8.ofNat n.toNat) else none | _ => none))
      | _ => none
    | _, _, _ => none
  | .fieldAddr t x f => do match ← T.und t, ← aget F x with
    | .struct fs, .p n off => do
      let f ← fs[f]?
      if (← T.sz f.type) = 0 then none else some (.p n (off + f.offset))
    | _, _ => none
  | .field t x f => do match ← T.und t, ← aget F x with
    | .struct fs, .agg n cs => do
      let f ← fs[f]?
      part T f.type n cs f.offset
    | _, _ => none
  | .indexAddr t x j => do
    let i ← asNat (← aget F j)
    match ← T.und t, ← aget F x with
    | .slice e, .sl n off len _ => do
      let z ← T.sz e
      if i < len then some (.p n (off + i * z)) else none
    | .slice e, .row n cuts => do
      let z ← T.sz e
      let l ← sliceOf g z (.row n cuts)
      if i < l.1 then some (.p n ((startOf cuts + i) * z)) else none
    | .array len e, .p n off => do
      let z ← T.sz e
      if i < len then some (.p n (off + i * z)) else none
    | _, _ => none
  | .index t x j => do
    let i ← asNat (← aget F j)
    match ← T.und t, ← aget F x with
    | .array len e, .agg n cs => do
      let z ← T.sz e
      if i < len then part T e n cs (i * z) else none
    | .string, .s l => do some (.i .u8 ((← l[i]?).toNat))
    | _, _ => none
  | .load t x => do match ← aget F x with
    | .p n off => match g n with
      | some (.pt n l _) => part T t n l off
      | some (.row _ z m l) => part T t (m * z) l off
      | _ => none
    | _ => none
  | .extract x i => do match ← aget F x with
    | .tup l => getR l i
    | _ => none
  | .nilCheck x => do match ← aget F x with
    | .p n off => some (.p n off)
    | .f q a b => some (.f q a b)
    | _ => none
  | .makeFunc (.func q) fs cs => do some (.f q (← agets F fs.toList) (← agets F cs.toList))
  | .build t ps => do
    let vs ← aparts F ps.toList
    match ← T.und t, ← T.zero t with
    | .struct fs, .agg n z => if !fs.toList.all (fun f => (T.sz f.type).isSome) then none else do some (.agg n (← fillA (fun i => do
        let f ← fs[i]?
        some (f.offset, ← T.sz f.type)) n z vs))
    | .array _ e, .agg n z => do
        let sz ← T.sz e
        some (.agg n (← fillA (fun i => some (i * sz, sz)) n z vs))
    | _, _ => none
  | .slice t x lo hi none => do
    let l ← agetO F lo
    let r ← agetO F hi
    let i ← boundA 0 l
    match ← T.und t, ← aget F x with
    | .slice e, v => do
      let z ← T.sz e
      let l ← sliceOf g z v
      let j ← boundA l.1 r
      if i ≤ j ∧ j ≤ l.1 then
        match v with
        | .nsl => some .nsl
        | .sl n off _ cap => some (.sl n (if cap = i then off else off + i * z) (j - i) (cap - i))
        | .row n cuts => some (.row n (cuts ++ [(i, j, z)]))
        | _ => none
      else none
    | .array len e, .p n off => do
      let z ← T.sz e
      let j ← boundA len r
      if i ≤ j ∧ j ≤ len ∧ i = 0 ∧ 0 < len then some (.sl n off j len) else none
    | _, _ => none
  | .call { callee := .builtin b, args := xs, argTypes := ts } => do
    match b, ← agets F xs.toList, ts.toList with
    | .len, [v], t :: _ => match ← T.und t, v with
      | .string, .s l => some (.i .i64 l.length)
      | .slice e, v => do some (.i .i64 (← sliceOf g (← T.sz e) v).1)
      | _, _ => none
    | .min, [.i k x, .i _ y], _ => some (.i k (if y < x then y else x))
    | .max, [.i k x, .i _ y], _ => some (.i k (if y > x then y else x))
    | _, _, _ => none
  | .lookup t x j ok => do
    let key ← aget F j
    match ← T.und t, ← aget F x with
    | .map k e, m => match ← T.und k, mapOf g m, key with
      | .int _, some es, .i _ _ => do
        let r ← mapFind key es
        let z ← T.zero e
        some (lookV ok r z)
      | _, _, _ => none
    | _, _ => none
  | _ => none



noncomputable def fresh (s : St) (o : AObj) : Option (Nat × St) :=
  match find s.h s.nx with
  | some _ => none
  | none => some (s.nx, { s with h := upd s.h s.nx o, nx := s.nx + 1 })

/-- A block is written anew. -/
noncomputable def wrote (s : St) (n : Nat) (o : AObj) : St := { s with h := upd s.h n o, wr := bif memN n s.wr then s.wr else n :: s.wr }
abbrev CallT := AV → List AV → St → Option (AV × St)

noncomputable def storeA (s : St) (n off m : Nat) (cs : List AV) : Option St :=
  match find s.h n with
  | some (.pt N l t) => do some (wrote s n (.pt N (← putA N l off m cs) t))
  | _ => none

noncomputable def mapPut (k v : AV) (clock : Nat) (es : List (AV × AV × Nat)) : Option (List (AV × AV × Nat) × Nat) := match k, mapFind k es with
  | .i _ _, some none => some (appR es [(k, v, clock)], clock + 1)
  | _, _ => none

/-- What acts. -/
noncomputable def aact (T : Tab) (call : CallT) (s : St) (F : Fm) (o : Op) : Option (AV × St) :=
  match o with
  | .alloc e => do
    let z ← T.zero e
    let (n, s) ← fresh s (.pt (lenOf z) (cellsOf z) e)
    some (.p n 0, s)
  | .box e x => do
    let v ← aget F x
    if !isCell v then none else
    let (n, s) ← fresh s (.pt (lenOf v) (cellsOf v) e)
    some (.p n 0, s)
  | .store t x v => do
    let v ← aget F v
    match ← aget F x with
    | .p n off => do
      if lenOf v ≠ (← T.sz t) ∨ isCell v = false then none else
      some (.und, ← storeA s n off (lenOf v) (cellsOf v))
    | _ => none
  | .buildSlice t len ps => do match ← T.und t with
    | .slice e => do
      let sz ← T.sz e
      let z ← T.zero e
      if len * sz = 0 ∨ 16777216 < len * sz ∨ lenOf z ≠ sz then
        (if len = 0 ∧ ps.toList.isEmpty = true then do
          let (n, s) ← fresh s (.pt 0 [] e)
          some (.sl n 0 0 0, s)
        else none)
      else do
      let cs ← fillA (fun i => some (i * sz, sz)) (len * sz) ((List.range len).flatMap fun _ => cellsOf z) (← aparts F ps.toList)
      let (n, s) ← fresh s (.pt (len * sz) cs e)
      some (.sl n 0 len len, s)
    | _ => none
  | .convert t t' x => do
    if t ≠ t' then none else
    match ← T.und t, ← aget F x with
    | .slice e, .sl n off len cap => match ← T.und e, find s.h n with
      | .int .u8, some (.pt N l q) => some (.sl n off len cap, wrote s n (.fz N l q))
      | _, _ => none
    | _, _ => none
  | .makeMap _ none => do
    let (n, s) ← fresh s (.map [] 0)
    some (.mp n, s)
  | .mapUpdate t m k v => do match ← T.und t, ← aget F m with
    | .map kt _, .mp n => match ← T.und kt, find s.h n with
      | .int _, some (.map es c) => do
        let (es, c) ← mapPut (← aget F k) (← aget F v) c es
        some (.und, wrote s n (.map es c))
      | _, _ => none
    | _, _ => none
  | .call { callee := .builtin .append, args := xs, argTypes := ts } => do
    match ← agets F xs.toList, ts.toList with
    | [x, y], [t, t'] => if t ≠ t' then none else match ← T.und t with
      | .slice e => do
        let z ← T.sz e
        let q ← sliceOf (find s.h) z y
        if z = 0 ∨ 1000000 < q.1 ∨ T.small e = false then none else
        match x with
        | .nsl => if q.1 = 0 then some (.nsl, s) else do
          let (n, s) ← fresh s (.row e z q.1 q.2)
          some (.row n [], s)
        | .sl n off len cap =>
          if len + q.1 ≤ cap ∨ 1000000 < len then none
          else do
            let p ← sliceOf (find s.h) z (.sl n off len cap)
            let (n, s) ← fresh s (.row e z (len + q.1) (appR p.2 q.2))
            some (.row n [], s)
        | .row n [] => match find s.h n with
          | some (.row e' z' m l) =>
            if e' = e ∧ z' = z ∧ m ≤ 1000000 then do
              let (n', s') ← fresh (wrote s n .dead) (.row e z (m + q.1) (appR l q.2))
              some (.row n' [], s')
            else none
          | _ => none
        | _ => none
      | _ => none
    | _, _ => none
  | .call { callee := .value g, args := xs, argTypes := _ } => do
    call (← aget F g) (← agets F xs.toList) s
  | _ => none

def isVal : Op → Bool
  | .move _ | .assign _ | .pick .. | .binOp .. | .unOp .. | .fieldAddr .. | .field .. | .indexAddr .. | .index .. | .load .. | .extract .. | .nilCheck _ | .makeFunc .. | .build .. | .slice .. | .lookup .. | .convert .. => true
  | .call { callee := .builtin .len, .. } | .call { callee := .builtin .min, .. } | .call { callee := .builtin .max, .. } => true
  | _ => false

/-- One operation; what it yields has no names but known ones. -/
noncomputable def aop (T : Tab) (call : CallT) (s : St) (F : Fm) (o : Op) : Option (AV × St) := do
  if isVal o then match aval T (find s.h) F o with
    | some v => some (v, s)
    | none => aact T call s F o
  else aact T call s F o

noncomputable def setO (n : Nat) (F : Fm) (d : Option Nat) (v : AV) : Option Fm := match d with
  | some d => if Nat.blt d n then some (F.set d v) else none
  | none => some F

/-- Is it wanted? -/
noncomputable def wantA (ops : Array Oper) (F : Fm) (o : Oper) : Option Bool := match o.guard with
  | none => some true
  | some (j, want) => match (ops[j]?).bind (·.dst) with
    | some d => match F.get d with
      | some (.b c) => some (c == want)
      | some _ => some false
      | none => none
    | none => some false

noncomputable def aops (T : Tab) (call : CallT) (n : Nat) (ops : Array Oper) : List Oper → Fm → St → Option (Fm × St)
  | [], F, s => some (F, s)
  | o :: r, F, s => do
    if ← wantA ops F o then
      let q ← aop T call s F o.op
      force q.1 fun v => do aops T call n ops r (← setO n F o.dst v) q.2
    else aops T call n ops r (← setO n F o.dst .und) s

/-! Where the order is drawn. -/
def renO (f : Nat → Nat) : AObj → AObj
  | .pt n l T => .pt n (rens f l) T
  | .fz n l T => .fz n (rens f l) T
  | .row e z m l => .row e z m (rens f l)
  | .map es c => .map (es.map fun e => (ren f e.1, ren f e.2.1, e.2.2)) c
  | o => o
def eqO : AObj → AObj → Bool
  | .pt n l T, .pt n' l' T' => Nat.beq n n' && Nat.beq T T' && eqVs l l'
  | .fz n l T, .fz n' l' T' => Nat.beq n n' && Nat.beq T T' && eqVs l l'
  | .row e z m l, .row e' z' m' l' => Nat.beq e e' && Nat.beq z z' && Nat.beq m m' && eqVs l l'
  | .map es c, .map es' c' => Nat.beq c c' && eqVs (es.map (·.1)) (es'.map (·.1)) && eqVs (es.map (·.2.1)) (es'.map (·.2.1)) && decide (es.map (·.2.2) = es'.map (·.2.2))
  | .dead, .dead => true
  | .defd a, .defd b => a == b
  | .loop a c, .loop a' c' => decide (a = a') && decide (c = c')
  | _, _ => false
/-- The names that are looked at. -/
def namesV : AV → List Nat
  | .p n _ => [n]
  | .sl n _ _ _ => [n]
  | .row n _ => [n]
  | .mp n => [n]
  | _ => []
def pickQ (p : Nat → Bool) : List Nat → Option Nat
  | [] => none
  | i :: r => bif p i then some i else pickQ p r
abbrev Log := List (Nat × Nat × Nat)
/-- A name of the one way, in the other one. -/
def mapName (l l' : Log) (n : Nat) : Nat := match l with
  | [] => n
  | (e, a, b) :: r => bif Nat.ble a n && Nat.blt n b then (match l'.find? (fun q => Nat.beq q.1 e) with
      | some (_, a', _) => a' + (n - a)
      | none => n) else mapName r l' n
def piName (nx0 : Nat) (l l' : Log) (n : Nat) : Nat := bif Nat.blt n nx0 then n else mapName l l' n
/-- Two ways have come to one thing, but for the names of what is new. -/
noncomputable def sameWay (n nx0 : Nat) (f : Nat → Nat) (F : Fm) (s : St) (F' : Fm) (s' : St) : Bool :=
  Nat.beq s.nx s'.nx && decide (s.marks = s'.marks) &&
  ((List.range (s.nx - nx0)).all fun m => Nat.ble nx0 (f (nx0 + m)) && Nat.blt (f (nx0 + m)) s.nx) &&
  nodupN ((List.range (s.nx - nx0)).map fun m => f (nx0 + m)) &&
  ((List.range n).all fun t => match F.get t, F'.get t with
    | some v, some v' => eqV (ren f v) v'
    | none, none => true
    | _, _ => false) &&
  (s.wr.all fun m => memN m s'.wr || Nat.ble nx0 m) && (s'.wr.all fun m => memN m s.wr || Nat.ble nx0 m) &&
  ((s.wr.filter (Nat.blt · nx0) ++ (List.range (s.nx - nx0)).map (nx0 + ·)).all fun m => match find s.h m, find s'.h (f m) with
    | some o, some o' => eqO (renO f o) o'
    | none, _ => true
    | _, _ => false)

def isReady (ops : Array Oper) (T : List Nat) (i : Nat) : Bool := !memN i T && (aftOf ops i).all (memN · T)
/-- Whom each operation comes behind, as bits. -/
def masks (ops : Array Oper) : List Nat := (List.range ops.size).foldl (fun acc i => acc ++ [(aftOf ops i).foldl (fun m p => m ||| 2 ^ p ||| acc.getD p 0) 0]) []
def syncM (ops : Array Oper) (T : List Nat) (e : Nat) : Bool := T.all fun j => ((masks ops).getD e 0).testBit j

/-- The names that are looked at. -/
noncomputable def addName (F : Fm) (x : Operand) (acc : List Nat) : List Nat := match aget F x with
  | some v => (namesV v).foldl (fun acc n => bif memN n acc then acc else n :: acc) acc
  | none => acc
noncomputable def opNames (F : Fm) (o : Op) (acc : List Nat) : List Nat := match o with
  | .load _ x => addName F x acc
  | .binOp _ _ x _ _ => (match aget F x with
    | some (.row _ _) => addName F x acc
    | _ => acc)
  | .lookup _ x _ _ => addName F x acc
  | .convert _ _ x => addName F x acc
  | .slice _ x _ _ _ => (match aget F x with
    | some (.p _ _) => acc
    | _ => addName F x acc)
  | .indexAddr _ x _ => (match aget F x with
    | some (.p _ _) => acc
    | _ => addName F x acc)
  | .call c => c.args.toList.foldl (fun acc x => addName F x acc) acc
  | _ => acc
noncomputable def lookAt (rd : List Nat) (h : Heap) : Look := fun n => bif memN n rd then find h n else none

def dropN (i : Nat) : List Nat → List Nat
  | [] => []
  | j :: r => bif Nat.beq i j then r else j :: dropN i r
/-- What may still lag behind must not see what is written. -/
def drawRd (ops : Array Oper) (D : List Nat) (e nx : Nat) (rd wr : List Nat) : Option (List Nat) :=
  if syncM ops D e then some [] else if wr.all (fun m => Nat.ble nx m || !memN m rd) then some rd else none
abbrev DrawT := List Nat → List Nat → Fm → List Nat → St → Log → Option (Fm × St × Log)
noncomputable def drawE (T : Tab) (call : CallT) (n : Nat) (ops : Array Oper) (next : DrawT) (R D : List Nat) (F : Fm) (rd : List Nat) (s : St) (lg : Log) (e : Nat) : Option (Fm × St × Log) := do
  let o ← ops[e]?
  if noSel o && wantA ops F o == some true then
    let q ← aop T call { s with wr := [] } F o.op
    let rd' ← drawRd ops D e s.nx rd q.2.wr
    force q.1 fun v => do next (dropN e R) (e :: D) (← setO n F o.dst v) rd' { q.2 with wr := q.2.wr ++ s.wr } ((e, s.nx, q.2.nx) :: lg)
  else none
noncomputable def drawQ (T : Tab) (n : Nat) (ops : Array Oper) (next : DrawT) (R D : List Nat) (F : Fm) (rd : List Nat) (s : St) (lg : Log) (i : Nat) : Option (Fm × St × Log) := do
  let o ← ops[i]?
  if ← wantA ops F o then
    let v ← aval T (lookAt (opNames F o.op rd) s.h) F o.op
    force v fun v => do next (dropN i R) (i :: D) (← setO n F o.dst v) (opNames F o.op rd) s lg
  else next (dropN i R) (i :: D) (← setO n F o.dst .und) rd s lg
noncomputable def pickV (ops : Array Oper) (F : Fm) (D R : List Nat) : Option Nat :=
  pickQ (fun i => (match ops[i]? with | some o => (bif isVal o.op then true else wantA ops F o == some false) | none => false) && okq ops D i) R
noncomputable def adraw (T : Tab) (call : CallT) (n : Nat) (ops : Array Oper) : Nat → DrawT
  | 0, _, _, _, _, _, _ => none
  | k + 1, R, D, F, rd, s, lg =>
    match R with
    | [] => if allDone ops D then some (F, s, lg) else none
    | _ :: _ =>
    match pickV ops F D R with
    | some i => drawQ T n ops (adraw T call n ops k) R D F rd s lg i
    | none =>
      match R.filter (isReady ops D) with
      | [] => none
      | e :: es => do
        let r ← drawE T call n ops (adraw T call n ops k) R D F rd s lg e
        if blk ops D (e :: es) && es.all (fun e' => match drawE T call n ops (adraw T call n ops k) R D F rd s lg e' with
          | some r' => sameWay n s.nx (piName s.nx r.2.2 r'.2.2) r.1 r.2.1 r'.1 r'.2.1
          | none => false) then some r else none

noncomputable def adrawn (T : Tab) (call : CallT) (n : Nat) (ops : Array Oper) (F : Fm) (s : St) : Option (Fm × St) := do
  if chk ops then
    let r ← adraw T call n ops (ops.size + 1) (List.range ops.size) [] F [] s []
    some (r.1, r.2.1)
  else none

inductive AX where
  | n
  | x (id : Nat)
  | r
deriving DecidableEq

def isFn : AV → Bool
  | .f _ _ _ => true
  | _ => false
def aloop (body : Fm → St → Option (AX × Fm × St)) : Nat → Fm → St → Option (AX × Fm × St)
  | 0, _, _ => none
  | k + 1, F, s => do
    let q ← body F s
    match q.1 with
    | .n => aloop body k q.2.1 q.2.2
    | _ => some q

def axOf : Option (Option Nat) → AX
  | none => .n
  | some none => .r
  | some (some id) => .x id
def pdOf : AX → Option (Option Nat)
  | .n => none
  | .r => some none
  | .x id => some (some id)
noncomputable def endLoopA (s : St) (l : Nat) : Option (AX × St) := match find s.h l with
  | some (.loop st pd) => match st with
    | .busy => none
    | _ => some (axOf pd, wrote s l .dead)
  | _ => none

noncomputable def acode (T : Tab) (call : Env → CallT) (env : Env) (fn n : Nat) (inRound : Bool) (fuel : Nat) : Code → Fm → St → Option (AX × Fm × St)
  | .skip, F, s => some (.n, F, s)
  | .region _ ops draw, F, s => if draw then (adrawn T (call env) n ops F s).map fun q => (.n, q.1, q.2) else (aops T (call env) n ops ops.toList F s).map fun q => (.n, q.1, q.2)
  | .seq a b, F, s => do
    let q ← acode T call env fn n inRound fuel a F s
    match q.1 with
    | .n => acode T call env fn n inRound fuel b q.2.1 q.2.2
    | _ => some q
  | .cond c x y, F, s => do match ← aget F c with
    | .b true => acode T call env fn n inRound fuel x F s
    | .b false => acode T call env fn n inRound fuel y F s
    | _ => none
  | .block id c, F, s => do
    let q ← acode T call env fn n inRound fuel c F s
    some (if q.1 = .x id then .n else q.1, q.2.1, q.2.2)
  | .loop c, F, s => aloop (acode T call env fn n inRound fuel c) fuel F s
  | .exit id, F, s => some (.x id, F, s)
  | .ret, F, s => some (.r, F, s)
  | .rangeFunc g ps a b, F, s => if inRound then none else do
    let gv ← aget F g
    if isFn gv = false then none else
    let (d, s) ← fresh s (.defd false)
    let (l, s) ← fresh s (.loop .ready none)
    let q ← call ((l, ⟨fn, n, F, ps.toList, a, b, d⟩) :: env) gv [.y l] { s with marks := d :: s.marks }
    let (e, s) ← endLoopA q.2 l
    some (e, F, s)
  | _, _, _ => none

noncomputable def takeMarks : List Nat → St → Option St
  | [], s => some s
  | d :: r, s => match find s.h d with
    | some (.defd false) => takeMarks r (wrote s d (.defd true))
    | _ => none

noncomputable def ares (T : Tab) (s : St) (F : Fm) : List ResultVar → Option (List AV)
  | [] => some []
  | .tmp t :: r => do some ((← F.get t) :: (← ares T s F r))
  | .cell t ty :: r => do match ← F.get t with
    | .p n off => match find s.h n with
      | some (.pt n l _) => do some ((← part T ty n l off) :: (← ares T s F r))
      | _ => none
    | _ => none

noncomputable def setPs (n : Nat) : List Nat → List AV → Fm → Option Fm
  | [], [], F => some F
  | p :: ps, v :: vs, F => if Nat.blt p n then setPs n ps vs (F.set p v) else none
  | _, _, _ => none

noncomputable def enterF : Nat → Nat → List AV → Fm
  | 0, _, _ => .e
  | n + 1, i, [] => (enterF n (i + 1) []).set i .und
  | n + 1, i, v :: vs => (enterF n (i + 1) vs).set i v

def resV : List AV → AV
  | [v] => v
  | vs => .tup vs

noncomputable def acall (T : Tab) (fuel : Nat) : Nat → Env → CallT
  | 0, _, _, _, _ => none
  | k + 1, env, g, args, s => match g with
    | .f g fs cs => do
      let (n, rs, body) ← T.fn g
      let vs := fs ++ args ++ cs
      if n < vs.length then none else
      let q ← acode T (acall T fuel k) env g n false fuel body (enterF n 0 vs) { s with marks := [] }
      match q.1 with
      | .x _ => none
      | _ => do
        let s' ← takeMarks q.2.2.marks q.2.2
        let r ← ares T s' q.2.1 rs
        some (resV r, { s' with marks := s.marks, wr := s'.wr.filter (Nat.blt · s.nx) })
    | .y l => do
      let I ← envGet env l
      match find s.h l with
      | some (.loop .ready _) => do
        let F ← setPs I.n I.ps args I.tm
        let q ← acode T (acall T fuel k) env I.fn I.n true fuel I.asg F { s with marks := [] }
        match q.1, find q.2.2.h l with
        | .n, some (.loop .ready pd) => do
          let q' ← acode T (acall T fuel k) env I.fn I.n true fuel I.body q.2.1 (wrote q.2.2 l (.loop .busy pd))
          match find q'.2.2.h l with
          | some (.loop _ _) =>
            some (.b (pdOf q'.1).isNone, { wrote q'.2.2 l (.loop (if (pdOf q'.1).isNone then .ready else .done) (pdOf q'.1)) with marks := s.marks })
          | _ => none
        | _, _ => none
      | _ => none
    | _ => none

def smallI : Option TypeInfo → Bool
  | some i => Nat.ble i.bytes 1000000 && (match i.zero with
    | some v => Nat.beq v.cells.size i.size
    | none => false)
  | none => false
noncomputable def tabOf (p : Program) : Tab where
  small := fun t => smallI (p.info? t)
  und := fun t => p.underlying t
  sz := fun t => (p.info? t).map (·.size)
  zero := fun t => ((p.info? t).bind (·.zero)).bind ofV
  plain := fun t => !p.eqGuardType p.depth t && !p.stoodInHeld t
  fn := fun f => (p.funcs[f]?).bind fun fn => if fn.name == "runtime.NumGoroutine" then none else fn.body.map fun b => (fn.ntmps, fn.results.toList, b)

end Go.Ev
