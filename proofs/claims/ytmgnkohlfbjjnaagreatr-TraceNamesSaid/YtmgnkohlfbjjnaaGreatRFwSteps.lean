/- The steps of a walk: in order; and where the order is drawn. No statement of the seat is proved here. -/
import Derived.Test.YtmgnkohlfbjjnaaGreatRFwOps
namespace Go.Fw
set_option linter.unusedVariables false
set_option linter.unusedSimpArgs false

/-- What is asked of a call's end: it returns, and so. -/
def Ret (R : Value → World → Prop) : Ending → World → Prop
  | .returned v, w => R v w
  | _, _ => False

/-- The fence that lets all in: of an activation, or of a round of a loop over a function. -/
abbrev Wd (r : Option Nat) : Fence := { Fence.wide with round := r }
theorem callsIn_wd {r : Option Nat} {n : Nat} {P : Program} {f : FuncId} {args : Array Value} {w : World} {R : Ending → World → Prop} : CallsIn (Wd r) n P f args w R ↔ Calls P f args w R := callsIn_wide
theorem roundIn_wd {r r' : Option Nat} {n n' : Nat} {P : Program} {l : Nat} {f : FuncId} {tmps : Array Value} {assign body : Code} {w : World} {R : Ending → World → Prop} (h : RoundIn (Wd r) n P l f tmps assign body w R) : RoundIn (Wd r') n' P l f tmps assign body w R :=
  ⟨trivial, fun c cs _ => h.2 c cs (room_wide _)⟩
theorem no_depth {r : Option Nat} {X : Prop} (h : (Wd r).depth.isSome = true) : X := by simp [Fence.wide] at h

/-- An operation yields a value, or a call that does, or a round. -/
def Yd (P : Program) (o : Oper) (ρ : Operand → Value) (w : World) (J : Value → World → Prop) : Prop :=
  match (execOp ρ o).run P w with
  | .ok (.value v) w' => J v w'
  | .ok .skip w' => J undef w'
  | .ok (.enter f args) w' => Calls P f args w' (Ret J)
  | .ok (.round l f tmps assign body) w' => RoundIn (Wd none) 0 P l f tmps assign body w' (Ret J)
  | _ => False

theorem Yd.mono {P : Program} {o : Oper} {ρ : Operand → Value} {w : World} {J J' : Value → World → Prop} (h : Yd P o ρ w J) (hj : ∀ v w', J v w' → J' v w') : Yd P o ρ w J' := by
  unfold Yd at *
  generalize (execOp ρ o).run P w = r at *
  cases r with
  | ok n w' =>
    cases n <;> simp only at h ⊢ <;> first
      | exact hj _ _ h
      | exact Calls.mono h (fun e w'' he => by cases e <;> first | exact hj _ _ he | exact he)
      | exact RoundIn.mono h (fun e w'' he => by cases e <;> first | exact hj _ _ he | exact he)
      | exact h
  | halt h' w' => exact h

theorem Yd.noDefer {P : Program} {o : Oper} {ρ : Operand → Value} {w : World} {J : Value → World → Prop} (h : Yd P o ρ w J) : ∀ c, o.op ≠ .defer c := by
  intro c hc
  unfold Yd at h
  simp only [execOp, hc, Sem.run_bind] at h
  generalize (resolve ρ c o.type).run P w = r at h
  cases r <;> simp [Result.andThen] at h

theorem Yd.wp {r : Option Nat} {P : Program} {o : Oper} {a : Act} {w : World} {K : Act → World → Prop} {Q : Exit → Act → World → Prop} (h : Yd P o a.eval w (fun v w' => K (a.put o.dst v) w')) : o.wpIn (Wd r) 0 P a w K Q := by
  refine ⟨fun _ _ => trivial, ?_⟩
  rw [Oper.semAt_eq _ _ _ h.noDefer]
  unfold Yd at h
  generalize (execOp a.eval o).run P w = x at *
  cases x with
  | ok n w' =>
    cases n <;> simp only [Oper.uponIn] at h ⊢ <;> first
      | exact h
      | exact ⟨no_depth, callsIn_wd.2 (Calls.mono h (fun e w'' he => by cases e <;> first | exact he | exact he.elim))⟩
      | exact ⟨no_depth, (roundIn_wd h).mono (fun e w'' he => by cases e <;> first | exact he | exact he.elim)⟩
      | exact h.elim
  | halt h' w' => exact h.elim

theorem Yd.val {P : Program} {o : Oper} {ρ : Operand → Value} {w : World} {v : Value} {J : Value → World → Prop} (hr : (execOp ρ o).run P w = .ok (.value v) w) (h : J v w) : Yd P o ρ w J := by
  unfold Yd; rw [hr]; exact h

/-- Code, and operations in a row, of an activation or of a round. -/
abbrev Wp (r : Option Nat) (P : Program) (c : Code) (Q : Exit → Act → World → Prop) (a : Act) (w : World) : Prop := c.wpIn (Wd r) 0 P Q a w
abbrev wpL (r : Option Nat) (P : Program) (ops : Array Oper) (Q : Exit → Act → World → Prop) (l : List Oper) (a : Act) (w : World) : Prop := wpListIn (Wd r) 0 P ops Q l a w
abbrev bP (P : Program) (fn : Func) (R : Ending → World → Prop) : Exit → Act → World → Prop := bodyPostM (Wd none) 0 P fn R

section inorder
variable {r : Option Nat} {P : Program} {ops : Array Oper} {Q : Exit → Act → World → Prop} {o : Oper} {rest : List Oper} {n d : Nat} {F : List (Nat × Value)} {a : Act} {dd : List Deferred} {w : World} {v : Value}

theorem s_val (hF : Fr n F a dd) (hr : (execOp a.eval o).run P w = .ok (.value v) w) (hg : o.guard = none) (hd : o.dst = some d) (hn : Nat.blt d n = true)
    (next : ∀ a', Fr n ((d, v) :: F) a' dd → wpL r P ops Q rest a' w) : wpL r P ops Q (o :: rest) a w :=
  wpListIn_plain hg fun _ hK => Yd.wp (Yd.val hr (hK _ _ (by rw [hd]; exact next _ (hF.put hn))))

theorem s_eff (hF : Fr n F a dd) (hg : o.guard = none) (hd : o.dst = some d) (hn : Nat.blt d n = true)
    (h : Yd P o a.eval w (fun v w' => ∀ a', Fr n ((d, v) :: F) a' dd → wpL r P ops Q rest a' w')) : wpL r P ops Q (o :: rest) a w :=
  wpListIn_plain hg fun _ hK => Yd.wp (h.mono fun _ _ hj => hK _ _ (by rw [hd]; exact hj _ (hF.put hn)))

theorem s_eff0 (hg : o.guard = none) (hd : o.dst = none)
    (h : Yd P o a.eval w (fun _ w' => wpL r P ops Q rest a w')) : wpL r P ops Q (o :: rest) a w :=
  wpListIn_plain hg fun _ hK => Yd.wp (h.mono fun _ _ hj => hK _ _ (by rw [hd]; exact hj))

theorem wanted_yes {g t : Nat} {want c : Bool} (hF : Fr n F a dd) (hg : o.guard = some (g, want)) (ht : (ops[g]?).bind (·.dst) = some t) (hc : look F t = some (.bool c)) (hw : c = want) :
    Region.wanted o (yielded ops a.tmps) = true := by
  simp [Region.wanted, hg, hF.yield ht hc, hw]
theorem wanted_no {g t : Nat} {want c : Bool} (hF : Fr n F a dd) (hg : o.guard = some (g, want)) (ht : (ops[g]?).bind (·.dst) = some t) (hc : look F t = some (.bool c)) (hw : c = !want) :
    Region.wanted o (yielded ops a.tmps) = false := by
  simp [Region.wanted, hg, hF.yield ht hc, hw]

/-- Guarded: the guard says yes. -/
theorem g_val {g t : Nat} {want c : Bool} (hF : Fr n F a dd) (hg : o.guard = some (g, want)) (ht : (ops[g]?).bind (·.dst) = some t) (hc : look F t = some (.bool c)) (hw : c = want)
    (hr : (execOp a.eval o).run P w = .ok (.value v) w) (hd : o.dst = some d) (hn : Nat.blt d n = true)
    (next : ∀ a', Fr n ((d, v) :: F) a' dd → wpL r P ops Q rest a' w) : wpL r P ops Q (o :: rest) a w :=
  wpListIn_step fun _ hK => by
    rw [if_pos (wanted_yes hF hg ht hc hw)]
    exact Yd.wp (Yd.val hr (hK _ _ (by rw [hd]; exact next _ (hF.put hn))))

theorem g_eff {g t : Nat} {want c : Bool} (hF : Fr n F a dd) (hg : o.guard = some (g, want)) (ht : (ops[g]?).bind (·.dst) = some t) (hc : look F t = some (.bool c)) (hw : c = want)
    (hd : o.dst = some d) (hn : Nat.blt d n = true)
    (h : Yd P o a.eval w (fun v w' => ∀ a', Fr n ((d, v) :: F) a' dd → wpL r P ops Q rest a' w')) : wpL r P ops Q (o :: rest) a w :=
  wpListIn_step fun _ hK => by
    rw [if_pos (wanted_yes hF hg ht hc hw)]
    exact Yd.wp (h.mono fun _ _ hj => hK _ _ (by rw [hd]; exact hj _ (hF.put hn)))

/-- Guarded: the guard says no. -/
theorem g_skip {g t : Nat} {want c : Bool} (hF : Fr n F a dd) (hg : o.guard = some (g, want)) (ht : (ops[g]?).bind (·.dst) = some t) (hc : look F t = some (.bool c)) (hw : c = !want)
    (hd : o.dst = some d) (hn : Nat.blt d n = true)
    (next : ∀ a', Fr n ((d, undef) :: F) a' dd → wpL r P ops Q rest a' w) : wpL r P ops Q (o :: rest) a w :=
  wpListIn_step fun _ hK => by
    rw [if_neg (by rw [wanted_no hF hg ht hc hw]; exact Bool.false_ne_true)]
    exact ⟨fun _ _ => trivial, hK _ _ (by rw [hd]; exact next _ (hF.put hn))⟩
end inorder

/-! ### Code -/
section code
variable {r : Option Nat} {P : Program} {Q : Exit → Act → World → Prop} {a : Act} {dd : List Deferred} {w : World}
theorem c_seq {x y : Code} (h : Wp r P x (Exit.then (Wp r P y Q) Q) a w) : Wp r P (.seq x y) Q a w := wpIn_seq h
theorem c_skip (h : Q .normal a w) : Wp r P .skip Q a w := wpIn_skip h
theorem c_exit {id : Nat} (h : Q (.exit id) a w) : Wp r P (.exit id) Q a w := wpIn_exit h
theorem c_ret (h : Q .ret a w) : Wp r P .ret Q a w := wpIn_ret h
theorem c_block {id : Nat} {c : Code} (h : Wp r P c (Exit.inBlock id Q) a w) : Wp r P (.block id c) Q a w := wpIn_block h
theorem c_region {i : Nat} {l : List Oper} (h : wpL r P l.toArray Q l a w) : Wp r P (.region i l.toArray false) Q a w := wpIn_region_lit h
theorem c_nil {ops : Array Oper} (h : Q .normal a w) : wpL r P ops Q [] a w := h
theorem n_then {K : Act → World → Prop} (h : K a w) : Exit.then K Q .normal a w := h
theorem n_block {i : Nat} (h : Q .normal a w) : Exit.inBlock i Q .normal a w := h
theorem x_then {K : Act → World → Prop} {i : Nat} (h : Q (.exit i) a w) : Exit.then K Q (.exit i) a w := h
theorem x_hit {i : Nat} (h : Q .normal a w) : Exit.inBlock i Q (.exit i) a w := by simpa [Exit.inBlock] using h
theorem x_miss {i j : Nat} (hij : Nat.beq j i = false) (h : Q (.exit j) a w) : Exit.inBlock i Q (.exit j) a w := by
  have : j ≠ i := fun e => by subst e; simp at hij
  simpa [Exit.inBlock, this] using h
theorem r_then {K : Act → World → Prop} (h : Q .ret a w) : Exit.then K Q .ret a w := h
theorem r_block {i : Nat} (h : Q .ret a w) : Exit.inBlock i Q .ret a w := h

theorem c_cond {c : Operand} {x y : Code} {n : Nat} {F : List (Nat × Value)} {b : Bool} (hF : Fr n F a dd) (hc : ev F c = some (.bool b)) (ht : b = true → Wp r P x Q a w) (hf : b = false → Wp r P y Q a w) :
    Wp r P (.cond c x y) Q a w := wpIn_cond_split (hF.eval hc) ht hf

/-- A loop: the relation is a family over x; each round hands on to a later member, or leaves. -/
theorem c_loop {X : Type} {c : Code} (I : X → Act → World → Prop) (μ : X → Nat) (x₀ : X) (h₀ : I x₀ a w)
    (round : ∀ x a w, I x a w → Wp r P c (Exit.then (fun a' w' => ∃ y, I y a' w' ∧ μ y < μ x) Q) a w) : Wp r P (.loop c) Q a w := by
  intro b k cs hro hb hr
  have key : ∀ m x a w, μ x = m → I x a w →
      ∃ e a' w', Q e a' w' ∧ ArrivesIn (Machine.fenced P (Wd r)) P (lone (b.atR a (.code c :: .inLoop c :: k)) cs w) b k cs e a' w' := by
    intro m
    induction m using Nat.strongRecOn with
    | _ m ih =>
      intro x a w hn hI
      obtain ⟨e, a₁, w₁, hq, harr⟩ := round x a w hI b (.inLoop c :: k) cs hro hb hr
      cases e with
      | normal =>
        obtain ⟨y, hI₁, hlt⟩ := hq
        obtain ⟨e₂, a₂, w₂, hq₂, harr₂⟩ := ih (μ y) (hn ▸ hlt) y a₁ w₁ rfl hI₁
        exact ⟨e₂, a₂, w₂, hq₂, .of_steps (StepsIn.trans harr (.one (fenced_calm hb hr rfl) stepR_inLoop)) harr₂⟩
      | exit id => exact ⟨_, a₁, w₁, hq, .pass (x := .inLoop c) rfl (fun _ _ => .inl (by simp)) harr⟩
      | goto l => exact ⟨_, a₁, w₁, hq, .pass (x := .inLoop c) rfl (fun _ _ => .inl (by simp)) harr⟩
      | ret => exact ⟨_, a₁, w₁, hq, .pass (x := .inLoop c) rfl (fun _ _ => .inl (by simp)) harr⟩
      | panic ch => exact ⟨_, a₁, w₁, hq, .pass (x := .inLoop c) rfl (fun _ _ => .inl (by simp)) harr⟩
      | outgrown => exact ⟨_, a₁, w₁, hq, .pass (x := .inLoop c) rfl (fun _ _ => .inl (by simp)) harr⟩
  obtain ⟨e, a', w', hq, harr⟩ := key _ x₀ a w rfl h₀
  exact ⟨e, a', w', hq, .of_steps (.one (fenced_calm hb hr rfl) stepR_loop) harr⟩
/-- Ways meet: a piece of code leaves what R says (or leaves otherwise as Q says), and what follows goes on from R. -/
theorem c_meet {c : Code} {R : Act → World → Prop} (h : Wp r P c (Exit.then R Q) a w) (next : ∀ a w, R a w → Q .normal a w) : Wp r P c Q a w :=
  wpIn_mono h fun e a w q => by cases e <;> first | exact next _ _ q | exact q

theorem calls_enter {f : FuncId} {fn : Func} {c : Code} {vs : List Value} {m : Nat} {R : Value → World → Prop} (hf : P.funcs[f]? = some fn) (hb : fn.body = some c) (hm : fn.ntmps = m) (hn : Nat.ble vs.length m = true)
    (h : ∀ a, Fr m (idx 0 vs) a → Wp none P c (bP P fn (Ret R)) a w) : Calls P f vs.toArray w (Ret R) := by
  refine callsIn_wide.1 (callsIn_of_wp_marks (F := Wd none) (n := 0) hf hb trivial ?_ rfl)
  subst hm
  exact h _ (Fr.enter vs fn.ntmps hn)

theorem leaves_nil {fn : Func} {R : Value → World → Prop} {v : Value} (hd : a.defers = []) (hr : (results fn a.tmps).run P w = .ok v w) (h : R v w) : LeavesInM (Wd none) 0 P fn a.tmps (Ret R) a.defers .returning w := by
  rw [hd]; exact ⟨v, hr, h⟩
/-- The end of a body: one result in a temporary. -/
theorem e_ret1 {fn : Func} {t n : Nat} {F : List (Nat × Value)} {v : Value} {R : Value → World → Prop} (hr : fn.results = #[.tmp t]) (hF : Fr n F a) (hv : look F t = some v) (h : R v w) : bP P fn (Ret R) .ret a w := by
  refine leaves_nil (v := v) hF.defers ?_ h
  have := hF.get t v hv
  simp [results, hr, this]
theorem e_end0 {fn : Func} {n : Nat} {F : List (Nat × Value)} {R : Value → World → Prop} (hr : fn.results = #[]) (hF : Fr n F a) (h : R (.tuple #[]) w) : bP P fn (Ret R) .normal a w :=
  leaves_nil (v := .tuple #[]) hF.defers (by simp [results, hr]) h
theorem e_ret0 {fn : Func} {n : Nat} {F : List (Nat × Value)} {R : Value → World → Prop} (hr : fn.results = #[]) (hF : Fr n F a) (h : R (.tuple #[]) w) : bP P fn (Ret R) .ret a w :=
  leaves_nil (v := .tuple #[]) hF.defers (by simp [results, hr]) h

/-- Results one by one: temporaries, and variables. -/
def resOf (P : Program) (w : World) (tmps : Array Value) : List ResultVar → List Value → Prop
  | [], [] => True
  | .tmp t :: rs, v :: vs => tmps[t]? = some v ∧ resOf P w tmps rs vs
  | .cell t ty :: rs, v :: vs => (∃ p, tmps[t]? = some (.pointer (some p)) ∧ (loadVar ty p).run P w = .ok v w) ∧ resOf P w tmps rs vs
  | _, _ => False

def resFn (tmps : Array Value) : ResultVar → Sem Value
  | .tmp t => pure (tmps.getD t undef)
  | .cell a t => do loadVar t (← asAddr (tmps.getD a undef))

theorem run_mapM_results (tmps : Array Value) (rs : List ResultVar) (vs : List Value) (h : resOf P w tmps rs vs) : (rs.mapM (resFn tmps)).run P w = .ok vs w := by
  induction rs generalizing vs with
  | nil => cases vs with
    | nil => simp
    | cons _ _ => exact h.elim
  | cons r rs ih =>
    cases r with
    | tmp t => cases vs with
      | nil => exact h.elim
      | cons v vs =>
        obtain ⟨h1, h2⟩ := h
        simp only [List.mapM_cons, Sem.run_bind]
        simp [resFn, h1, ih _ h2]
    | cell t ty => cases vs with
      | nil => exact h.elim
      | cons v vs =>
        obtain ⟨⟨p, h0, h1⟩, h2⟩ := h
        simp only [List.mapM_cons, Sem.run_bind]
        simp [resFn, h0, asAddr, h1, ih _ h2]

theorem run_results {fn : Func} {tmps : Array Value} {rs : List ResultVar} {vs : List Value} (hr : fn.results = rs.toArray) (h : resOf P w tmps rs vs) :
    (results fn tmps).run P w = .ok (if vs.length = 1 then vs.headD undef else .tuple vs.toArray) w := by
  have := run_mapM_results tmps rs vs h
  have e : results fn tmps = (do
      let us ← fn.results.mapM (resFn tmps)
      pure (if h : us.size = 1 then us[0] else .tuple us)) := rfl
  rw [e, hr, List.mapM_toArray, Sem.run_bind, Sem.run_map, this]
  simp only [Result.andThen_ok, Sem.run_pure]
  match vs with
  | [] => rfl
  | [v] => rfl
  | _ :: _ :: _ => rfl

theorem e_ret {fn : Func} {rs : List ResultVar} {vs : List Value} {v : Value} {n : Nat} {F : List (Nat × Value)} {R : Value → World → Prop} (hr : fn.results = rs.toArray) (hF : Fr n F a) (hv : resOf P w a.tmps rs vs)
    (he : (if vs.length = 1 then vs.headD undef else .tuple vs.toArray) = v) (h : R v w) : bP P fn (Ret R) .ret a w :=
  leaves_nil hF.defers (by rw [run_results hr hv, he]) h

theorem res_nil {tmps : Array Value} : resOf P w tmps [] [] := trivial
theorem res_tmp {n : Nat} {F : List (Nat × Value)} {t : Nat} {v : Value} {rs : List ResultVar} {vs : List Value} (hF : Fr n F a dd) (hv : look F t = some v) (h : resOf P w a.tmps rs vs) : resOf P w a.tmps (.tmp t :: rs) (v :: vs) :=
  ⟨hF.get t v hv, h⟩
theorem res_celln {n : Nat} {F : List (Nat × Value)} {t ty b off sz : Nat} {us : List Value} {rs : List ResultVar} {vs : List Value} (hF : Fr n F a dd) (hv : look F t = some (.pointer (some ⟨b, off, none⟩)))
    (ht : ∀ w, (isAgg ty).run P w = .ok true w) (hs : ∀ w, (sizeOf ty).run P w = .ok sz w) (hl : us.length = sz) (hc : Cells w b off us) (h : resOf P w a.tmps rs vs) : resOf P w a.tmps (.cell t ty :: rs) (.agg us.toArray :: vs) := by
  refine ⟨⟨_, hF.get t _ hv, ?_⟩, h⟩
  subst hl
  simp [loadVar, ht, hs, run_loadCells w b off us hc]
theorem res_cell1 {n : Nat} {F : List (Nat × Value)} {t ty b off : Nat} {u : Value} {rs : List ResultVar} {vs : List Value} (hF : Fr n F a dd) (hv : look F t = some (.pointer (some ⟨b, off, none⟩)))
    (ht : ∀ w, (isAgg ty).run P w = .ok false w) (hc : w.cell? ⟨b, off, none⟩ = some u) (h : resOf P w a.tmps rs vs) : resOf P w a.tmps (.cell t ty :: rs) (u :: vs) := by
  refine ⟨⟨_, hF.get t _ hv, ?_⟩, h⟩
  simp [loadVar, ht, hc]
end code
end Go.Fw
