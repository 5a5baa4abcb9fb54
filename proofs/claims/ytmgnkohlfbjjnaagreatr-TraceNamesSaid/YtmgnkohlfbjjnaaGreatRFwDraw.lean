/- Regions whose order is drawn: what only reads may lag behind; what acts comes in a forced order. No statement of the seat is proved here. -/
import Derived.Test.YtmgnkohlfbjjnaaGreatRFwSteps
namespace Go.Fw
set_option linter.unusedVariables false
set_option linter.unusedSimpArgs false

def aft (o : Oper) : List Nat := (o.after.toList.filter (fun e => Region.binds .any e)).map (·.on)
def aftOf (ops : Array Oper) (i : Nat) : List Nat := match ops[i]? with | some o => aft o | none => []
def dstOf (ops : Array Oper) (i : Nat) : Option Tmp := match ops[i]? with | some o => o.dst | none => none
def readsOf (ops : Array Oper) (i : Nat) : List Tmp := match ops[i]? with | some o => o.looksAt ops | none => []
def memN (i : Nat) : List Nat → Bool
  | [] => false
  | j :: r => Nat.beq i j || memN i r
theorem memN_iff {i : Nat} {l : List Nat} : memN i l = true ↔ i ∈ l := by
  induction l with
  | nil => simp [memN]
  | cons j r ih => simp [memN, ih]
def isD (d : Tmp) : Option Tmp → Bool
  | some e => Nat.beq d e
  | none => false

/-- No two write one temporary; who reads what another one writes is ordered against it; edges lead back. -/
def chk (ops : Array Oper) : Bool := (List.range ops.size).all fun i =>
  (aftOf ops i).all (fun p => Nat.blt p i) &&
  (match dstOf ops i with
   | none => true
   | some d => !memN d (readsOf ops i) && (List.range ops.size).all fun j => Nat.beq j i || (!isD d (dstOf ops j) && (!memN d (readsOf ops j) || memN i (aftOf ops j) || memN j (aftOf ops i))))
/-- Whoever reads what it writes comes behind it. -/
def chkq (ops : Array Oper) (i : Nat) : Bool :=
  match dstOf ops i with
  | none => true
  | some d => (List.range ops.size).all fun j => Nat.beq j i || !memN d (readsOf ops j) || memN i (aftOf ops j)
def noSel (o : Oper) : Bool := match o.op with | .select .. => false | _ => true
/-- It may be looked at now. -/
def okq (ops : Array Oper) (T : List Nat) (i : Nat) : Bool :=
  !memN i T && (aftOf ops i).all (memN · T) && chkq ops i && (match ops[i]? with | some o => noSel o | none => false)
/-- All but those done and these wait for one that is not done. -/
def blk (ops : Array Oper) (T A : List Nat) : Bool := (List.range ops.size).all fun k => memN k T || memN k A || (aftOf ops k).any (fun p => !memN p T)
def allDone (ops : Array Oper) (T : List Nat) : Bool := (List.range ops.size).all (memN · T)

section
variable {ops : Array Oper}
theorem chk_aft (h : chk ops = true) {i p : Nat} (hi : i < ops.size) (hp : p ∈ aftOf ops i) : p < i := by
  have := List.all_eq_true.1 h i (List.mem_range.2 hi)
  simp only [Bool.and_eq_true, List.all_eq_true] at this
  exact Nat.le_of_ble_eq_true (this.1 p hp)
theorem isD_iff {d : Tmp} {x : Option Tmp} : isD d x = true ↔ x = some d := by
  cases x with
  | none => simp [isD]
  | some e => simp [isD]; exact eq_comm
theorem chk_dst (h : chk ops = true) {i d : Nat} (hi : i < ops.size) (hd : dstOf ops i = some d) :
    d ∉ readsOf ops i ∧ ∀ j, j < ops.size → j ≠ i → dstOf ops j ≠ some d ∧ (d ∈ readsOf ops j → i ∈ aftOf ops j ∨ j ∈ aftOf ops i) := by
  have := List.all_eq_true.1 h i (List.mem_range.2 hi)
  rw [hd] at this
  simp only [Bool.and_eq_true, List.all_eq_true, List.mem_range, Bool.or_eq_true, Bool.not_eq_true', Nat.beq_eq] at this
  obtain ⟨_, h1, h2⟩ := this
  refine ⟨fun hm => (by rw [memN_iff.2 hm] at h1; cases h1), fun j hj hji => ?_⟩
  rcases h2 j hj with h3 | ⟨h3, h4⟩
  · exact absurd h3 hji
  · refine ⟨fun e => ?_, fun hr => ?_⟩
    · rw [isD_iff.2 e] at h3; cases h3
    · rcases h4 with (h4 | h4) | h4
      · rw [memN_iff.2 hr] at h4; cases h4
      · exact .inl (memN_iff.1 h4)
      · exact .inr (memN_iff.1 h4)
theorem chkq_reads {i d j : Nat} (h : chkq ops i = true) (hd : dstOf ops i = some d) (hj : j < ops.size) (hji : j ≠ i) (hr : d ∈ readsOf ops j) : i ∈ aftOf ops j := by
  unfold chkq at h
  rw [hd] at h
  simp only [List.all_eq_true, List.mem_range, Bool.or_eq_true, Bool.not_eq_true', Nat.beq_eq] at h
  rcases h j hj with (h3 | h3) | h3
  · exact absurd h3 hji
  · rw [memN_iff.2 hr] at h3; cases h3
  · exact memN_iff.1 h3

/-- What it yields, or nothing where its guard says no. -/
def YieldsAt (P : Program) (ops : Array Oper) (o : Oper) (a : Act) (w : World) (v : Value) : Prop :=
  (Region.wanted o (yielded ops a.tmps) = true ∧ (execOp a.eval o).run P w = .ok (.value v) w) ∨ (Region.wanted o (yielded ops a.tmps) = false ∧ v = undef)

theorem eval_same {o : Oper} {a a' : Act} (h : ∀ t ∈ o.looksAt ops, a.tmps[t]? = a'.tmps[t]?) : (∀ x ∈ o.op.operands, a.eval x = a'.eval x) ∧ Region.wanted o (yielded ops a.tmps) = Region.wanted o (yielded ops a'.tmps) := by
  constructor
  · intro x hx
    cases x with
    | tmp t =>
      have : t ∈ o.looksAt ops := by
        simp only [Oper.looksAt, List.mem_append, List.mem_filterMap]
        exact .inl ⟨.tmp t, by simpa using hx, rfl⟩
      simp only [Act.eval, Array.getD_eq_getD_getElem?, h t this]
    | const v => rfl
    | global g => rfl
    | func f => rfl
  · unfold Region.wanted
    cases hg : o.guard with
    | none => rfl
    | some p =>
      obtain ⟨j, want⟩ := p
      have : yielded ops a.tmps j = yielded ops a'.tmps j := by
        unfold yielded
        cases hd : (ops[j]?).bind (·.dst) with
        | none => rfl
        | some d =>
          have hm : d ∈ o.looksAt ops := by
            simp [Oper.looksAt, hg, hd]
          simp only [Option.bind_some, h d hm]
      simp only [this]

theorem noSel_spec {o : Oper} (h : noSel o = true) : ∀ cs b, o.op ≠ .select cs b := by
  intro cs b e
  simp [noSel, e] at h

theorem YieldsAt.congr {P : Program} {o : Oper} {a a' : Act} {w : World} {v : Value} (hs : noSel o = true) (h : ∀ t ∈ o.looksAt ops, a.tmps[t]? = a'.tmps[t]?) (hy : YieldsAt P ops o a w v) : YieldsAt P ops o a' w v := by
  obtain ⟨h1, h2⟩ := eval_same h
  unfold YieldsAt at *
  rw [← h2, ← execOp_congr o (noSel_spec hs) h1]
  exact hy

structure Pq (P : Program) (ops : Array Oper) (T : List Nat) (Cs : World → Prop) (a : Act) (i : Nat) (v : Value) : Prop where
  aft : ∀ p ∈ aftOf ops i, p ∈ T
  q : chkq ops i = true
  ns : ∀ o, ops[i]? = some o → noSel o = true
  yields : ∀ o, ops[i]? = some o → ∀ w, Cs w → YieldsAt P ops o a w v

/-- The frame a as it is; the frame s as it would be had all of T been looked at. -/
structure Lag (ops : Array Oper) (T : List Nat) (pend : List (Nat × Value)) (s : Act) (listed : Array Bool) (a : Act) : Prop where
  size : listed.size = ops.size
  list : ∀ i, i < ops.size → (listed.getD i true = true ↔ i ∈ T ∧ ∀ p ∈ pend, p.1 ≠ i)
  tlt : ∀ i ∈ T, i < ops.size
  closed : ∀ i, i < ops.size → listed.getD i true = true → ∀ p ∈ aftOf ops i, listed.getD p true = true
  pendT : ∀ p ∈ pend, p.1 ∈ T
  nodup : pend.Pairwise (fun p q => p.1 ≠ q.1)
  defers : s.defers = a.defers
  tsize : s.tmps.size = a.tmps.size
  same : ∀ t, (∀ p ∈ pend, dstOf ops p.1 ≠ some t) → s.tmps[t]? = a.tmps[t]?
  late : ∀ p ∈ pend, ∀ d, dstOf ops p.1 = some d → d < a.tmps.size → s.tmps[d]? = some p.2

def unl (ops : Array Oper) (listed : Array Bool) : Nat := (List.range ops.size).countP (fun i => !listed.getD i true)

def DW (r : Option Nat) (P : Program) (ops : Array Oper) (Q : Exit → Act → World → Prop) (T : List Nat) (Cs C : World → Prop) (s : Act) : Prop :=
  ∀ fuel listed pend a w, Cs w → C w → Lag ops T pend s listed a → (∀ p ∈ pend, Pq P ops T Cs s p.1 p.2) → unl ops listed ≤ fuel → wpAnyIn (Wd r) 0 P .any ops Q fuel listed a w

theorem mem_ready {listed : Array Bool} (hs : listed.size = ops.size) {i : Nat} : i ∈ Region.ready .any ops listed ↔ i < ops.size ∧ listed.getD i true = false ∧ ∀ p ∈ aftOf ops i, listed.getD p false = true := by
  simp only [Region.ready, List.mem_filter, List.mem_range, Bool.and_eq_true, Bool.not_eq_true']
  constructor
  · rintro ⟨h1, h2, h3⟩
    refine ⟨h1, h2, fun p hp => ?_⟩
    unfold aftOf at hp
    cases ho : ops[i]? with
    | none => simp [ho] at hp
    | some o =>
      simp only [ho, Option.map_some, Option.getD_some, Array.all_eq_true'] at h3 hp
      simp only [aft, List.mem_map, List.mem_filter] at hp
      obtain ⟨e, ⟨he, hb⟩, rfl⟩ := hp
      have := h3 e (by simpa using he)
      simpa [hb] using this
  · rintro ⟨h1, h2, h3⟩
    refine ⟨h1, h2, ?_⟩
    have ho : ops[i]? = some ops[i] := by simp [h1]
    simp only [ho, Option.map_some, Option.getD_some, Array.all_eq_true']
    intro e he
    cases hb : Region.binds .any e with
    | false => rfl
    | true =>
      have := h3 e.on (by
        simp only [aftOf, ho, aft, List.mem_map, List.mem_filter]
        exact ⟨e, ⟨by simpa using he, hb⟩, rfl⟩)
      simpa using this

theorem getD_true_of_false {listed : Array Bool} {p : Nat} (h : listed.getD p false = true) : listed.getD p true = true := by
  simp only [Array.getD_eq_getD_getElem?] at *
  cases hx : listed[p]? with
  | none => simp
  | some b => simpa [hx] using h
theorem getD_false_of_true {listed : Array Bool} {p : Nat} (hp : p < listed.size) (h : listed.getD p true = true) : listed.getD p false = true := by
  simp only [Array.getD_eq_getD_getElem?] at *
  simpa [hp] using h

theorem ready_ne {listed : Array Bool} (hchk : chk ops = true) (hs : listed.size = ops.size) : ∀ i, i < ops.size → listed.getD i true = false → Region.ready .any ops listed ≠ [] := by
  intro i
  induction i using Nat.strongRecOn with
  | _ i ih =>
    intro hi hl
    by_cases hall : ∀ p ∈ aftOf ops i, listed.getD p false = true
    · exact List.ne_nil_of_mem ((mem_ready hs).2 ⟨hi, hl, hall⟩)
    · simp only [Classical.not_forall] at hall
      obtain ⟨p, hp, hf⟩ := hall
      have hlt := chk_aft hchk hi hp
      refine ih p hlt (by omega) ?_
      cases hx : listed.getD p true with
      | false => rfl
      | true => exact absurd (getD_false_of_true (by omega) hx) hf

theorem unl_set {listed : Array Bool} (hs : listed.size = ops.size) {i : Nat} (hi : i < ops.size) (hl : listed.getD i true = false) : unl ops (listed.setIfInBounds i true) + 1 ≤ unl ops listed := by
  unfold unl
  have key : ∀ l : List Nat, i ∈ l → l.Nodup → (∀ j ∈ l, j < ops.size) → l.countP (fun j => !(listed.setIfInBounds i true).getD j true) + 1 ≤ l.countP (fun j => !listed.getD j true) := by
    have hset : ∀ j, (listed.setIfInBounds i true).getD j true = (if j = i then true else listed.getD j true) := by
      intro j
      simp only [Array.getD_eq_getD_getElem?, Array.getElem?_setIfInBounds]
      split
      · rename_i e; subst e
        split
        · simp
        · simp [hs, hi] at *
      · rename_i e
        have : j ≠ i := fun x => e x.symm
        simp [this]
    intro l
    induction l with
    | nil => intro hm; cases hm
    | cons j l ih =>
      intro hm hn hlt
      simp only [List.countP_cons, hset]
      by_cases hji : j = i
      · subst hji
        have hnot : j ∉ l := (List.nodup_cons.1 hn).1
        have heq : l.countP (fun x => !if x = j then true else listed.getD x true) = l.countP (fun x => !listed.getD x true) := by
          refine List.countP_congr fun x hx => ?_
          have : x ≠ j := fun e => hnot (e ▸ hx)
          simp [this]
        rw [heq]
        simp only [hl]
        simp
      · have hmem : i ∈ l := by
          rcases List.mem_cons.1 hm with e | e
          · exact absurd e.symm hji
          · exact e
        have := ih hmem (List.nodup_cons.1 hn).2 (fun x hx => hlt x (List.mem_cons_of_mem _ hx))
        simp only [hset] at this
        simp only [hji, if_false]
        omega
  exact key _ (List.mem_range.2 hi) List.nodup_range (fun j hj => List.mem_range.1 hj)

theorem setD {listed : Array Bool} {i : Nat} (hi : i < listed.size) (j : Nat) : (listed.setIfInBounds i true).getD j true = (if j = i then true else listed.getD j true) := by
  simp only [Array.getD_eq_getD_getElem?, Array.getElem?_setIfInBounds]
  split
  · rename_i e; subst e; simp
  · rename_i e
    have : j ≠ i := fun x => e x.symm
    simp [this]

theorem put_get {a : Act} {d t : Nat} {v : Value} : (a.put (some d) v).tmps[t]? = if d = t then (if d < a.tmps.size then some v else none) else a.tmps[t]? := by
  simp only [Act.put, Array.getElem?_setIfInBounds]
end

theorem wpOp_pend {r : Option Nat} {P : Program} {ops : Array Oper} {Q : Exit → Act → World → Prop} {j : Nat} {o : Oper} {a : Act} {w : World} {v : Value} {K : Act → World → Prop} (ho : ops[j]? = some o) (hy : YieldsAt P ops o a w v) (h : K (a.put o.dst v) w) : wpOpIn (Wd r) 0 P ops Q j K a w := by
  unfold wpOpIn
  simp only [ho]
  rcases hy with ⟨h1, h2⟩ | ⟨h1, rfl⟩
  · rw [if_pos h1]
    exact Yd.wp (Yd.val h2 h)
  · rw [if_neg (by rw [h1]; exact Bool.false_ne_true)]
    exact ⟨fun _ _ => trivial, h⟩

section
variable {r : Option Nat} {P : Program} {ops : Array Oper} {Q : Exit → Act → World → Prop} {T : List Nat} {Cs C : World → Prop} {s : Act}

/-- One that lags is looked at now. -/
theorem Lag.step {pend : List (Nat × Value)} {listed : Array Bool} {a : Act} (hchk : chk ops = true) (st : Lag ops T pend s listed a) {j : Nat} {v : Value} (hj : (j, v) ∈ pend) (hlt : j < ops.size)
    (hr : ∀ p ∈ aftOf ops j, listed.getD p false = true) : Lag ops T (pend.filter (fun p => !Nat.beq p.1 j)) s (listed.setIfInBounds j true) (a.put (dstOf ops j) v) := by
  have hls : j < listed.size := by rw [st.size]; exact hlt
  have huniq : ∀ p ∈ pend, p.1 = j → p = (j, v) := by
    have hpw := st.nodup
    intro p hp hpj
    rcases List.pairwise_iff_getElem.1 hpw with hh
    obtain ⟨x, hx, rfl⟩ := List.getElem_of_mem hp
    obtain ⟨y, hy, he⟩ := List.getElem_of_mem hj
    rcases Nat.lt_trichotomy x y with h | h | h
    · exact absurd (by rw [he]; exact hpj) (hh x y hx hy h)
    · subst h; exact he
    · exact absurd (by rw [he]; exact hpj.symm) (hh y x hy hx h)
  have hmem : ∀ p, p ∈ pend.filter (fun p => !Nat.beq p.1 j) ↔ p ∈ pend ∧ p.1 ≠ j := by
    intro p
    simp only [List.mem_filter, Bool.not_eq_true', ← Bool.not_eq_true, Nat.beq_eq]
  constructor
  · simp [st.size]
  · intro i hi
    rw [setD hls]
    by_cases hij : i = j
    · subst hij
      simp only [if_true, true_iff]
      exact ⟨st.pendT _ hj, fun p hp => ((hmem p).1 hp).2⟩
    · simp only [hij, if_false]
      rw [st.list i hi]
      constructor
      · rintro ⟨h1, h2⟩; exact ⟨h1, fun p hp => h2 p ((hmem p).1 hp).1⟩
      · rintro ⟨h1, h2⟩
        refine ⟨h1, fun p hp hpi => ?_⟩
        by_cases hpj : p.1 = j
        · exact hij (hpi.symm.trans hpj)
        · exact h2 p ((hmem p).2 ⟨hp, hpj⟩) hpi
  · exact st.tlt
  · intro i hi hl p hp
    have hpi := chk_aft hchk hi hp
    rw [setD hls] at hl ⊢
    split
    · rfl
    · split at hl
      · rename_i e; subst e
        exact getD_true_of_false (hr p hp)
      · exact st.closed i hi hl p hp
  · intro p hp; exact st.pendT p ((hmem p).1 hp).1
  · exact st.nodup.filter _
  · rw [st.defers]; cases dstOf ops j <;> rfl
  · rw [st.tsize]; cases dstOf ops j <;> simp [Act.put]
  · intro t ht
    cases hd : dstOf ops j with
    | none =>
      refine st.same t fun p hp => ?_
      by_cases hpj : p.1 = j
      · rw [hpj, hd]; simp
      · exact ht p ((hmem p).2 ⟨hp, hpj⟩)
    | some d =>
      rw [put_get]
      by_cases hdt : d = t
      · subst hdt
        rw [if_pos rfl]
        split
        · rename_i hlt'
          exact st.late _ hj d hd hlt'
        · rename_i hge
          rw [Array.getElem?_eq_none (by rw [st.tsize]; omega)]
      · rw [if_neg hdt]
        refine st.same t fun p hp => ?_
        by_cases hpj : p.1 = j
        · rw [hpj, hd]; simpa using hdt
        · exact ht p ((hmem p).2 ⟨hp, hpj⟩)
  · intro p hp d hd hlt'
    refine st.late p ((hmem p).1 hp).1 d hd ?_
    cases hdj : dstOf ops j <;> simp [hdj, Act.put] at hlt' <;> exact hlt'

/-- What it reads reads so in the real frame too, once it is its turn. -/
theorem Lag.reads {pend : List (Nat × Value)} {listed : Array Bool} {a : Act} (st : Lag ops T pend s listed a) (hq : ∀ p ∈ pend, Pq P ops T Cs s p.1 p.2)
    {j : Nat} (hlt : j < ops.size) (hself : ∀ d, dstOf ops j = some d → d ∉ readsOf ops j) (hr : ∀ p ∈ aftOf ops j, listed.getD p false = true) : ∀ t ∈ readsOf ops j, s.tmps[t]? = a.tmps[t]? := by
  intro t ht
  refine st.same t fun p hp hd => ?_
  by_cases hpj : p.1 = j
  · rw [hpj] at hd; exact hself t hd ht
  · have h1 := chkq_reads (hq p hp).q hd hlt (fun e => hpj e.symm) ht
    have h2 := getD_true_of_false (hr _ h1)
    exact ((st.list p.1 (st.tlt _ (st.pendT p hp))).1 h2).2 p hp rfl

theorem readsOf_some {j : Nat} {o : Oper} (ho : ops[j]? = some o) : readsOf ops j = o.looksAt ops := by simp [readsOf, ho]
theorem dstOf_some {j : Nat} {o : Oper} (ho : ops[j]? = some o) : dstOf ops j = o.dst := by simp [dstOf, ho]

theorem Lag.yields {pend : List (Nat × Value)} {listed : Array Bool} {a : Act} {w : World} (hchk : chk ops = true) (st : Lag ops T pend s listed a) (hq : ∀ p ∈ pend, Pq P ops T Cs s p.1 p.2)
    {j : Nat} {v : Value} {o : Oper} (ho : ops[j]? = some o) (hj : (j, v) ∈ pend) (hr : ∀ p ∈ aftOf ops j, listed.getD p false = true) (hw : Cs w) : YieldsAt P ops o a w v := by
  have hlt : j < ops.size := (Array.getElem?_eq_some_iff.1 ho).1
  have h := (hq _ hj).yields o ho w hw
  refine h.congr ((hq _ hj).ns o ho) fun t ht => ?_
  exact st.reads hq hlt (fun d hd => (chk_dst hchk hlt hd).1) hr t (by rw [readsOf_some ho]; exact ht)

/-- Nothing is left to do. -/
theorem dw_end (hchk : chk ops = true) (hall : allDone ops T = true) (h : ∀ w, C w → Q .normal s w) : DW r P ops Q T Cs C s := by
  have hT : ∀ i, i < ops.size → i ∈ T := fun i hi => memN_iff.1 (List.all_eq_true.1 hall i (List.mem_range.2 hi))
  have fin : ∀ listed pend a w, C w → Lag ops T pend s listed a → Region.ready .any ops listed = [] → Q .normal a w := by
    intro listed pend a w hC st hr
    have hl : ∀ i, i < ops.size → listed.getD i true = true := by
      intro i hi
      cases hx : listed.getD i true with
      | true => rfl
      | false => exact absurd hr (ready_ne hchk st.size i hi hx)
    have hp : pend = [] := by
      cases pend with
      | nil => rfl
      | cons p r =>
        have := st.tlt _ (st.pendT p (by simp))
        exact absurd rfl (((st.list p.1 this).1 (hl _ this)).2 p (by simp))
    subst hp
    have hs : s = a := by
      have h1 := st.defers
      have h2 : s.tmps = a.tmps := Array.ext_getElem? fun t => st.same t (by simp)
      cases s; cases a; simp_all
    exact hs ▸ h w hC
  intro fuel
  induction fuel with
  | zero =>
    intro listed pend a w _ hC st _ hf
    have hr : Region.ready .any ops listed = [] := by
      cases hx : Region.ready .any ops listed with
      | nil => rfl
      | cons i r =>
        have hi := (mem_ready st.size).1 (by rw [hx]; exact List.mem_cons_self : i ∈ _)
        have := unl_set st.size hi.1 hi.2.1
        omega
    exact ⟨hr, fin _ _ _ _ hC st hr⟩
  | succ fuel ih =>
    intro listed pend a w hCs hC st hq hf
    refine ⟨fun hr => fin _ _ _ _ hC st hr, fun i hi => ?_⟩
    obtain ⟨h1, h2, h3⟩ := (mem_ready st.size).1 hi
    have hpd : ∃ v, (i, v) ∈ pend := by
      apply Classical.byContradiction
      intro hno
      have : listed.getD i true = true := (st.list i h1).2 ⟨hT i h1, fun p hp hpi => hno ⟨p.2, hpi ▸ hp⟩⟩
      rw [h2] at this; cases this
    obtain ⟨v, hv⟩ := hpd
    have ho : ops[i]? = some ops[i] := by simp [h1]
    refine wpOp_pend ho (st.yields hchk hq ho hv h3 hCs) ?_
    have st' := st.step hchk hv h1 h3
    rw [dstOf_some ho] at st'
    refine ih _ _ _ _ hCs hC st' (fun p hp => hq p (List.mem_filter.1 hp).1) ?_
    have := unl_set st.size h1 h2
    omega

/-- One more may be looked at. -/
theorem dw_q (hchk : chk ops = true) {i : Nat} {o : Oper} {v : Value} (ho : ops[i]? = some o) (hok : okq ops T i = true) (hy : ∀ w, Cs w → YieldsAt P ops o s w v) (next : DW r P ops Q (i :: T) Cs C (s.put o.dst v)) : DW r P ops Q T Cs C s := by
  have hlt : i < ops.size := (Array.getElem?_eq_some_iff.1 ho).1
  simp only [okq, ho, Bool.and_eq_true, Bool.not_eq_true', List.all_eq_true] at hok
  obtain ⟨⟨⟨hT, haft⟩, hcq⟩, hns⟩ := hok
  have hT : i ∉ T := fun h => by rw [memN_iff.2 h] at hT; cases hT
  have haft : ∀ p ∈ aftOf ops i, p ∈ T := fun p hp => memN_iff.1 (haft p hp)
  have hself : ∀ d, o.dst = some d → d ∉ o.looksAt ops := fun d hd => by
    have := (chk_dst hchk hlt (by rw [dstOf_some ho]; exact hd)).1
    rwa [readsOf_some ho] at this
  have hput : ∀ t, o.dst ≠ some t → (s.put o.dst v).tmps[t]? = s.tmps[t]? := by
    intro t ht
    cases hd : o.dst with
    | none => rfl
    | some d => rw [put_get, if_neg (fun e => ht (by rw [hd, e]))]
  intro fuel listed pend a w hCs hC st hq hf
  have hni : ∀ p ∈ pend, p.1 ≠ i := fun p hp e => hT (e ▸ st.pendT p hp)
  refine next fuel listed ((i, v) :: pend) a w hCs hC ?_ ?_ hf
  · constructor
    · exact st.size
    · intro j hj
      rw [st.list j hj]
      constructor
      · rintro ⟨h1, h2⟩
        refine ⟨List.mem_cons_of_mem _ h1, fun p hp => ?_⟩
        rcases List.mem_cons.1 hp with rfl | hp
        · intro e
          have e' : i = j := e
          subst e'
          exact hT h1
        · exact h2 p hp
      · rintro ⟨h1, h2⟩
        refine ⟨?_, fun p hp => h2 p (List.mem_cons_of_mem _ hp)⟩
        rcases List.mem_cons.1 h1 with rfl | h1
        · exact absurd rfl (h2 (j, v) List.mem_cons_self)
        · exact h1
    · intro j hj
      rcases List.mem_cons.1 hj with rfl | hj
      · exact hlt
      · exact st.tlt j hj
    · exact st.closed
    · intro p hp
      rcases List.mem_cons.1 hp with rfl | hp
      · exact List.mem_cons_self
      · exact List.mem_cons_of_mem _ (st.pendT p hp)
    · exact List.pairwise_cons.2 ⟨fun p hp e => hni p hp e.symm, st.nodup⟩
    · rw [← st.defers]; cases o.dst <;> rfl
    · rw [← st.tsize]; cases o.dst <;> simp [Act.put]
    · intro t ht
      rw [hput t (by have := ht (i, v) List.mem_cons_self; rwa [dstOf_some ho] at this)]
      exact st.same t fun p hp => ht p (List.mem_cons_of_mem _ hp)
    · intro p hp d hd hd'
      rcases List.mem_cons.1 hp with rfl | hp
      · rw [dstOf_some ho] at hd
        rw [hd, put_get, if_pos rfl, if_pos (by rw [st.tsize]; exact hd')]
      · rw [hput d ?_]
        · exact st.late p hp d hd hd'
        · intro e
          have h1 := ((chk_dst hchk hlt (by rw [dstOf_some ho]; exact e)).2 p.1 (st.tlt _ (st.pendT p hp)) (hni p hp)).1
          exact h1 hd
  · intro p hp
    rcases List.mem_cons.1 hp with rfl | hp
    · refine ⟨fun q hq' => List.mem_cons_of_mem _ (haft q hq'), hcq, fun o' ho' => ?_, fun o' ho' w' hw' => ?_⟩
      · rw [ho] at ho'; cases ho'; exact hns
      · rw [ho] at ho'; cases ho'
        refine (hy w' hw').congr hns fun t ht => ?_
        rw [hput t (fun e => hself t e ht)]
    · have h := hq p hp
      refine ⟨fun q hq' => List.mem_cons_of_mem _ (h.aft q hq'), h.q, h.ns, fun o' ho' w' hw' => ?_⟩
      refine (h.yields o' ho' w' hw').congr (h.ns o' ho') fun t ht => ?_
      rw [hput t ?_]
      intro e
      have h1 := chkq_reads hcq (by rw [dstOf_some ho]; exact e) (st.tlt _ (st.pendT p hp)) (hni p hp) (by rw [readsOf_some ho']; exact ht)
      exact hT (h.aft _ h1)

/-- All of T go ahead of e. -/
def ancs (ops : Array Oper) : Nat → List Nat → List Nat
  | 0, l => l
  | k + 1, l => ancs ops k (l ++ (l.flatMap (aftOf ops)).filter (fun p => !memN p l)).eraseDups
def sync (ops : Array Oper) (T : List Nat) (e : Nat) : Bool := T.all (fun j => memN j (ancs ops ops.size (aftOf ops e)))

theorem ancs_listed {listed : Array Bool} (hs : listed.size = ops.size) (hcl : ∀ i, i < ops.size → listed.getD i true = true → ∀ p ∈ aftOf ops i, listed.getD p true = true) :
    ∀ k l, (∀ i ∈ l, listed.getD i true = true) → ∀ i ∈ ancs ops k l, listed.getD i true = true := by
  intro k
  induction k with
  | zero => intro l h i hi; exact h i hi
  | succ k ih =>
    intro l h i hi
    refine ih _ ?_ i hi
    intro j hj
    rw [List.mem_eraseDups] at hj
    rcases List.mem_append.1 hj with hj | hj
    · exact h j hj
    · obtain ⟨hj, _⟩ := List.mem_filter.1 hj
      obtain ⟨m, hm, hjm⟩ := List.mem_flatMap.1 hj
      by_cases hmlt : m < ops.size
      · exact hcl m hmlt (h m hm) j hjm
      · simp [aftOf, Array.getElem?_eq_none (by omega : ops.size ≤ m)] at hjm

/-- Whatever has been looked at has come, where this one may come. -/
def SyncP (ops : Array Oper) (T : List Nat) (e : Nat) : Prop :=
  ∀ listed : Array Bool, listed.size = ops.size → (∀ i, i < ops.size → listed.getD i true = true → ∀ p ∈ aftOf ops i, listed.getD p true = true) →
    (∀ k ∈ aftOf ops e, listed.getD k true = true) → ∀ j ∈ T, listed.getD j true = true
theorem sync_P {ops : Array Oper} {T : List Nat} {e : Nat} (h : sync ops T e = true) : SyncP ops T e := fun _ hs hcl ha j hj =>
  ancs_listed hs hcl _ _ ha _ (memN_iff.1 (List.all_eq_true.1 h j hj))

/-- What acts next. -/
def Ex (r : Option Nat) (P : Program) (ops : Array Oper) (Q : Exit → Act → World → Prop) (T : List Nat) (Cs C : World → Prop) (s : Act) (e : Nat) : Prop :=
  ∃ o, ops[e]? = some o ∧ Region.wanted o (yielded ops s.tmps) = true ∧ noSel o = true ∧
    ∀ w, Cs w → C w → Yd P o s.eval w (fun v w' => ∃ Cs' C' : World → Prop, Cs' w' ∧ C' w' ∧ ((∀ x, Cs' x → Cs x) ∨ SyncP ops T e) ∧ DW r P ops Q (e :: T) Cs' C' (s.put o.dst v))
def exAll (r : Option Nat) (P : Program) (ops : Array Oper) (Q : Exit → Act → World → Prop) (T : List Nat) (Cs C : World → Prop) (s : Act) : List Nat → Prop
  | [] => True
  | e :: es => Ex r P ops Q T Cs C s e ∧ exAll r P ops Q T Cs C s es

theorem exAll_mem {A : List Nat} (h : exAll r P ops Q T Cs C s A) : ∀ e ∈ A, Ex r P ops Q T Cs C s e := by
  induction A with
  | nil => intro e he; cases he
  | cons x r ih =>
    intro e he
    rcases List.mem_cons.1 he with rfl | he
    · exact h.1
    · exact ih h.2 e he

theorem dw_e (hchk : chk ops = true) (A : List Nat) (hb : blk ops T A = true) (hn : ∃ e ∈ A, e < ops.size ∧ memN e T = false) (hA : exAll r P ops Q T Cs C s A) : DW r P ops Q T Cs C s := by
  have hA := exAll_mem hA
  obtain ⟨e₀, he₀, hlt₀, hT₀⟩ := hn
  have hT₀ : e₀ ∉ T := fun h => by rw [memN_iff.2 h] at hT₀; cases hT₀
  intro fuel
  induction fuel with
  | zero =>
    intro listed pend a w _ _ st _ hf
    have hl : listed.getD e₀ true = false := by
      cases hx : listed.getD e₀ true with
      | false => rfl
      | true => exact absurd ((st.list e₀ hlt₀).1 hx).1 hT₀
    have := unl_set st.size hlt₀ hl
    omega
  | succ fuel ih =>
    intro listed pend a w hCs hC st hq hf
    have hl₀ : listed.getD e₀ true = false := by
      cases hx : listed.getD e₀ true with
      | false => rfl
      | true => exact absurd ((st.list e₀ hlt₀).1 hx).1 hT₀
    refine ⟨fun hr => absurd hr (ready_ne hchk st.size e₀ hlt₀ hl₀), fun i hi => ?_⟩
    obtain ⟨h1, h2, h3⟩ := (mem_ready st.size).1 hi
    have hun := unl_set st.size h1 h2
    by_cases hiT : i ∈ T
    · have hpd : ∃ v, (i, v) ∈ pend := by
        apply Classical.byContradiction
        intro hno
        have : listed.getD i true = true := (st.list i h1).2 ⟨hiT, fun p hp hpi => hno ⟨p.2, hpi ▸ hp⟩⟩
        rw [h2] at this; cases this
      obtain ⟨v, hv⟩ := hpd
      have ho : ops[i]? = some ops[i] := by simp [h1]
      refine wpOp_pend ho (st.yields hchk hq ho hv h3 hCs) ?_
      have st' := st.step hchk hv h1 h3
      rw [dstOf_some ho] at st'
      exact ih _ _ _ _ hCs hC st' (fun p hp => hq p (List.mem_filter.1 hp).1) (by omega)
    · have hiA : i ∈ A := by
        have := List.all_eq_true.1 hb i (List.mem_range.2 h1)
        simp only [Bool.or_eq_true, List.any_eq_true, Bool.not_eq_true'] at this
        rcases this with (h | h) | ⟨p, hp, hpT⟩
        · exact absurd (memN_iff.1 h) hiT
        · exact memN_iff.1 h
        · have hpl := getD_true_of_false (h3 p hp)
          have hplt := chk_aft hchk h1 hp
          have := ((st.list p (by omega)).1 hpl).1
          rw [memN_iff.2 this] at hpT; cases hpT
      obtain ⟨o, ho, hwant, hns, hyd⟩ := hA i hiA
      have hreads : ∀ t ∈ o.looksAt ops, s.tmps[t]? = a.tmps[t]? := fun t ht =>
        st.reads hq h1 (fun d hd => (chk_dst hchk h1 hd).1) h3 t (by rw [readsOf_some ho]; exact ht)
      obtain ⟨hev, hwe⟩ := eval_same hreads
      unfold wpOpIn
      simp only [ho]
      rw [if_pos (by rw [← hwe]; exact hwant)]
      refine Yd.wp ?_
      have hyd' := hyd w hCs hC
      unfold Yd at hyd' ⊢
      rw [← execOp_congr o (noSel_spec hns) hev]
      change Yd P o s.eval w _
      refine Yd.mono (J := fun v w' => ∃ Cs' C' : World → Prop, Cs' w' ∧ C' w' ∧ ((∀ x, Cs' x → Cs x) ∨ SyncP ops T i) ∧ DW r P ops Q (i :: T) Cs' C' (s.put o.dst v)) hyd' ?_
      rintro v w' ⟨Cs', C', hCs', hC', hsub, hdw⟩
      have hls : i < listed.size := by rw [st.size]; exact h1
      have hnp : ∀ p ∈ pend, p.1 ≠ i := fun p hp e => hiT (e ▸ st.pendT p hp)
      have hdst : ∀ p ∈ pend, ∀ d, dstOf ops p.1 = some d → o.dst ≠ some d := by
        intro p hp d hd e
        exact ((chk_dst hchk h1 (by rw [dstOf_some ho]; exact e)).2 p.1 (st.tlt _ (st.pendT p hp)) (hnp p hp)).1 hd
      refine hdw fuel _ pend _ w' hCs' hC' ?_ ?_ (by omega)
      · constructor
        · simp [st.size]
        · intro j hj
          rw [setD hls]
          by_cases hji : j = i
          · subst hji
            simp only [if_true, true_iff]
            exact ⟨List.mem_cons_self, hnp⟩
          · simp only [hji, if_false]
            rw [st.list j hj]
            simp [hji]
        · intro j hj
          rcases List.mem_cons.1 hj with rfl | hj
          · exact h1
          · exact st.tlt j hj
        · intro j hj hl p hp
          rw [setD hls] at hl ⊢
          split
          · rfl
          · split at hl
            · rename_i e; subst e
              exact getD_true_of_false (h3 p hp)
            · exact st.closed j hj hl p hp
        · intro p hp; exact List.mem_cons_of_mem _ (st.pendT p hp)
        · exact st.nodup
        · have := st.defers
          cases o.dst <;> exact this
        · have := st.tsize
          cases o.dst <;> simp [Act.put, this]
        · intro t ht
          have hst := st.same t ht
          cases hd : o.dst with
          | none => exact hst
          | some d => rw [put_get, put_get, st.tsize]; split <;> first | rfl | exact hst
        · intro p hp d hd hlt'
          have hne := hdst p hp d hd
          have h0 : d < a.tmps.size := by cases hx : o.dst <;> simp [hx, Act.put] at hlt' <;> exact hlt'
          have := st.late p hp d hd h0
          cases hx : o.dst with
          | none => exact this
          | some x => rw [put_get, if_neg (fun e => hne (by rw [hx, e]))]; exact this
      · intro p hp
        have h := hq p hp
        have hpa : p.1 ∉ aftOf ops i := fun hm =>
          ((st.list p.1 (st.tlt _ (st.pendT p hp))).1 (getD_true_of_false (h3 _ hm))).2 p hp rfl
        refine ⟨fun q hq' => List.mem_cons_of_mem _ (h.aft q hq'), h.q, h.ns, fun o' ho' x hx => ?_⟩
        rcases hsub with hsub | hsync
        · refine (h.yields o' ho' x (hsub x hx)).congr (h.ns o' ho') fun t ht => ?_
          cases hd : o.dst with
          | none => rfl
          | some d =>
            rw [put_get, if_neg ?_]
            intro e
            subst e
            rcases ((chk_dst hchk h1 (by rw [dstOf_some ho]; exact hd)).2 p.1 (st.tlt _ (st.pendT p hp)) (hnp p hp)).2 (by rw [readsOf_some ho']; exact ht) with h4 | h4
            · exact hiT (h.aft _ h4)
            · exact hpa h4
        · have := hsync listed st.size st.closed (fun k hk => getD_true_of_false (h3 k hk)) p.1 (st.pendT p hp)
          exact absurd rfl (((st.list p.1 (st.tlt _ (st.pendT p hp))).1 this).2 p hp)

/-- More is said of what lags. -/
theorem dw_more {Cs2 : World → Prop} (h1 : ∀ w, Cs w → C w → Cs2 w) (h2 : ∀ w, Cs2 w → Cs w) (h : DW r P ops Q T Cs2 C s) : DW r P ops Q T Cs C s :=
  fun fuel listed pend a w hCs hC st hq hf => h fuel listed pend a w (h1 w hCs hC) hC st (fun p hp => ⟨(hq p hp).aft, (hq p hp).q, (hq p hp).ns, fun o ho x hx => (hq p hp).yields o ho x (h2 x hx)⟩) hf

/-- Where the region begins. -/
theorem c_draw {i : Nat} {l : List Oper} {a : Act} {w : World} (hm : P.follows .mixedOrders = true) (hCs : Cs w.drew) (hC : C w.drew) (h : DW r P l.toArray Q [] Cs C a) : Wp r P (.region i l.toArray true) Q a w := by
  refine wpIn_region_any hm (h _ _ [] a _ hCs hC ?_ (by simp) ?_)
  · constructor
    · simp
    · intro j hj
      have hj' : j < l.length := by simpa using hj
      simp [hj']
    · simp
    · intro j hj hl
      have hj' : j < l.length := by simpa using hj
      simp [hj'] at hl
    · simp
    · simp
    · rfl
    · rfl
    · intro t _; rfl
    · simp
  · unfold unl
    exact Nat.le_trans List.countP_le_length (by simp)
end
end Go.Fw
