/- A run of closed code, reckoned over plain data: what the plain data stand for. No statement of the seat is proved here. -/
import Derived.Test.YtmgnkohlfbjjnaaGreatREv
namespace Go.Ev
open Go.Fw
set_option linter.unusedSimpArgs false
set_option linter.unusedVariables false

/-! ### Rows by recursion -/
theorem getR_eq {α : Type} (l : List α) : ∀ k, getR l k = l[k]? := by
  induction l with
  | nil => intro k; simp [getR]
  | cons x l ih =>
    intro k
    have e : getR (x :: l) k = (bif Nat.beq k 0 then some x else getR l (k - 1)) := rfl
    rw [e]
    cases k with
    | zero => rfl
    | succ k => show getR l k = l[k]?; exact ih k
theorem dropR_eq {α : Type} (l : List α) : ∀ k, dropR l k = l.drop k := by
  induction l with
  | nil => intro k; simp [dropR]
  | cons x l ih =>
    intro k
    have e : dropR (x :: l) k = (bif Nat.beq k 0 then x :: l else dropR l (k - 1)) := rfl
    rw [e]
    cases k with
    | zero => rfl
    | succ k => show dropR l k = l.drop k; exact ih k
theorem takeR_eq {α : Type} (l : List α) : ∀ k, takeR l k = l.take k := by
  induction l with
  | nil => intro k; simp [takeR]
  | cons x l ih =>
    intro k
    have e : takeR (x :: l) k = (bif Nat.beq k 0 then [] else x :: takeR l (k - 1)) := rfl
    rw [e]
    cases k with
    | zero => rfl
    | succ k => show x :: takeR l k = x :: l.take k; rw [ih k]
theorem appR_eq {α : Type} (l m : List α) : appR l m = l ++ m := by
  induction l with
  | nil => rfl
  | cons x l ih =>
    have e : appR (x :: l) m = x :: appR l m := rfl
    rw [e, ih]; rfl
theorem lenR_eq {α : Type} (l : List α) : lenR l = l.length := by
  induction l with
  | nil => rfl
  | cons x l ih =>
    have e : lenR (x :: l) = lenR l + 1 := rfl
    rw [e, ih]; rfl
theorem overR_eq {α : Type} (vs : List α) : ∀ l : List α, vs.length ≤ l.length → overR vs l = vs ++ l.drop vs.length := by
  induction vs with
  | nil => intro l _; rfl
  | cons v vs ih =>
    intro l hl
    have e : overR (v :: vs) l = v :: overR vs l.tail := rfl
    rw [e]
    cases l with
    | nil => simp at hl
    | cons x l => rw [List.tail_cons, ih l (by simpa using hl)]; simp
theorem putR_eq {α : Type} (l : List α) (vs : List α) : ∀ k, k + vs.length ≤ l.length → putR l k vs = put l k vs := by
  induction l with
  | nil =>
    intro k h
    simp only [List.length_nil] at h
    have h1 : k = 0 := by omega
    have h2 : vs = [] := List.eq_nil_of_length_eq_zero (by omega)
    subst h1 h2; rfl
  | cons x l ih =>
    intro k h
    have e : putR (x :: l) k vs = (bif Nat.beq k 0 then overR vs (x :: l) else x :: putR l (k - 1) vs) := rfl
    rw [e]
    cases k with
    | zero =>
      simp only [Nat.zero_add] at h
      have : Nat.beq 0 0 = true := rfl
      rw [this, cond_true, overR_eq vs (x :: l) h]; simp [put]
    | succ k =>
      simp only [List.length_cons] at h
      have : Nat.beq (k + 1) 0 = false := rfl
      rw [this, cond_false, Nat.add_sub_cancel, ih k (by omega)]
      simp only [put, List.take_succ_cons, List.cons_append]
      congr 2
      rw [show k + 1 + vs.length = (k + vs.length) + 1 by omega]; simp

/-! ### Things by number -/
section
variable {α : Type}
theorem Tr.get_e (k : Nat) : (Tr.e : Tr α).get k = none := rfl
theorem beq_if {β : Type} (a b : Nat) (x y : β) : (bif Nat.beq a b then x else y) = if a = b then x else y := by
  cases h : Nat.beq a b with
  | true => rw [if_pos (Nat.eq_of_beq_eq_true h)]; rfl
  | false => rw [if_neg (fun e => by subst e; simp at h)]; rfl
theorem Tr.get_n (v : Option α) (l r : Tr α) (k : Nat) : (Tr.n v l r).get k = if k = 0 then v else if k % 2 = 1 then l.get (k / 2) else r.get (k / 2 - 1) := by
  rw [← beq_if, ← beq_if]; rfl
theorem Tr.set_e (k : Nat) (x : α) : (Tr.e : Tr α).set k x = Tr.path 20 k x := rfl
theorem Tr.set_n (v : Option α) (l r : Tr α) (k : Nat) (x : α) : (Tr.n v l r).set k x = if k = 0 then .n (some x) l r else if k % 2 = 1 then .n v (l.set (k / 2) x) r else .n v l (r.set (k / 2 - 1) x) := by
  rw [← beq_if, ← beq_if]; rfl
theorem Tr.path_s (d k : Nat) (x : α) : Tr.path (d + 1) k x = if k = 0 then .n (some x) .e .e else if k % 2 = 1 then .n none (Tr.path d (k / 2) x) .e else .n none .e (Tr.path d (k / 2 - 1) x) := by
  rw [← beq_if, ← beq_if]; rfl

theorem Tr.get_path (d : Nat) : ∀ (k m : Nat) (x : α), (m ≠ k → (Tr.path d k x).get m = none) ∧ (∀ y, (Tr.path d k x).get k = some y → y = x) := by
  induction d with
  | zero => intro k m x; exact ⟨fun _ => rfl, fun y h => by simp [Tr.path, Tr.get_e] at h⟩
  | succ d ih =>
    intro k m x
    rw [Tr.path_s]
    by_cases hk : k = 0
    · simp only [if_pos hk, Tr.get_n, Tr.get_e]
      refine ⟨fun h => ?_, fun y h => by simpa using h.symm⟩
      rw [if_neg (by omega)]; simp
    · by_cases h2 : k % 2 = 1
      · simp only [if_neg hk, if_pos h2, Tr.get_n, Tr.get_e]
        refine ⟨fun h => ?_, fun y h => (ih (k / 2) 0 x).2 y h⟩
        by_cases hm : m = 0
        · rw [if_pos hm]
        · rw [if_neg hm]
          by_cases hm2 : m % 2 = 1
          · rw [if_pos hm2]; exact (ih _ _ x).1 (by omega)
          · rw [if_neg hm2]
      · simp only [if_neg hk, if_neg h2, Tr.get_n, Tr.get_e]
        refine ⟨fun h => ?_, fun y h => (ih (k / 2 - 1) 0 x).2 y h⟩
        by_cases hm : m = 0
        · rw [if_pos hm]
        · rw [if_neg hm]
          by_cases hm2 : m % 2 = 1
          · rw [if_pos hm2]
          · rw [if_neg hm2]; exact (ih _ _ x).1 (by omega)
theorem Tr.get_set (t : Tr α) : ∀ (k m : Nat) (x : α), (m ≠ k → (t.set k x).get m = t.get m) ∧ (∀ y, (t.set k x).get k = some y → y = x) := by
  induction t with
  | e => intro k m x; rw [Tr.set_e]; exact ⟨fun h => (Tr.get_path 20 k m x).1 h, (Tr.get_path 20 k m x).2⟩
  | n v l r ihl ihr =>
    intro k m x
    rw [Tr.set_n]
    by_cases hk : k = 0
    · simp only [if_pos hk, Tr.get_n]
      refine ⟨fun h => ?_, fun y h => by simpa using h.symm⟩
      have hm : ¬ m = 0 := by omega
      rw [if_neg hm, if_neg hm]
    · by_cases h2 : k % 2 = 1
      · simp only [if_neg hk, if_pos h2, Tr.get_n]
        refine ⟨fun h => ?_, fun y h => (ihl (k / 2) 0 x).2 y h⟩
        by_cases hm : m = 0
        · rw [if_pos hm, if_pos hm]
        · rw [if_neg hm, if_neg hm]
          by_cases hm2 : m % 2 = 1
          · rw [if_pos hm2, if_pos hm2]; exact (ihl _ _ x).1 (by omega)
          · rw [if_neg hm2, if_neg hm2]
      · simp only [if_neg hk, if_neg h2, Tr.get_n]
        refine ⟨fun h => ?_, fun y h => (ihr (k / 2 - 1) 0 x).2 y h⟩
        by_cases hm : m = 0
        · rw [if_pos hm, if_pos hm]
        · rw [if_neg hm, if_neg hm]
          by_cases hm2 : m % 2 = 1
          · rw [if_pos hm2, if_pos hm2]
          · rw [if_neg hm2, if_neg hm2]; exact (ihr _ _ x).1 (by omega)
theorem Tr.set_other {t : Tr α} {k m : Nat} {x : α} (h : m ≠ k) : (t.set k x).get m = t.get m := (Tr.get_set t k m x).1 h
theorem Tr.set_some {t : Tr α} {k m : Nat} {x y : α} (h : (t.set k x).get m = some y) : (m = k ∧ y = x) ∨ (m ≠ k ∧ t.get m = some y) := by
  by_cases hm : m = k
  · subst hm; exact .inl ⟨rfl, (Tr.get_set t m 0 x).2 y h⟩
  · exact .inr ⟨hm, by rw [← Tr.set_other hm]; exact h⟩
end

/-! ### What values stand for -/
mutual
def gam (ρ : Nat → SV) : AV → Value
  | .b x => .bool x
  | .i k n => .int k n
  | .s l => .string ⟨l.toArray⟩
  | .np => .pointer none
  | .nsl => .slice none 0 0
  | .nf => .nilFunc
  | .nm => .map none
  | .und => undef
  | .p n off => .pointer (some ⟨(ρ n).blk, off, none⟩)
  | .sl n off len cap => .slice (some ⟨(ρ n).blk, off, none⟩) len cap
  | .row n cuts => (cuts.foldl (fun s c => s.cut c.1 c.2.1 c.2.2) (ρ n)).v
  | .mp n => .map (some (ρ n).blk)
  | .f g fs cs => .func (.func g) (gams ρ fs).toArray (gams ρ cs).toArray
  | .y n => .func (.yield (ρ n).blk) #[] #[]
  | .agg _ l => .agg (gams ρ l).toArray
  | .tup l => .tuple (gams ρ l).toArray
def gams (ρ : Nat → SV) : List AV → List Value
  | [] => []
  | v :: r => gam ρ v :: gams ρ r
end
theorem gams_eq (ρ : Nat → SV) (l : List AV) : gams ρ l = l.map (gam ρ) := by
  induction l with
  | nil => simp [gams]
  | cons v l ih => simp [gams, ih]

mutual
/-- Its names are older, and its cells are cells. -/
def okV (k : Nat) : AV → Prop
  | .p n _ => n < k
  | .sl n _ _ _ => n < k
  | .row n _ => n < k
  | .mp n => n < k
  | .y n => n < k
  | .f _ a c => okVs k a ∧ okVs k c
  | .agg n l => l.length = n ∧ (∀ v ∈ l, oneA v = true) ∧ okVs k l
  | .tup l => okVs k l
  | _ => True
def okVs (k : Nat) : List AV → Prop
  | [] => True
  | v :: r => okV k v ∧ okVs k r
end
theorem okVs_iff {k : Nat} {l : List AV} : okVs k l ↔ ∀ v ∈ l, okV k v := by
  induction l with
  | nil => simp [okVs]
  | cons v l ih => simp [okVs, ih]
theorem okV_agg {k n : Nat} {l : List AV} : okV k (.agg n l) ↔ l.length = n ∧ (∀ v ∈ l, oneA v = true) ∧ ∀ v ∈ l, okV k v := by
  simp only [okV, okVs_iff]

mutual
theorem okV_mono {k k' : Nat} (h : k ≤ k') : ∀ v, okV k v → okV k' v
  | .p n _, q => by simp only [okV] at *; omega
  | .sl n _ _ _, q => by simp only [okV] at *; omega
  | .row n _, q => by simp only [okV] at *; omega
  | .mp n, q => by simp only [okV] at *; omega
  | .y n, q => by simp only [okV] at *; omega
  | .f _ a c, q => by simp only [okV] at *; exact ⟨okVs_mono h a q.1, okVs_mono h c q.2⟩
  | .agg n l, q => by simp only [okV] at *; exact ⟨q.1, q.2.1, okVs_mono h l q.2.2⟩
  | .tup l, q => by simp only [okV] at *; exact okVs_mono h l q
  | .b _, _ => trivial
  | .i _ _, _ => trivial
  | .s _, _ => trivial
  | .np, _ => trivial
  | .nsl, _ => trivial
  | .nf, _ => trivial
  | .nm, _ => trivial
  | .und, _ => trivial
theorem okVs_mono {k k' : Nat} (h : k ≤ k') : ∀ l, okVs k l → okVs k' l
  | [], _ => trivial
  | v :: r, q => by simp only [okVs] at *; exact ⟨okV_mono h v q.1, okVs_mono h r q.2⟩
end
mutual
theorem gam_agree {k : Nat} {ρ ρ' : Nat → SV} (h : ∀ n, n < k → ρ n = ρ' n) : ∀ v, okV k v → gam ρ v = gam ρ' v
  | .p n _, q => by simp only [okV] at q; simp only [gam, h n q]
  | .sl n _ _ _, q => by simp only [okV] at q; simp only [gam, h n q]
  | .row n _, q => by simp only [okV] at q; simp only [gam, h n q]
  | .mp n, q => by simp only [okV] at q; simp only [gam, h n q]
  | .y n, q => by simp only [okV] at q; simp only [gam, h n q]
  | .f _ a c, q => by simp only [okV] at q; simp only [gam, gams_agree h a q.1, gams_agree h c q.2]
  | .agg n l, q => by simp only [okV] at q; simp only [gam, gams_agree h l q.2.2]
  | .tup l, q => by simp only [okV] at q; simp only [gam, gams_agree h l q]
  | .b _, _ => rfl
  | .i _ _, _ => rfl
  | .s _, _ => rfl
  | .np, _ => rfl
  | .nsl, _ => rfl
  | .nf, _ => rfl
  | .nm, _ => rfl
  | .und, _ => rfl
theorem gams_agree {k : Nat} {ρ ρ' : Nat → SV} (h : ∀ n, n < k → ρ n = ρ' n) : ∀ l, okVs k l → gams ρ l = gams ρ' l
  | [], _ => rfl
  | v :: r, q => by simp only [okVs] at q; simp only [gams, gam_agree h v q.1, gams_agree h r q.2]
end
mutual
theorem gam_ren (ρ : Nat → SV) (f : Nat → Nat) : ∀ v, gam ρ (ren f v) = gam (fun n => ρ (f n)) v
  | .f _ a c => by simp only [ren, gam, gams_ren ρ f a, gams_ren ρ f c]
  | .agg n l => by simp only [ren, gam, gams_ren ρ f l]
  | .tup l => by simp only [ren, gam, gams_ren ρ f l]
  | .p n _ => rfl
  | .sl n _ _ _ => rfl
  | .row n _ => rfl
  | .mp n => rfl
  | .y n => rfl
  | .b _ => rfl
  | .i _ _ => rfl
  | .s _ => rfl
  | .np => rfl
  | .nsl => rfl
  | .nf => rfl
  | .nm => rfl
  | .und => rfl
theorem gams_ren (ρ : Nat → SV) (f : Nat → Nat) : ∀ l, gams ρ (rens f l) = gams (fun n => ρ (f n)) l
  | [] => rfl
  | v :: r => by simp only [rens, gams, gam_ren ρ f v, gams_ren ρ f r]
end
theorem natBeq {a b : Nat} (h : Nat.beq a b = true) : a = b := Nat.eq_of_beq_eq_true h
mutual
theorem eqV_eq : ∀ x y, eqV x y = true → x = y
  | .b x, y, h => by cases y <;> simp [eqV] at h; simp [h]
  | .i k x, y, h => by cases y <;> simp [eqV] at h; simp [h]
  | .s x, y, h => by cases y <;> simp [eqV] at h; simp [h]
  | .np, y, h => by cases y <;> simp [eqV] at h; rfl
  | .nsl, y, h => by cases y <;> simp [eqV] at h; rfl
  | .nf, y, h => by cases y <;> simp [eqV] at h; rfl
  | .nm, y, h => by cases y <;> simp [eqV] at h; rfl
  | .und, y, h => by cases y <;> simp [eqV] at h; rfl
  | .p n o, y, h => by cases y <;> simp [eqV] at h; simp [h]
  | .sl n o l c, y, h => by cases y <;> simp [eqV] at h; simp [h]
  | .row n c, y, h => by cases y <;> simp [eqV] at h; simp [h]
  | .mp n, y, h => by cases y <;> simp [eqV] at h; simp [h]
  | .y n, y, h => by cases y <;> simp [eqV] at h; simp [h]
  | .f g a c, y, h => by
    cases y <;> simp [eqV] at h
    rw [h.1.1, eqVs_eq a _ h.1.2, eqVs_eq c _ h.2]
  | .agg n l, y, h => by
    cases y <;> simp [eqV] at h
    rw [h.1, eqVs_eq l _ h.2]
  | .tup l, y, h => by
    cases y <;> simp [eqV] at h
    rw [eqVs_eq l _ h]
theorem eqVs_eq : ∀ l m, eqVs l m = true → l = m
  | [], m, h => by cases m <;> simp [eqVs] at h; rfl
  | x :: l, m, h => by
    cases m <;> simp [eqVs] at h
    rw [eqV_eq x _ h.1, eqVs_eq l _ h.2]
end

theorem force_eq {β : Type} (v : AV) (k : AV → β) : force v k = k v := by
  have hn : ∀ {γ : Type} (n : Nat) (q : Nat → γ), forceN n q = q n := fun n q => by cases n <;> rfl
  cases v <;> simp only [force, forceI]
  case b x => cases x <;> rfl
  case i q n => cases n <;> simp only [hn]
  case p n off => simp only [hn]

theorem ofL_ok {v : Value} {u : AV} (h : ofL v = some u) (ρ : Nat → SV) (k : Nat) : gam ρ u = v ∧ okV k u ∧ oneA u = true := by
  cases v <;> simp only [ofL] at h <;> try (cases h; done)
  case bool b => cases h; exact ⟨rfl, trivial, rfl⟩
  case int q n => cases h; exact ⟨rfl, trivial, rfl⟩
  case string s => cases h; exact ⟨by simp [gam], trivial, rfl⟩
  case pointer a => cases a <;> simp at h; cases h; exact ⟨rfl, trivial, rfl⟩
  case slice a l c => 
    cases a with
    | some a => simp at h
    | none => cases l <;> cases c <;> simp at h; cases h; exact ⟨rfl, trivial, rfl⟩
  case map r => cases r <;> simp at h; cases h; exact ⟨rfl, trivial, rfl⟩
  case nilFunc => cases h; exact ⟨rfl, trivial, rfl⟩
theorem mapM_ofL {l : List Value} {us : List AV} (h : l.mapM ofL = some us) (ρ : Nat → SV) (k : Nat) : us.map (gam ρ) = l ∧ (∀ u ∈ us, okV k u) ∧ ∀ u ∈ us, oneA u = true := by
  induction l generalizing us with
  | nil => simp at h; subst h; simp
  | cons v l ih =>
    simp only [List.mapM_cons, Option.pure_def, Option.bind_eq_bind, Option.bind_eq_some_iff] at h
    obtain ⟨u, hu, us', hus, h⟩ := h
    cases h
    obtain ⟨h1, h2, h3⟩ := ofL_ok hu ρ k
    obtain ⟨h4, h5, h6⟩ := ih hus
    exact ⟨by simp [h1, h4], by simp [h2]; exact h5, by simp [h3]; exact h6⟩
theorem ofV_ok {v : Value} {u : AV} (h : ofV v = some u) (ρ : Nat → SV) (k : Nat) : gam ρ u = v ∧ okV k u ∧ isCell u = true := by
  have key : ∀ w : Value, ofL w = some u → gam ρ u = w ∧ okV k u ∧ isCell u = true := fun w hw => by
    obtain ⟨h1, h2, h3⟩ := ofL_ok hw ρ k
    exact ⟨h1, h2, by cases u <;> first | rfl | exact h3⟩
  cases v <;> simp only [ofV] at h <;> first | exact key _ h | skip
  rename_i cs
  simp only [Option.map_eq_some_iff] at h
  obtain ⟨l, hl, rfl⟩ := h
  obtain ⟨h1, h2, h3⟩ := mapM_ofL hl ρ k
  exact ⟨by simp [gam, gams_eq, h1], okV_agg.2 ⟨(lenR_eq l).symm, h3, h2⟩, rfl⟩

theorem cellsOf_gam (ρ : Nat → SV) (v : AV) : (gam ρ v).cells = ((cellsOf v).map (gam ρ)).toArray := by
  cases v <;> simp [gam, cellsOf, Value.cells, gams_eq, undef]
theorem lenOf_ok {k : Nat} {v : AV} (h : okV k v) : (cellsOf v).length = lenOf v := by
  cases v <;> first | rfl | exact (okV_agg.1 h).1
theorem cellsOf_ok {k : Nat} {v : AV} (h : okV k v) (hc : isCell v = true) : (∀ u ∈ cellsOf v, oneA u = true) ∧ ∀ u ∈ cellsOf v, okV k u := by
  cases v
  case agg n l => exact ⟨(okV_agg.1 h).2.1, (okV_agg.1 h).2.2⟩
  all_goals exact ⟨fun u hu => (List.mem_singleton.1 hu) ▸ hc, fun u hu => (List.mem_singleton.1 hu) ▸ h⟩
theorem oneA_gam {ρ : Nat → SV} {v : AV} (h : oneA v = true) : (gam ρ v).oneCell' = true := by
  cases v <;> first | rfl | cases h
end Go.Ev
