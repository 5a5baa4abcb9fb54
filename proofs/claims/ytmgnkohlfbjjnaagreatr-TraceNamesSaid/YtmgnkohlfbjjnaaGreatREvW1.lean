/- A run of closed code, reckoned over plain data: all that only looks; and what stands in memory. No statement of the seat is proved here. -/
import Derived.Test.YtmgnkohlfbjjnaaGreatREvS6
namespace Go.Ev
open Go.Fw
set_option linter.unusedSimpArgs false
set_option linter.unusedVariables false

section
variable {I : Ip} {env : Env} {lo k n : Nat} {w : World} {g : Look} {F : Fm} {a : Act} {dd : List Deferred} {P : Program}

theorem aval_ok (hg : GK I env lo k w g) (hF : FR I k n F a dd) {o : Oper} {v : AV} (h : aval (tabOf P) g F o.op = some v) : Good P I k w a o v := by
  have h0 := h
  cases ho : o.op with
  | move x => rw [ho] at h; exact v_move hF ho (by simpa [aval] using h)
  | assign x => rw [ho] at h; exact v_assign hF ho (by simpa [aval] using h)
  | pick c x y => exact v_pick hF ho h
  | binOp q t x y t' => exact v_binOp hg hF ho h
  | unOp q t x => exact v_unOp hF ho h
  | convert t t' x => exact v_convert hg hF ho h
  | fieldAddr t x f => exact v_fieldAddr hF ho h
  | field t x f => exact v_field hF ho h
  | indexAddr t x y => exact v_indexAddr hg hF ho h
  | index t x y => exact v_index hF ho h
  | load t x => exact v_load hg hF ho h
  | extract x i => exact v_extract hF ho h
  | nilCheck x => exact v_nilCheck hF ho h
  | makeFunc q fs cs => exact v_makeFunc hF ho h
  | build t ps => exact v_build hF ho h
  | slice t x l r m =>
    cases m with
    | none => exact v_slice hg hF ho h
    | some m => rw [ho] at h; simp [aval] at h
  | lookup t x y ok => exact v_lookup hg hF ho h
  | call c =>
    obtain ⟨callee, xs, ts⟩ := c
    cases callee with
    | builtin b => exact v_builtin hg hF ho h
    | _ => rw [ho] at h; simp [aval] at h
  | _ => rw [ho] at h; simp [aval] at h
end

/-! ### What stands in memory -/
structure Agree (k : Nat) (I I' : Ip) : Prop where
  sv : ∀ n, n < k → I.sv n = I'.sv n
  arr : ∀ n, n < k → I.arr n = I'.arr n
  fn : ∀ n, n < k → I.fn n = I'.fn n
theorem Agree.refl (k : Nat) (I : Ip) : Agree k I I := ⟨fun _ _ => rfl, fun _ _ => rfl, fun _ _ => rfl⟩
theorem Agree.trans {k k' : Nat} {I I' I'' : Ip} (h : Agree k I I') (h' : Agree k' I' I'') (hk : k ≤ k') : Agree k I I'' :=
  ⟨fun n hn => (h.sv n hn).trans (h'.sv n (by omega)), fun n hn => (h.arr n hn).trans (h'.arr n (by omega)), fun n hn => (h.fn n hn).trans (h'.fn n (by omega))⟩
theorem Agree.v {k : Nat} {I I' : Ip} (h : Agree k I I') {v : AV} (hv : okV k v) : I'.g v = I.g v := (gam_agree h.sv v hv).symm
theorem Agree.map {k : Nat} {I I' : Ip} (h : Agree k I I') {l : List AV} (hv : ∀ v ∈ l, okV k v) : l.map I'.g = l.map I.g := List.map_congr_left fun v hm => h.v (hv v hm)

structure EnvOK (I : Ip) (env : Env) (k : Nat) : Prop where
  name : ∀ l L, envGet env l = some L → l < k ∧ L.d < k
  fr : ∀ l L, envGet env l = some L → FR I k L.n L.tm { tmps := I.arr l, defers := [] } []

def sameEnv (k : Nat) (env env' : Env) : Prop := ∀ m, m < k → envGet env' m = envGet env m

theorem FR.agree {k k' n : Nat} {I I' : Ip} {F : Fm} {a : Act} {dd : List Deferred} (hF : FR I k n F a dd) (h : Agree k I I') (hk : k ≤ k') : FR I' k' n F a dd :=
  ⟨hF.defers, hF.size, fun t v e => by obtain ⟨h1, h2, h3⟩ := hF.get t v e; exact ⟨h1, okV_mono hk v h2, by rw [h3, h.v h2]⟩⟩
theorem EnvOK.agree {k k' : Nat} {I I' : Ip} {env : Env} (hE : EnvOK I env k) (h : Agree k I I') (hk : k ≤ k') : EnvOK I' env k' :=
  ⟨fun l L e => by have := hE.name l L e; omega, fun l L e => by rw [← h.arr l (hE.name l L e).1]; exact (hE.fr l L e).agree h hk⟩

theorem okO_mono {k k' : Nat} (hk : k ≤ k') {o : AObj} (h : okO k o) : okO k' o := by
  cases o <;> simp only [okO] at h ⊢
  case pt => exact ⟨h.1, h.2.1, fun v hv => okV_mono hk v (h.2.2 v hv)⟩
  case fz => exact ⟨h.1, h.2.1, fun v hv => okV_mono hk v (h.2.2 v hv)⟩
  case row => exact ⟨h.1, h.2.1, h.2.2.1, fun v hv => okV_mono hk v (h.2.2.2 v hv)⟩
  case map => exact fun e he => ⟨okV_mono hk _ (h e he).1, okV_mono hk _ (h e he).2⟩

theorem res_agree {k lo n : Nat} {I I' : Ip} {env env' : Env} (h : Agree k I I') (hE : ∀ L, envGet env n = some L → L.d < k) (he : envGet env' n = envGet env n) {o : AObj} (ho : okO k o) (hn : n < k) : res I' env' lo n o = res I env lo n o := by
  cases o <;> simp only [okO] at ho <;> simp only [res, ← h.sv n hn]
  case pt => rw [h.map ho.2.2]
  case fz => rw [h.map ho.2.2]
  case row => rw [h.map ho.2.2.2]
  case map es c =>
    congr 3
    exact List.map_congr_left fun e hm => by rw [h.v (ho e hm).1, h.v (ho e hm).2]
  case loop st pd =>
    rw [he]
    cases hL : envGet env n with
    | none => rfl
    | some L => simp only [loopOf, ← h.arr n hn, ← h.fn n hn, ← h.sv L.d (hE L hL)]

structure SR (I : Ip) (env : Env) (w0 : World) (s : St) (w : World) : Prop where
  old : Same 0 [] w0 w
  io : Io w0 w
  ok : ∀ n o, find s.h n = some o → n < s.nx ∧ okO s.nx o
  holds : ∀ n o, find s.h n = some o → (res I env w0.heap.size n o).holds w
  low : ∀ n o, find s.h n = some o → ∀ b, (res I env w0.heap.size n o).fp b → w0.heap.size ≤ b
  apart : ∀ n m o o', find s.h n = some o → find s.h m = some o' → n ≠ m → ∀ b, (res I env w0.heap.size n o).fp b → ¬ (res I env w0.heap.size m o').fp b
  marks : ∀ n, n ∈ s.marks → n < s.nx
  env : EnvOK I env s.nx

theorem SR.gk {I : Ip} {env : Env} {w0 w : World} {s : St} (h : SR I env w0 s w) : GK I env w0.heap.size s.nx w (find s.h) := ⟨h.holds, fun n o e => ⟨(h.ok n o e).2, (h.ok n o e).1⟩⟩
theorem SR.size {I : Ip} {env : Env} {w0 w : World} {s : St} (h : SR I env w0 s w) : w0.heap.size ≤ w.heap.size := h.old.size

/-- One block turns, or is new. -/
theorem SR.turn {I I' : Ip} {env env' : Env} {w0 w w' : World} {s s' : St} {t : Nat → Prop} {b : Nat} (h : SR I env w0 s w) (ag : Agree s.nx I I') (hnx : s.nx ≤ s'.nx) (henv : ∀ m, m < s.nx → m ≠ b → envGet env' m = envGet env m)
    (io : Io w w') (size : w.heap.size ≤ w'.heap.size) (block : ∀ j, j < w.heap.size → ¬ t j → w'.heap[j]? = w.heap[j]?) (tlow : ∀ j, t j → w0.heap.size ≤ j)
    (old : ∀ n o, n ≠ b → find s'.h n = some o → (o = .dead ∧ n < s'.nx) ∨ (find s.h n = some o ∧ ∀ j, (res I env w0.heap.size n o).fp j → ¬ t j))
    (new : ∀ o, find s'.h b = some o → b < s'.nx ∧ okO s'.nx o ∧ (res I' env' w0.heap.size b o).holds w' ∧ ∀ j, (res I' env' w0.heap.size b o).fp j → t j ∨ w.heap.size ≤ j)
    (hm : ∀ n, n ∈ s'.marks → n < s'.nx) (hE : EnvOK I' env' s'.nx) : SR I' env' w0 s' w' := by
  have hs := h.size
  have same : ∀ n o, n ≠ b → find s.h n = some o → res I' env' w0.heap.size n o = res I env w0.heap.size n o := fun n o hn e =>
    res_agree ag (fun L hL => (h.env.name n L hL).2) (henv n (h.ok n o e).1 hn) (h.ok n o e).2 (h.ok n o e).1
  have blk0 : ∀ j, j < w.heap.size → ¬ w0.heap.size ≤ j → w'.heap[j]? = w.heap[j]? := fun j hj hn => block j hj fun ht => hn (tlow j ht)
  have dead : ∀ n, res I' env' w0.heap.size n .dead = voidR := fun n => rfl
  refine ⟨⟨by omega, fun j h1 h2 h3 => ?_⟩, h.io.trans io, fun n o e => ?_, fun n o e => ?_, fun n o e j hj => ?_, ?_, hm, hE⟩
  · rw [blk0 j (by omega) (by omega)]; exact h.old.block j h1 h2 h3
  · by_cases hn : n = b
    · subst hn; exact ⟨(new o e).1, (new o e).2.1⟩
    · rcases old n o hn e with ⟨rfl, h1⟩ | ⟨h1, _⟩
      · exact ⟨h1, trivial⟩
      · have := h.ok n o h1; exact ⟨by omega, okO_mono hnx this.2⟩
  · by_cases hn : n = b
    · subst hn; exact (new o e).2.2.1
    · rcases old n o hn e with ⟨rfl, h1⟩ | ⟨h1, h2⟩
      · rw [dead]; exact ⟨fun _ hk => hk.elim, fun _ _ _ _ => trivial⟩
      · rw [same n o hn h1]
        exact Res.keep (h.holds n o h1) io size fun j hj => block j (Res.fp_lt (h.holds n o h1) hj) (h2 j hj)
  · by_cases hn : n = b
    · subst hn
      rcases (new o e).2.2.2 j hj with h1 | h1
      · exact tlow j h1
      · omega
    · rcases old n o hn e with ⟨rfl, h1⟩ | ⟨h1, h2⟩
      · rw [dead] at hj; exact hj.elim
      · rw [same n o hn h1] at hj; exact h.low n o h1 j hj
  · have key : ∀ n m o o', find s'.h n = some o → find s'.h m = some o' → n ≠ m → m ≠ b → ∀ j, (res I' env' w0.heap.size n o).fp j → (res I' env' w0.heap.size m o').fp j → False := by
      intro n m o o' e e' hnm hmb j hj hj'
      rcases old m o' hmb e' with ⟨rfl, _⟩ | ⟨h1, h2⟩
      · rw [dead] at hj'; exact hj'
      · rw [same m o' hmb h1] at hj'
        have hlt := Res.fp_lt (h.holds m o' h1) hj'
        by_cases hn : n = b
        · subst hn
          rcases (new o e).2.2.2 j hj with h3 | h3
          · exact h2 j hj' h3
          · omega
        · rcases old n o hn e with ⟨rfl, _⟩ | ⟨h3, h4⟩
          · rw [dead] at hj; exact hj
          · rw [same n o hn h3] at hj
            exact h.apart n m o o' h3 h1 hnm j hj hj'
    intro n m o o' e e' hnm j hj hj'
    by_cases hmb : m = b
    · exact key m n o' o e' e (fun x => hnm x.symm) (by omega) j hj' hj
    · exact key n m o o' e e' hnm hmb j hj hj'

/-- How the reckoned state moves on. -/
structure Step (s s' : St) : Prop where
  nx : s.nx ≤ s'.nx
  mono : ∀ n, n < s.nx → n ∈ s.wr → n ∈ s'.wr
  unch : ∀ n, n < s.nx → n ∉ s'.wr → find s'.h n = find s.h n
theorem Step.refl (s : St) : Step s s := ⟨Nat.le_refl _, fun _ _ h => h, fun _ _ _ => rfl⟩
theorem Step.trans {a b c : St} (h : Step a b) (k : Step b c) : Step a c :=
  ⟨Nat.le_trans h.nx k.nx, fun n hn hm => k.mono n (by have := h.nx; omega) (h.mono n hn hm),
   fun n hn hm => (k.unch n (by have := h.nx; omega) hm).trans (h.unch n hn fun hb => hm (k.mono n (by have := h.nx; omega) hb))⟩

theorem find_upd {h : Heap} {n m : Nat} {o x : AObj} (e : find (upd h n o) m = some x) : (m = n ∧ x = o) ∨ (m ≠ n ∧ find h m = some x) := Tr.set_some e
theorem find_other {h : Heap} {n m : Nat} {o : AObj} (e : m ≠ n) : find (upd h n o) m = find h m := Tr.set_other e

theorem Step.wrote (s : St) (n : Nat) (o : AObj) : Step s (wrote s n o) := by
  refine ⟨Nat.le_refl _, fun m hm h => ?_, fun m hm h => ?_⟩
  · simp only [Ev.wrote]; cases memN n s.wr <;> simp [h]
  · refine find_other fun e => ?_
    subst e
    simp only [Ev.wrote] at h
    cases hb : memN m s.wr with
    | true => rw [hb] at h; exact h (memN_iff.1 hb)
    | false => simp [hb] at h
theorem wrote_nx (s : St) (n : Nat) (o : AObj) : (wrote s n o).nx = s.nx := rfl
theorem wrote_marks (s : St) (n : Nat) (o : AObj) : (wrote s n o).marks = s.marks := rfl

theorem fresh_eq {s s' : St} {o : AObj} {n : Nat} (h : fresh s o = some (n, s')) : n = s.nx ∧ s' = { s with h := upd s.h s.nx o, nx := s.nx + 1 } := by
  simp only [fresh] at h
  split at h
  · cases h
  · cases h; exact ⟨rfl, rfl⟩
theorem Step.fresh {s s' : St} {o : AObj} {n : Nat} (h : fresh s o = some (n, s')) : Step s s' := by
  obtain ⟨_, rfl⟩ := fresh_eq h
  exact ⟨Nat.le_succ _, fun _ _ h => h, fun m hm _ => find_other (by omega)⟩

/-- A name more. -/
def Ip.with (I : Ip) (k : Nat) (s : SV) (ar : Array Value) : Ip := ⟨fun n => if n = k then s else I.sv n, fun n => if n = k then ar else I.arr n, I.fn⟩
theorem Agree.with (I : Ip) (k : Nat) (s : SV) (ar : Array Value) : Agree k I (I.with k s ar) :=
  ⟨fun n hn => by simp [Ip.with, Nat.ne_of_lt hn], fun n hn => by simp [Ip.with, Nat.ne_of_lt hn], fun n hn => rfl⟩
theorem with_sv (I : Ip) (k : Nat) (s : SV) (ar : Array Value) : (I.with k s ar).sv k = s := by simp [Ip.with]
theorem with_arr (I : Ip) (k : Nat) (s : SV) (ar : Array Value) : (I.with k s ar).arr k = ar := by simp [Ip.with]

/-- A new block. -/
theorem SR.add {I : Ip} {env : Env} {w0 w w' : World} {s s' : St} {o : AObj} {n : Nat} (h : SR I env w0 s w) (hf : fresh s o = some (n, s')) (sv : SV) (ho : okO (s.nx + 1) o)
    (hA : Added (res (I.with s.nx sv #[]) env w0.heap.size s.nx o) w w') : SR (I.with s.nx sv #[]) env w0 s' w' := by
  obtain ⟨rfl, rfl⟩ := fresh_eq hf
  refine h.turn (t := fun _ => False) (b := s.nx) (Agree.with _ _ _ _) (Nat.le_succ _) (fun _ _ _ => rfl) hA.keeps.io hA.keeps.size (fun j hj _ => hA.keeps.block j hj (by simp)) (fun _ hj => hj.elim) (fun n o' hn e => ?_) (fun o' e => ?_) (fun n hn => ?_) (h.env.agree (Agree.with _ _ _ _) (Nat.le_succ _))
  · rcases find_upd e with ⟨h1, _⟩ | ⟨_, h2⟩
    · exact absurd h1 hn
    · exact .inr ⟨h2, fun _ _ hj => hj⟩
  · rcases find_upd e with ⟨_, rfl⟩ | ⟨h1, _⟩
    · exact ⟨Nat.lt_succ_self _, ho, hA.holds, fun j hj => .inr (hA.fp j hj)⟩
    · exact absurd rfl h1
  · have := h.marks n hn; exact Nat.lt_succ_of_lt this

/-- A block is written anew. -/
theorem SR.chg {I : Ip} {env : Env} {w0 w w' : World} {s : St} {o o' : AObj} {n : Nat} (h : SR I env w0 s w) (hf : find s.h n = some o) (ho : okO s.nx o') (hU : Upd (res I env w0.heap.size n o) (res I env w0.heap.size n o') w w') : SR I env w0 (wrote s n o') w' := by
  refine h.turn (t := (res I env w0.heap.size n o).fp) (b := n) (Agree.refl _ _) (Nat.le_refl _) (fun _ _ _ => rfl) hU.io hU.size hU.block (h.low n o hf) (fun m x hn e => ?_) (fun x e => ?_) h.marks h.env
  · rcases find_upd e with ⟨h1, _⟩ | ⟨_, h2⟩
    · exact absurd h1 hn
    · exact .inr ⟨h2, fun j hj hj' => h.apart n m o x hf h2 (fun e => hn e.symm) j hj' hj⟩
  · rcases find_upd e with ⟨_, rfl⟩ | ⟨h1, _⟩
    · exact ⟨(h.ok n o hf).1, ho, hU.holds, hU.fp⟩
    · exact absurd rfl h1

/-- A row goes over into a new one. -/
theorem SR.move {I : Ip} {env : Env} {w0 w w' : World} {s s' : St} {o o' : AObj} {n n' : Nat} (h : SR I env w0 s w) (hf : find s.h n = some o) (hfr : fresh (wrote s n .dead) o' = some (n', s')) (sv : SV) (ho : okO (s.nx + 1) o')
    (hU : Upd (res I env w0.heap.size n o) (res (I.with s.nx sv #[]) env w0.heap.size s.nx o') w w') : SR (I.with s.nx sv #[]) env w0 s' w' := by
  obtain ⟨rfl, rfl⟩ := fresh_eq hfr
  refine h.turn (t := (res I env w0.heap.size n o).fp) (b := s.nx) (Agree.with _ _ _ _) (Nat.le_succ _) (fun _ _ _ => rfl) hU.io hU.size hU.block (h.low n o hf) (fun m x hn e => ?_) (fun x e => ?_) (fun m hm => ?_) (h.env.agree (Agree.with _ _ _ _) (Nat.le_succ _))
  · rcases find_upd e with ⟨h1, _⟩ | ⟨_, h2⟩
    · exact absurd h1 hn
    · rcases find_upd h2 with ⟨h3, rfl⟩ | ⟨h3, h4⟩
      · subst h3; exact .inl ⟨rfl, by have := (h.ok m o hf).1; simp only [wrote_nx]; omega⟩
      · exact .inr ⟨h4, fun j hj hj' => h.apart n m o x hf h4 (fun e => h3 e.symm) j hj' hj⟩
  · rcases find_upd e with ⟨_, rfl⟩ | ⟨h1, _⟩
    · exact ⟨Nat.lt_succ_self _, ho, hU.holds, hU.fp⟩
    · exact absurd rfl h1
  · have := h.marks m hm; exact Nat.lt_succ_of_lt this

/-- The world alone has turned. -/
theorem SR.keep {I : Ip} {env : Env} {w0 w w' : World} {s : St} (h : SR I env w0 s w) (hk : Keeps [] w w') : SR I env w0 s w' :=
  h.turn (t := fun _ => False) (b := s.nx) (Agree.refl _ _) (Nat.le_refl _) (fun _ _ _ => rfl) hk.io hk.size (fun j hj _ => hk.block j hj (by simp)) (fun _ hj => hj.elim) (fun n o' _ e => .inr ⟨e, fun _ _ hj => hj⟩)
    (fun o' e => absurd (h.ok _ _ e).1 (Nat.lt_irrefl _)) h.marks h.env
end Go.Ev
