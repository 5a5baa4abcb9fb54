/- A run of closed code, reckoned over plain data: code. No statement of the seat is proved here. -/
import Derived.Test.YtmgnkohlfbjjnaaGreatREvC2
namespace Go.Ev
open Go.Fw
set_option linter.unusedSimpArgs false
set_option linter.unusedVariables false

def exitOf : AX → Exit
  | .n => .normal
  | .x id => .exit id
  | .r => .ret
def ddOf (I : Ip) (ms : List Nat) : List Deferred := ms.map fun m => { target := .collected (I.sv m).blk, args := #[] }
theorem ddOf_agree {k : Nat} {I I' : Ip} {ms : List Nat} (h : Agree k I I') (hm : ∀ m, m ∈ ms → m < k) : ddOf I' ms = ddOf I ms :=
  List.map_congr_left fun m hx => by rw [h.sv m (hm m hx)]

theorem SR.setMarks {I : Ip} {env : Env} {w0 w : World} {s : St} (h : SR I env w0 s w) (ms l : List Nat) (hm : ∀ m, m ∈ ms → m < s.nx) : SR I env w0 { s with marks := ms, wr := l } w := ⟨h.old, h.io, h.ok, h.holds, h.low, h.apart, hm, h.env⟩
theorem Step.setMarks {s s' : St} (h : Step s s') (ms : List Nat) : Step s { s' with marks := ms } := ⟨h.nx, h.mono, h.unch⟩
theorem Step.ofMarks {s s' : St} {ms : List Nat} (h : Step { s with marks := ms } s') : Step s s' := ⟨h.nx, h.mono, h.unch⟩

section
variable {r : Option Nat} {env : Env} {n : Nat} {w0 : World} {P : Program} {call : Env → CallT}

def ThenC (I : Ip) (env : Env) (w0 : World) (n : Nat) (s : St) (ax : AX) (F' : Fm) (s' : St) (Q : Exit → Act → World → Prop) : Prop :=
  ∀ I' a' w', Agree s.nx I I' → SR I' env w0 s' w' → FR I' s'.nx n F' a' (ddOf I' s'.marks) → Step s s' → Q (exitOf ax) a' w'

/-- The name of a loop. -/
def Ip.withL (I : Ip) (k : Nat) (s : SV) (ar : Array Value) (f : Nat) : Ip := ⟨fun n => if n = k then s else I.sv n, fun n => if n = k then ar else I.arr n, fun n => if n = k then f else I.fn n⟩
theorem Agree.withL (I : Ip) (k : Nat) (s : SV) (ar : Array Value) (f : Nat) : Agree k I (I.withL k s ar f) :=
  ⟨fun n hn => by simp [Ip.withL, Nat.ne_of_lt hn], fun n hn => by simp [Ip.withL, Nat.ne_of_lt hn], fun n hn => by simp [Ip.withL, Nat.ne_of_lt hn]⟩

theorem envGet_head (l : Nat) (L : LInfo) (env : Env) : envGet ((l, L) :: env) l = some L := by simp [envGet]
theorem envGet_tail {l m : Nat} (L : LInfo) (env : Env) (h : m ≠ l) : envGet ((l, L) :: env) m = envGet env m := by
  have : Nat.beq l m = false := by
    cases hb : Nat.beq l m with
    | false => rfl
    | true => exact absurd (Nat.eq_of_beq_eq_true hb).symm h
  simp [envGet, this]

theorem range_ok (hC : ∀ env, CallOK P w0 env (call env)) {g : Operand} {ps : Array Tmp} {as bd : Code} {fn : Nat} {F : Fm} {s s1 s2 s3 : St} {I : Ip} {a : Act} {w : World} {gv v : AV} {d l : Nat} {ax : AX} {sq : St} {Q : Exit → Act → World → Prop}
    (hg : aget F g = some gv) (hisf : isFn gv = true) (hd : fresh s (.defd false) = some (d, s1)) (hl : fresh s1 (.loop .ready none) = some (l, s2))
    (hq : call ((l, ⟨fn, n, F, ps.toList, as, bd, d⟩) :: env) gv [.y l] { s2 with marks := d :: s2.marks } = some (v, sq)) (he : endLoopA sq l = some (ax, s3))
    (h : SR I env w0 s w) (hF : FR I s.nx n F a (ddOf I s.marks)) (hQ : ThenC I env w0 n s ax F s3 Q) : Wp none P (.rangeFunc g ps as bd) Q a w := by
  obtain ⟨e1, e2⟩ := fresh_eq hd
  obtain ⟨e3, e4⟩ := fresh_eq hl
  obtain ⟨hev, hok⟩ := hF.eval hg
  cases gv <;> simp only [isFn, Bool.false_eq_true] at hisf
  rename_i f fs cs
  refine wpIn_rangeFunc fun fn' _ => ?_
  have st1 := Step.fresh hd
  have st2 := Step.fresh hl
  have hn1 : s1.nx = s.nx + 1 := by rw [e2]
  have hn2 : s2.nx = s.nx + 2 := by rw [e4]; simp only [hn1]
  have hm2 : s2.marks = s.marks := by rw [e4, e2]
  have hl' : l = s.nx + 1 := by rw [e3, hn1]
  -- the block for the deferred calls
  let I1 := I.with s.nx ⟨some ⟨w.heap.size, 0, none⟩, 0, 0⟩ #[]
  have ag1 : Agree s.nx I I1 := Agree.with _ _ _ _
  have hb1 : (I1.sv d).blk = w.heap.size := by rw [e1]; simp only [I1, with_sv]; rfl
  have sr1 : SR I1 env w0 s1 (w.alloc (.deferred (some []))) := h.add hd _ trivial (by
    show Added (.obj ((Ip.with I s.nx ⟨some ⟨w.heap.size, 0, none⟩, 0, 0⟩ #[]).sv s.nx).blk (.deferred (some []))) w _
    rw [with_sv]; exact Added.alloc w _)
  -- the record
  let w1 := w.alloc (.deferred (some []))
  let ob : Obj := .loop { state := .ready, pending := none, fn := fn', tmps := a.tmps, params := ps, assign := as, body := bd, defers := w.heap.size }
  let I2 := I1.withL l ⟨some ⟨w1.heap.size, 0, none⟩, 0, 0⟩ a.tmps fn'
  have hs1l : s1.nx = l := e3.symm
  have ag2 : Agree s1.nx I1 I2 := by rw [hs1l]; exact Agree.withL _ _ _ _ _
  let L : LInfo := ⟨fn, n, F, ps.toList, as, bd, d⟩
  have hb2 : (I2.sv l).blk = w1.heap.size := by simp only [I2, Ip.withL, if_true]; rfl
  have hb2d : (I2.sv d).blk = w.heap.size := by rw [← ag2.sv d (by omega)]; exact hb1
  have hres2 : res I2 ((l, L) :: env) w0.heap.size l (.loop .ready none) = .obj w1.heap.size ob := by
    simp only [res, envGet_head, loopOf, hb2, hb2d, pdCode, L, ob]
    simp only [I2, Ip.withL, if_true, Array.toArray_toList]
  have agI2 : Agree s.nx I I2 := ag1.trans ag2 (by omega)
  have envok2 : EnvOK I2 ((l, L) :: env) s2.nx := by
    have h0 := h.env.agree agI2 (show s.nx ≤ s2.nx by omega)
    refine ⟨fun m L' hm => ?_, fun m L' hm => ?_⟩
    · by_cases hml : m = l
      · subst hml
        rw [envGet_head] at hm; cases hm
        exact ⟨by omega, by show d < s2.nx; omega⟩
      · rw [envGet_tail L env hml] at hm; exact h0.name m L' hm
    · by_cases hml : m = l
      · subst hml
        rw [envGet_head] at hm; cases hm
        have hFa := hF.agree agI2 (show s.nx ≤ s2.nx by omega)
        refine ⟨rfl, ?_, fun t u hu => ?_⟩
        · simp only [I2, Ip.withL, if_true]; exact hFa.size
        · obtain ⟨q1, q2, q3⟩ := hFa.get t u hu
          refine ⟨q1, q2, ?_⟩
          simp only [I2, Ip.withL, if_true]
          exact q3
      · rw [envGet_tail L env hml] at hm; exact h0.fr m L' hm
  have sr2 : SR I2 ((l, L) :: env) w0 s2 (w1.alloc ob) := by
    have hA := Added.alloc w1 ob
    refine sr1.turn (t := fun _ => False) (b := l) ag2 (by omega) (fun m hm hml => envGet_tail L env hml) hA.keeps.io hA.keeps.size (fun j hj _ => hA.keeps.block j hj (by simp)) (fun _ hj => hj.elim) (fun m o' hn e => ?_) (fun o' e => ?_) (fun m hm => ?_) envok2
    · rw [e4] at e
      rcases find_upd e with ⟨h1, _⟩ | ⟨_, h2⟩
      · rw [hs1l] at h1; exact absurd h1 hn
      · exact .inr ⟨h2, fun _ _ hj => hj⟩
    · rw [e4] at e
      rcases find_upd e with ⟨_, rfl⟩ | ⟨h1, _⟩
      · rw [hres2]; exact ⟨by omega, trivial, hA.holds, fun j hj => .inr (hA.fp j hj)⟩
      · rw [hs1l] at h1; exact absurd rfl h1
    · rw [hm2] at hm; have := h.marks m hm; omega
  have sr2' : SR I2 ((l, L) :: env) w0 { s2 with marks := d :: s2.marks } (w1.alloc ob) := ⟨sr2.old, sr2.io, sr2.ok, sr2.holds, sr2.low, sr2.apart, fun m hm => by
    rcases List.mem_cons.1 hm with rfl | hm
    · show m < s2.nx; omega
    · exact sr2.marks m hm, sr2.env⟩
  have hyv : I2.g (.y l) = .func (.yield w1.heap.size) #[] #[] := by simp only [Ip.g, gam, hb2]
  have hfs : (fs.map I2.g) = gams I.sv fs := by
    rw [gams_eq]; exact agI2.map (okVs_iff.1 hok.1)
  have hcs : (cs.map I2.g) = gams I.sv cs := by
    rw [gams_eq]; exact agI2.map (okVs_iff.1 hok.2)
  have hokg : okV s2.nx (.f f fs cs) := okV_mono (by omega) _ hok
  obtain ⟨c1, c2⟩ := hC ((l, L) :: env) I2 { s2 with marks := d :: s2.marks } sq (w1.alloc ob) (.f f fs cs) [.y l] v hq sr2' hokg (by
    intro u hu
    simp only [List.mem_singleton] at hu
    subst hu
    show l < s2.nx; omega)
  have hev' : a.eval g = .func (.func f) (gams I.sv fs).toArray (gams I.sv cs).toArray := by rw [hev]; simp only [Ip.g, gam]
  have hsz1 : w1.heap.size = w.heap.size + 1 := by simp [w1]
  refine ⟨w1.heap.size, [{ target := .collected w.heap.size, args := #[] }], w1.alloc ob, { target := .fn (.func f) (gams I.sv cs).toArray, args := (gams I.sv fs).toArray ++ #[.func (.yield w1.heap.size) #[] #[]] }, w1.alloc ob, f,
    ((fs ++ [AV.y l] ++ cs).map I2.g).toArray, w1.alloc ob, ?_, ?_, fun _ _ => trivial, ?_, fun hx => no_depth hx, ?_⟩
  · rw [show (Wd none).round = none from rfl, run_enterLoop_outer fn' a.tmps ps as bd, hsz1]
  · simp only [resolve, hev', Deferred.ofValue, Sem.run_pure]
    simp [Act.eval]
  · simp only [invoke, c1]
    rw [List.map_append, List.map_append, hfs, hcs, List.map_cons, List.map_nil, hyv]
    simp
  · refine callsIn_wd.2 (Calls.mono c2 fun e w3 hr => ?_)
    cases e <;> simp only [Ret] at hr
    obtain ⟨I3, hA⟩ := hr
    have hm3 := hA.marks
    -- the loop's end
    simp only [endLoopA] at he
    split at he
    · rename_i st pd hfl
      have hst3 : Step s sq := (st1.trans st2).trans hA.step.ofMarks
      have hlt : l < s2.nx := by omega
      have hobj := hA.sr.holds l _ hfl
      have hblk : (I3.sv l).blk = w1.heap.size := by rw [← hA.ag.sv l hlt]; exact hb2
      have hobj' : w3.heap[w1.heap.size]? = some (loopOf I3 l L st pd) := by
        have : (res I3 ((l, L) :: env) w0.heap.size l (.loop st pd)).holds w3 := hobj
        simp only [res, envGet_head, hblk] at this
        exact this
      have hnb : st ≠ .busy := by intro e; subst e; simp at he
      have hres : ax = axOf pd ∧ s3 = wrote sq l .dead := by
        cases st <;> simp only [Option.some.injEq, Prod.mk.injEq] at he
        all_goals first | exact ⟨he.1.symm, he.2.symm⟩ | exact (hnb rfl).elim | (cases he; done)
      obtain ⟨hax, hs3⟩ := hres
      have hend := run_endLoop (P := P) hobj' hnb
      refine ⟨pdCode pd, _, hend, ?_⟩
      have hput := Upd.putObj (o' := .loop { state := .exhausted, pending := pdCode pd, fn := I3.fn l, tmps := I3.arr l, params := L.ps.toArray, assign := L.asg, body := L.body, defers := (I3.sv L.d).blk }) hobj'
      have sr4 : SR I3 env w0 s3 (w3.putObj w1.heap.size (.loop { state := .exhausted, pending := pdCode pd, fn := I3.fn l, tmps := I3.arr l, params := L.ps.toArray, assign := L.asg, body := L.body, defers := (I3.sv L.d).blk })) := by
        have hlk := hA.sr.low l _ hfl
        have hap := hA.sr.apart l
        have hrr : res I3 ((l, L) :: env) w0.heap.size l (.loop st pd) = .obj w1.heap.size (loopOf I3 l L st pd) := by simp only [res, envGet_head, hblk]
        refine hA.sr.turn (t := fun j => j = w1.heap.size) (b := l) (Agree.refl _ _) (by rw [hs3]; exact Nat.le_refl _) (fun m hm hml => (envGet_tail L env hml).symm) hput.io hput.size (fun j hj hne => hput.block j hj hne) (fun j hj => ?_) (fun m o' hn e => ?_) (fun o' e => ?_) (fun m hm => ?_) ?_
        · exact hlk j (by rw [hrr]; exact hj)
        · rw [hs3] at e
          rcases find_upd e with ⟨h1, _⟩ | ⟨_, h2⟩
          · exact absurd h1 hn
          · exact .inr ⟨h2, fun j hj hj' => hap m _ _ hfl h2 (fun x => hn x.symm) j (by rw [hrr]; exact hj') hj⟩
        · rw [hs3] at e
          rcases find_upd e with ⟨_, rfl⟩ | ⟨h1, _⟩
          · refine ⟨?_, trivial, ⟨fun _ hk => hk.elim, fun _ _ _ _ => trivial⟩, fun j hj => hj.elim⟩
            rw [hs3]; exact (hA.sr.ok l _ hfl).1
          · exact absurd rfl h1
        · rw [hs3] at hm ⊢; exact hA.sr.marks m hm
        · refine h.env.agree (agI2.trans hA.ag (by show s.nx ≤ s2.nx; omega)) ?_
          rw [hs3]; exact hst3.nx
      have hag : Agree s.nx I I3 := agI2.trans hA.ag (by show s.nx ≤ s2.nx; omega)
      have hmk : s3.marks = d :: s.marks := by rw [hs3, wrote_marks, hm3]; simp only [hm2]
      have hF4 : FR I3 s3.nx n F { a with defers := [{ target := .collected w.heap.size, args := #[] }] ++ a.defers } (ddOf I3 s3.marks) := by
        have hFa := hF.agree hag (show s.nx ≤ s3.nx by rw [hs3]; exact hst3.nx)
        refine ⟨?_, hFa.size, hFa.get⟩
        rw [hmk]
        simp only [ddOf, List.map_cons, List.cons_append, List.nil_append]
        rw [← hA.ag.sv d (by show d < s2.nx; omega), hb2d, hF.defers]
        congr 1
        exact (ddOf_agree hag h.marks).symm
      have hfin := hQ I3 _ _ hag sr4 hF4 (by rw [hs3]; exact hst3.trans (Step.wrote _ _ _))
      subst hax
      cases pd with
      | none => exact hfin
      | some q =>
        cases q with
        | none => exact c_ret hfin
        | some id => exact c_exit hfin
    · cases he
end
end Go.Ev
