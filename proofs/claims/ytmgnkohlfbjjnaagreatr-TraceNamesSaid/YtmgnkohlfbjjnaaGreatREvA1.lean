/- A run of closed code, reckoned over plain data: what acts. No statement of the seat is proved here. -/
import Derived.Test.YtmgnkohlfbjjnaaGreatREvW1
namespace Go.Ev
open Go.Fw
set_option linter.unusedSimpArgs false
set_option linter.unusedVariables false

/-- What an action leaves. -/
structure Aft (I : Ip) (env : Env) (w0 : World) (s s' : St) (v : AV) (u : Value) (w' : World) (I' : Ip) : Prop where
  ag : Agree s.nx I I'
  sr : SR I' env w0 s' w'
  val : u = I'.g v
  okv : okV s'.nx v
  step : Step s s'
  marks : s'.marks = s.marks
def Left (I : Ip) (env : Env) (w0 : World) (s s' : St) (v : AV) (u : Value) (w' : World) : Prop := ∃ I', Aft I env w0 s s' v u w' I'

section
variable {I : Ip} {env : Env} {n : Nat} {w0 w : World} {s s' : St} {F : Fm} {a : Act} {dd : List Deferred} {P : Program}

/-- A new row of cells. -/
theorem SR.newPt (h : SR I env w0 s w) {m N T : Nat} {l : List AV} (hf : fresh s (.pt N l T) = some (m, s')) (hr : Row s.nx N l) {v : AV} {u : Value} (hv : okV (s.nx + 1) v) (hg : ∀ I' : Ip, (I'.sv m).blk = w.heap.size → u = gam I'.sv v) :
    Left I env w0 s s' v u (w.alloc (.cells (l.map I.g).toArray T (0, 0))) := by
  have hst := Step.fresh hf
  obtain ⟨e1, e2⟩ := fresh_eq hf
  refine ⟨I.with s.nx ⟨some ⟨w.heap.size, 0, none⟩, 0, 0⟩ #[], ?_⟩
  have hb : ((I.with s.nx ⟨some ⟨w.heap.size, 0, none⟩, 0, 0⟩ #[]).sv m).blk = w.heap.size := by rw [e1, with_sv]; rfl
  refine ⟨Agree.with _ _ _ _, ?_, hg _ hb, by rw [e2]; exact hv, hst, by rw [e2]⟩
  refine h.add hf _ ⟨hr.n, hr.one, fun v hv => okV_mono (Nat.le_succ _) v (hr.ok v hv)⟩ ?_
  have := Added.alloc w (.cells (l.map I.g).toArray T (0, 0))
  simp only [res]
  rw [(Agree.with I s.nx _ _).map hr.ok, with_sv]
  exact this

theorem row_of {k : Nat} {v : AV} (h : okV k v) (hc : isCell v = true) : Row k (lenOf v) (cellsOf v) := by
  obtain ⟨h1, h2⟩ := cellsOf_ok h hc
  exact ⟨lenOf_ok h, h1, h2⟩


theorem Yd.ok' {P : Program} {o : Oper} {ρ : Operand → Value} {w w' : World} {v : Value} {J : Value → World → Prop} (hr : (execOp ρ o).run P w = .ok (.value v) w') (h : J v w') : Yd P o ρ w J := by
  unfold Yd; rw [hr]; exact h
theorem Yd.skip' {P : Program} {o : Oper} {ρ : Operand → Value} {w w' : World} {J : Value → World → Prop} (hr : (execOp ρ o).run P w = .ok .skip w') (h : J undef w') : Yd P o ρ w J := by
  unfold Yd; rw [hr]; exact h

theorem a_alloc (h : SR I env w0 s w) (hF : FR I s.nx n F a dd) {call : CallT} {o : Oper} {e : Nat} {v : AV} (ho : o.op = .alloc e) (hh : aact (tabOf P) call s F o.op = some (v, s')) : Yd P o a.eval w (Left I env w0 s s' v) := by
  rw [ho] at hh
  simp only [aact, Option.bind_eq_bind, Option.bind_eq_some_iff] at hh
  obtain ⟨z, hz, ⟨m, s1⟩, hf, hh⟩ := hh
  simp only [Option.some.injEq, Prod.mk.injEq] at hh
  obtain ⟨rfl, rfl⟩ := hh
  obtain ⟨h1, h2, h3⟩ := run_zeroValue' (P := P) hz I s.nx w
  have hm := (fresh_eq hf).1
  refine Yd.ok' (v := .pointer (some ⟨w.heap.size, 0, none⟩)) (w' := w.alloc (.cells ((cellsOf z).map I.g).toArray e (0, 0))) ?_ (h.newPt hf (row_of h2 h3) (by simp only [okV]; omega) (fun I' hb => by simp only [gam, hb]))
  simp only [execOp, ho, Instr.alloc, newVar, newRow, Sem.run_bind, h1, Result.andThen_ok, run_newObj, Sem.run_pure]
  rw [show (I.g z).cells = _ from cellsOf_gam I.sv z]; rfl

theorem a_box (h : SR I env w0 s w) (hF : FR I s.nx n F a dd) {call : CallT} {o : Oper} {e : Nat} {x : Operand} {v : AV} (ho : o.op = .box e x) (hh : aact (tabOf P) call s F o.op = some (v, s')) : Yd P o a.eval w (Left I env w0 s s' v) := by
  rw [ho] at hh
  simp only [aact, Option.bind_eq_bind, Option.bind_eq_some_iff] at hh
  obtain ⟨z, hz, hh⟩ := hh
  split at hh
  · cases hh
  · rename_i hc
    rw [Option.bind_eq_some_iff] at hh
    obtain ⟨⟨m, s1⟩, hf, hh⟩ := hh
    simp only [Option.some.injEq, Prod.mk.injEq] at hh
    obtain ⟨rfl, rfl⟩ := hh
    obtain ⟨h1, h2⟩ := hF.eval hz
    have h3 : isCell z = true := by simpa using hc
    have hm := (fresh_eq hf).1
    refine Yd.ok' (v := .pointer (some ⟨w.heap.size, 0, none⟩)) (w' := w.alloc (.cells ((cellsOf z).map I.g).toArray e (0, 0))) ?_ (h.newPt hf (row_of h2 h3) (by simp only [okV]; omega) (fun I' hb => by simp only [gam, hb]))
    simp only [execOp, ho, h1, Instr.box, newVar, newRow, Sem.run_bind, Result.andThen_ok, run_newObj, Sem.run_pure]
    rw [show (I.g z).cells = _ from cellsOf_gam I.sv z]; rfl

theorem SR.left (h : SR I env w0 s w) {w' : World} {o o' : AObj} {m : Nat} (hf : find s.h m = some o) (ho : okO s.nx o') (hU : Upd (res I env w0.heap.size m o) (res I env w0.heap.size m o') w w') {v : AV} (hv : okV s.nx v) : Left I env w0 s (wrote s m o') v (I.g v) w' :=
  ⟨I, Agree.refl _ _, h.chg hf ho hU, rfl, hv, Step.wrote _ _ _, rfl⟩

theorem a_store (h : SR I env w0 s w) (hF : FR I s.nx n F a dd) {call : CallT} {o : Oper} {t : Nat} {x y : Operand} {v : AV} (ho : o.op = .store t x y) (hh : aact (tabOf P) call s F o.op = some (v, s')) : Yd P o a.eval w (Left I env w0 s s' v) := by
  rw [ho] at hh
  simp only [aact, Option.bind_eq_bind, Option.bind_eq_some_iff] at hh
  obtain ⟨u, hu, p, hp, hh⟩ := hh
  obtain ⟨h1, h2⟩ := hF.eval hu
  obtain ⟨h3, h4⟩ := hF.eval hp
  cases p <;> simp only at hh <;> try (cases hh; done)
  rename_i m off
  rw [Option.bind_eq_some_iff] at hh
  obtain ⟨z, hz, hh⟩ := hh
  split at hh
  · cases hh
  · rename_i hc
    simp only [not_or, ne_eq, Decidable.not_not, Bool.not_eq_false] at hc
    obtain ⟨hc1, hc2⟩ := hc
    rw [Option.bind_eq_some_iff] at hh
    obtain ⟨s1, hs1, hh⟩ := hh
    simp only [Option.some.injEq, Prod.mk.injEq] at hh
    obtain ⟨rfl, rfl⟩ := hh
    have hsz := run_sizeOf' (P := P) hz w
    cases ho' : find s.h m with
    | none => simp [storeA, ho'] at hs1
    | some ob =>
      cases ob <;> simp only [storeA, ho'] at hs1 <;> try (cases hs1; done)
      rename_i N l T
      rw [Option.bind_eq_bind, Option.bind_eq_some_iff] at hs1
      obtain ⟨r, hr, hs1⟩ := hs1
      simp only [Option.some.injEq] at hs1
      subst hs1
      obtain ⟨hk, hok⟩ := h.ok m _ ho'
      have hrow : Row s.nx N l := ⟨hok.1, hok.2.1, hok.2.2⟩
      have hv := row_of h2 hc2
      obtain ⟨e1, h5, hle⟩ := putA_ok hr hrow hv.n hv.one hv.ok
      have hb := h.holds m _ ho'
      have hU := Upd.setRow (cs' := (r.map I.g)) hb
      have hlen : ((cellsOf u).map I.g).length = z := by rw [List.length_map, hv.n, hc1]
      have hst := run_storeCells_at P (I.sv m).blk off T ((cellsOf u).map I.g) 0 (l.map I.g).toArray w hb (by have := hrow.n; rw [List.size_toArray, List.length_map, List.length_map, hv.n]; omega) (fun q hq => by
        obtain ⟨q', hq', rfl⟩ := List.mem_map.1 hq
        exact oneA_gam (hv.one q' hq'))
      refine Yd.skip' (w' := w.setRow (I.sv m).blk (r.map I.g).toArray) ?_ (h.left (v := .und) (o' := .pt N r T) ho' ⟨h5.n, h5.one, h5.ok⟩ hU trivial)
      rw [e1, map_put]
      simp only [Nat.add_zero] at hst
      simp only [execOp, ho, h1, h3, Instr.storeAt, Instr.sureAddr, storeVar, Sem.run_bind, Sem.run_pure, Result.andThen_ok, hsz, show (I.g u).cells = _ from cellsOf_gam I.sv u, List.size_toArray, hlen, ne_eq, not_true_eq_false, if_false, gam, hst]
      have hz2 : (cellsOf u).length = z := by rw [hv.n, hc1]
      simp [put, hz2]

theorem a_makeMap (h : SR I env w0 s w) {call : CallT} {o : Oper} {t : Nat} {v : AV} (ho : o.op = .makeMap t none) (hh : aact (tabOf P) call s F o.op = some (v, s')) : Yd P o a.eval w (Left I env w0 s s' v) := by
  rw [ho] at hh
  simp only [aact, Option.bind_eq_bind, Option.bind_eq_some_iff] at hh
  obtain ⟨⟨m, s1⟩, hf, hh⟩ := hh
  simp only [Option.some.injEq, Prod.mk.injEq] at hh
  obtain ⟨rfl, rfl⟩ := hh
  have hst := Step.fresh hf
  obtain ⟨e1, e2⟩ := fresh_eq hf
  refine Yd.ok' (v := .map (some w.heap.size)) (w' := w.alloc (.map #[] 0)) ?_ ⟨I.with s.nx ⟨some ⟨w.heap.size, 0, none⟩, 0, 0⟩ #[], Agree.with _ _ _ _, h.add hf _ (by simp [okO]) ?_, ?_, by rw [e2, e1]; exact Nat.lt_succ_self _, hst, by rw [e2]⟩
  · simp only [execOp, ho, Option.map_none, Sem.run_bind, show (Instr.makeMap t none).run P w = .ok (.map (some w.heap.size)) (w.alloc (.map #[] 0)) from rfl, Result.andThen_ok, Sem.run_pure]
  · simp only [res, with_sv]; exact Added.alloc w _
  · simp only [Ip.g, gam, e1, with_sv]; rfl

theorem fill_nil {place : Nat → Option (Nat × Nat)} {cs : Array Value} : Instr.fill place cs [] = some cs := rfl

theorem zeros_eq {zs : List Value} {sz : Nat} (hz : zs.length = sz) : ∀ len : Nat, (List.range (len * sz)).map (fun i => zs.toArray[i % sz]!) = (List.range len).flatMap fun _ => zs := by
  intro len
  induction len with
  | zero => simp
  | succ len ih =>
    rw [Nat.add_mul, Nat.one_mul, List.range_add, List.map_append, ih, List.range_succ, List.flatMap_append, List.map_map]
    congr 1
    simp only [List.flatMap_cons, List.flatMap_nil, List.append_nil]
    apply List.ext_getElem (by simp [hz])
    intro i h1 h2
    simp at h1
    have e : (len * sz + i) % sz = i := by rw [Nat.mul_comm, Nat.mul_add_mod, Nat.mod_eq_of_lt h1]
    simp [e, h2, getElem!_pos]

theorem flat_len {α : Type} (zs : List α) (len : Nat) : ((List.range len).flatMap fun _ => zs).length = len * zs.length := by
  induction len with
  | zero => simp
  | succ n ih => rw [List.range_succ, List.flatMap_append, List.length_append, ih]; simp [Nat.add_mul]

theorem a_buildSlice (h : SR I env w0 s w) (hF : FR I s.nx n F a dd) {call : CallT} {o : Oper} {t len : Nat} {ps : Array (Nat × Operand)} {v : AV} (ho : o.op = .buildSlice t len ps) (hh : aact (tabOf P) call s F o.op = some (v, s')) : Yd P o a.eval w (Left I env w0 s s' v) := by
  rw [ho] at hh
  simp only [aact, Option.bind_eq_bind, Option.bind_eq_some_iff] at hh
  obtain ⟨d, (hd : P.underlying t = some d), hh⟩ := hh
  cases d <;> simp only at hh <;> try (cases hh; done)
  rename_i e
  rw [Option.bind_eq_some_iff] at hh
  obtain ⟨sz, hsz, hh⟩ := hh
  rw [Option.bind_eq_some_iff] at hh
  obtain ⟨z, hz, hh⟩ := hh
  obtain ⟨z1, z2, z3⟩ := run_zeroValue' (P := P) hz I s.nx w
  obtain ⟨ie, hie, hsz'⟩ := Option.map_eq_some_iff.1 (show (P.info? e).map (·.size) = some sz from hsz)
  split at hh
  · split at hh
    · rename_i hc
      obtain ⟨rfl, hps⟩ := hc
      rw [Option.bind_eq_some_iff] at hh
      obtain ⟨⟨m, s1⟩, hf, hh⟩ := hh
      simp only [Option.some.injEq, Prod.mk.injEq] at hh
      obtain ⟨rfl, rfl⟩ := hh
      have hm := (fresh_eq hf).1
      have hps' : ps = #[] := by
        have : ps.toList = [] := List.isEmpty_iff.1 hps
        exact Array.toList_eq_nil_iff.1 this
      subst hps'
      refine Yd.ok' (v := .slice (some ⟨w.heap.size, 0, none⟩) 0 0) (w' := w.alloc (.cells ((([] : List AV)).map I.g).toArray e (0, 0))) ?_ (h.newPt hf ⟨rfl, by simp, by simp⟩ (by simp only [okV]; omega) (fun I' hb => by simp only [gam, hb]))
      have hr : (Instr.buildSlice t 0 #[]).run P w = .ok (SV.v ⟨some ⟨w.heap.size, 0, none⟩, 0, 0⟩) (w.alloc (.cells #[] e (0, 0))) := by
        have e1 : ∀ w, (sizeOf e).run P w = .ok ie.size w := fun w => by simp [sizeOf, typeInfo, hie]
        simp only [Instr.buildSlice, Sem.run_bind, run_underlying hd, Result.andThen_ok, e1, Nat.zero_mul]
        have e0 : Array.range 0 = #[] := by simp
        simp [Instr.fill, newRow]
        rw [e0, Array.map_empty]
      simp only [execOp, ho, Sem.run_bind, List.map_toArray, List.map_nil, Array.map_empty, hr, Result.andThen_ok, Sem.run_pure]
    · cases hh
  · rename_i hc
    simp only [not_or, ne_eq, Decidable.not_not] at hc
    obtain ⟨hc1, hc2, hc3⟩ := hc
    rw [Option.bind_eq_some_iff] at hh
    obtain ⟨vs, hvs, hh⟩ := hh
    rw [Option.bind_eq_some_iff] at hh
    obtain ⟨cs, hcs, hh⟩ := hh
    rw [Option.bind_eq_some_iff] at hh
    obtain ⟨⟨m, s1⟩, hf, hh⟩ := hh
    simp only [Option.some.injEq, Prod.mk.injEq] at hh
    obtain ⟨rfl, rfl⟩ := hh
    have hm := (fresh_eq hf).1
    obtain ⟨p1, p2⟩ := hF.parts hvs
    have hzr := row_of z2 z3
    have hzl : (cellsOf z).length = sz := by rw [hzr.n, hc3]
    have hrow : Row s.nx (len * sz) ((List.range len).flatMap fun _ => cellsOf z) := by
      refine ⟨by rw [flat_len, hzl], fun u hu => ?_, fun u hu => ?_⟩
      · obtain ⟨_, _, hu⟩ := List.mem_flatMap.1 hu; exact hzr.one u hu
      · obtain ⟨_, _, hu⟩ := List.mem_flatMap.1 hu; exact hzr.ok u hu
    obtain ⟨h5, h6⟩ := fillA_ok (I := I) vs hcs hrow p2
    obtain ⟨zv, hzv, hzo⟩ := Option.bind_eq_some_iff.1 (show ((P.info? e).bind (·.zero)).bind ofV = some z from hz)
    rw [hie, Option.bind_some] at hzv
    have hzg : I.g z = zv := (ofV_ok hzo I.sv s.nx).1
    have hzc : zv.cells = ((cellsOf z).map I.g).toArray := by rw [← hzg]; exact cellsOf_gam I.sv z
    have hfill : Instr.fill (fun i => some (i * ie.size, ie.size)) ((Array.range (len * ie.size)).map (zv.cells[· % zv.cells.size]!)) (ps.map fun (i, x) => (i, a.eval x)).toList = some (cs.map I.g).toArray := by
      rw [hsz', hzc]
      have e2 : (Array.range (len * sz)).map (fun i => ((cellsOf z).map I.g).toArray[i % ((cellsOf z).map I.g).toArray.size]!) = (((List.range len).flatMap fun _ => cellsOf z).map I.g).toArray := by
        have e3 : ((cellsOf z).map I.g).toArray.size = sz := by simp [hzl]
        rw [e3, ← Array.toList_inj]
        simp only [Array.toList_map, Array.toList_range]
        rw [zeros_eq (by simp [hzl]) len, List.map_flatMap]
      rw [e2]
      rw [Array.toList_map]
      rw [show (ps.toList.map fun (x : Nat × Operand) => (x.1, a.eval x.2)) = _ from p1]
      exact h6
    have hr := run_buildSlice (P := P) w t e len (ps.map fun (i, x) => (i, a.eval x)) (cs.map I.g).toArray ie zv hd hie hzv (by rw [hsz']; omega) (by rw [hsz']; exact hc1) hfill
    refine Yd.ok' (v := .slice (some ⟨w.heap.size, 0, none⟩) len len) (w' := w.alloc (.cells (cs.map I.g).toArray e (0, 0))) ?_ (h.newPt hf h5 (by simp only [okV]; omega) (fun I' hb => by simp only [gam, hb]))
    simp only [execOp, ho, Sem.run_bind, hr, Result.andThen_ok, Sem.run_pure]
end
end Go.Ev
