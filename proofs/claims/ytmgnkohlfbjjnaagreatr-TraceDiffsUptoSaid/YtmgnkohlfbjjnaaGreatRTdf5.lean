/- Ground for this claim: The call of TraceDiffs returns true. Condition: the arguments are of bulk at most 1048576. -/
import Derived.Laws.MakeOwn
import Derived.Test.YtmgnkohlfbjjnaaGreatRTdf4
section
namespace Go.Fx
open Go Go.Fw
set_option linter.unusedVariables false
set_option linter.unusedSimpArgs false
def mk {X : Type} (bytes : Nat) (z : X) (n : Int) : Option (List X) := if 0 ≤ n ∧ (bytes : Int) * n ≤ 281474976710656 ∧ n ≤ 4611686018427387904 then some (List.replicate n.toNat z) else none
section
variable {P : Program} {n : Nat} {F : List (Nat × Value)} {a : Act} {dd : List Deferred} {w : World} {o : Oper} {J : Value → World → Prop}
end
end Go.Fx
end
section
namespace Go.Fx
open Go Go.Fw Go.Proofs
set_option linter.unusedVariables false
set_option linter.unusedSimpArgs false
section
variable {X : Type}
end
section
variable {X : Type} [Enc X]
def stretch (s : SV) : SV := ⟨s.a, s.len + 2, s.cap⟩
structure RmOf (w : World) (s : SV) (l sp : List X) : Prop where
  full : SliceOf 0 w (stretch s) (l ++ sp)
  two : sp.length = 2
theorem RmOf.sl {w : World} {s : SV} {l sp : List X} (h : RmOf w s l sp) : SliceOf 0 w s l := by
  obtain ⟨h, h2⟩ := h
  have h1 := h.len
  have h3 := h.room
  have h4 := h.cells
  simp only [stretch, List.length_append] at h1 h3 h4
  refine ⟨by omega, by omega, ?_⟩
  obtain ⟨sa, sl, sc⟩ := s
  cases sa with
  | none => have := congrArg List.length h4.1; simp at this; omega
  | some ad =>
    obtain ⟨k1, k2, k3⟩ := h4
    refine ⟨.inr (k1.resolve_left fun k => by rw [List.append_eq_nil_iff] at k; rw [k.2] at h2; cases h2), k2, fun j v hj => k3 j v ?_⟩
    rw [encs_append, List.getElem?_append_left (List.getElem?_eq_some_iff.1 hj).1]
    exact hj
def LRm (L : World → Prop) (s : SV) (l sp : List X) : Prop := ∀ w, L w → RmOf w s l sp
theorem LRm.mono {L L' : World → Prop} {s : SV} {l sp : List X} (h : LRm L s l sp) (k : ∀ w, L' w → L w) : LRm L' s l sp := fun w hM => h w (k w hM)
theorem LRm.full {L : World → Prop} {s : SV} {l sp : List X} (h : LRm L s l sp) : LIn L (stretch s) (l ++ sp) := fun w hM => (h w hM).full
end
def spU8 : List UInt8 := [161, 162]
def spInt : List Int := [-7, -8]
def spTurn : List LTurn := [⟨-7, LVal.zero, LVal.zero⟩, ⟨-8, LVal.zero, LVal.zero⟩]
def spCell : List LCell := [⟨-7, LSlot.zero, LSlot.zero⟩, ⟨-8, LSlot.zero, LSlot.zero⟩]
def hspPiece : List RPiece := [⟨0, -7, SV.nil, SV.nil⟩, ⟨0, -8, SV.nil, SV.nil⟩]
def BytesRm (L : World → Prop) (s : SV) (l : List UInt8) : Prop := LRm L s l spU8
theorem BytesRm.mono {L L' : World → Prop} {s : SV} {l : List UInt8} (h : BytesRm L s l) (k : ∀ w, L' w → L w) : BytesRm L' s l := LRm.mono h k
def QPieceRm (L : World → Prop) (x : RPiece) (p : QPiece) : Prop := ∃ (s_old : SV) (s_new : SV), x = (RPiece.mk p.table p.from_ s_old s_new) ∧ LRm L s_old p.old spU8 ∧ LRm L s_new p.new spU8
theorem QPieceRm.mono {L L' : World → Prop} {x : RPiece} {p : QPiece} (h : QPieceRm L x p) (k : ∀ w, L' w → L w) : QPieceRm L' x p := by
  obtain ⟨s_old, s_new, e, h0, h1⟩ := h
  exact ⟨s_old, s_new, e, h0.mono k, h1.mono k⟩
def QMarkRm (L : World → Prop) (x : RMark) (p : QMark) : Prop := ∃ (s_regs : SV) (s_slots : SV) (s_pieces : SV) (h_pieces : List RPiece) (s_sent : SV), x = (RMark.mk p.at_ p.next p.done s_regs s_slots s_pieces s_sent) ∧ LRm L s_regs p.regs spTurn ∧ LRm L s_slots p.slots spCell ∧ LRm L s_pieces h_pieces hspPiece ∧ Each (QPieceRm L) h_pieces p.pieces ∧ LRm L s_sent p.sent spInt
theorem QMarkRm.mono {L L' : World → Prop} {x : RMark} {p : QMark} (h : QMarkRm L x p) (k : ∀ w, L' w → L w) : QMarkRm L' x p := by
  obtain ⟨s_regs, s_slots, s_pieces, h_pieces, s_sent, e, h0, h1, h2, h3, h4⟩ := h
  exact ⟨s_regs, s_slots, s_pieces, h_pieces, s_sent, e, h0.mono k, h1.mono k, h2.mono k, h3.mono fun _ _ q => q.mono k, h4.mono k⟩
section
variable {P : Program} {n : Nat} {F : List (Nat × Value)} {a : Act} {dd : List Deferred} {w : World} {o : Oper}
end
end Go.Fx
end
section
namespace Go.Fx
open Go Go.Fw Go.Proofs
set_option linter.unusedVariables false
set_option linter.unusedSimpArgs false
def LastP (sep : Bool) (L : World → Prop) (hs : List RPiece) (l : List QPiece) (so sn : SV) (lo ln : List UInt8) : Prop :=
  (sep = false ∧ Each (QPieceIn L) hs l) ∨ (sep = true ∧ ∃ hs0 l0 t f, hs = hs0 ++ [⟨t, f, so, sn⟩] ∧ l = l0 ++ [⟨t, f, lo, ln⟩] ∧ Each (QPieceIn L) hs0 l0)
section
variable {sep : Bool} {L L' : World → Prop} {hs : List RPiece} {l : List QPiece} {so sn : SV} {lo ln : List UInt8}
theorem LastP.none (h : Each (QPieceIn L) hs l) : LastP false L hs l so sn lo ln := .inl ⟨rfl, h⟩
theorem LastP.mono (h : LastP sep L hs l so sn lo ln) (k : ∀ w, L' w → L w) : LastP sep L' hs l so sn lo ln := by
  rcases h with ⟨h1, h2⟩ | ⟨h1, hs0, l0, t, f, h2, h3, h4⟩
  · exact .inl ⟨h1, h2.mono fun _ _ q => q.mono k⟩
  · exact .inr ⟨h1, hs0, l0, t, f, h2, h3, h4.mono fun _ _ q => q.mono k⟩
theorem LastP.each (h : LastP sep L hs l so sn lo ln) (k : ∀ w, L' w → L w) (ho : ∀ w, L' w → SliceOf 0 w so lo) (hn : ∀ w, L' w → SliceOf 0 w sn ln) : Each (QPieceIn L') hs l := by
  rcases h with ⟨h1, h2⟩ | ⟨h1, hs0, l0, t, f, rfl, rfl, h4⟩
  · exact h2.mono fun _ _ q => q.mono k
  · exact (h4.mono fun _ _ q => q.mono k).snoc ⟨so, sn, rfl, ho, hn⟩
theorem LastP.len (h : LastP sep L hs l so sn lo ln) : hs.length = l.length := by
  rcases h with ⟨h1, h2⟩ | ⟨h1, hs0, l0, t, f, rfl, rfl, h4⟩
  · exact h2.len
  · simp [h4.len]
theorem LastP.push {t f : Int} {so' sn' : SV} {lo' ln' : List UInt8} (h : Each (QPieceIn L) hs l) : LastP true L (hs ++ [⟨t, f, so', sn'⟩]) (l ++ [⟨t, f, lo', ln'⟩]) so' sn' lo' ln' := .inr ⟨rfl, hs, l, t, f, rfl, rfl, h⟩
theorem LastP.last {i : Int} {p : QPiece} {y : RPiece} (h : LastP true L hs l so sn lo ln) (hi : i = (l.length : Int) - 1) (hp : Fx.get l i = some p) (hy : hs[i.toNat]? = some y) : y.old = so ∧ y.new = sn ∧ p.old = lo ∧ p.new = ln ∧ y.table = p.table ∧ y.from_ = p.from_ := by
  rcases h with ⟨h1, _⟩ | ⟨_, hs0, l0, t, f, rfl, rfl, h4⟩
  · cases h1
  · have e : i.toNat = l0.length := by subst hi; simp
    obtain ⟨_, hp⟩ := get_some hp
    rw [e] at hp hy
    rw [← h4.len] at hy
    simp at hp hy
    subst hp hy
    exact ⟨rfl, rfl, rfl, rfl, rfl, rfl⟩
theorem LastP.setOld {i : Int} {p : QPiece} {y : RPiece} {so' : SV} {lo' : List UInt8} (h : LastP true L hs l so sn lo ln) (hi : i = (l.length : Int) - 1) (hp : Fx.get l i = some p) (hy : hs[i.toNat]? = some y) :
    LastP true L (hs.set i.toNat { y with old := so' }) (l.set i.toNat { p with old := lo' }) so' sn lo' ln := by
  have h0 := h
  rcases h with ⟨h1, _⟩ | ⟨_, hs0, l0, t, f, rfl, rfl, h4⟩
  · cases h1
  · obtain ⟨e1, e2, e3, e4, e5, e6⟩ := LastP.last h0 hi hp hy
    have e : i.toNat = l0.length := by subst hi; simp
    obtain ⟨_, hp⟩ := get_some hp
    rw [e] at hp hy ⊢
    simp at hp
    subst hp
    rw [← h4.len] at hy
    simp at hy
    subst hy
    refine .inr ⟨rfl, hs0, l0, t, f, ?_, ?_, h4⟩
    · rw [← h4.len]; simp
    · simp
theorem LastP.setNew {i : Int} {p : QPiece} {y : RPiece} {sn' : SV} {ln' : List UInt8} (h : LastP true L hs l so sn lo ln) (hi : i = (l.length : Int) - 1) (hp : Fx.get l i = some p) (hy : hs[i.toNat]? = some y) :
    LastP true L (hs.set i.toNat { y with new := sn' }) (l.set i.toNat { p with new := ln' }) so sn' lo ln' := by
  have h0 := h
  rcases h with ⟨h1, _⟩ | ⟨_, hs0, l0, t, f, rfl, rfl, h4⟩
  · cases h1
  · obtain ⟨e1, e2, e3, e4, e5, e6⟩ := LastP.last h0 hi hp hy
    have e : i.toNat = l0.length := by subst hi; simp
    obtain ⟨_, hp⟩ := get_some hp
    rw [e] at hp hy ⊢
    simp at hp
    subst hp
    rw [← h4.len] at hy
    simp at hy
    subst hy
    refine .inr ⟨rfl, hs0, l0, t, f, ?_, ?_, h4⟩
    · rw [← h4.len]; simp
    · simp
theorem LastP.setAll {i : Int} {p : QPiece} {y : RPiece} {so' sn' : SV} {lo' ln' : List UInt8} (h : LastP true L hs l so sn lo ln) (hi : i = (l.length : Int) - 1) (hp : Fx.get l i = some p) (hy : hs[i.toNat]? = some y) :
    LastP true L (hs.set i.toNat ⟨p.table, p.from_, so', sn'⟩) (l.set i.toNat ⟨p.table, p.from_, lo', ln'⟩) so' sn' lo' ln' := by
  have h0 := h
  rcases h with ⟨h1, _⟩ | ⟨_, hs0, l0, t, f, rfl, rfl, h4⟩
  · cases h1
  · have e : i.toNat = l0.length := by subst hi; simp
    obtain ⟨_, hp⟩ := get_some hp
    rw [e] at hp hy ⊢
    simp at hp
    subst hp
    refine .inr ⟨rfl, hs0, l0, t, f, ?_, ?_, h4⟩
    · rw [← h4.len]; simp
    · simp
theorem LastP.getr {i : Int} {p : QPiece} (h : LastP sep L hs l so sn lo ln) (hp : Fx.get l i = some p) : ∃ y, hs[i.toNat]? = some y := by
  obtain ⟨_, hp⟩ := get_some hp
  have := (List.getElem?_eq_some_iff.1 hp).1
  exact ⟨_, List.getElem?_eq_getElem (by rw [h.len]; exact this)⟩
end
end Go.Fx
end
section
namespace Go.Proofs
open Go Go.Fw Go.Fx
set_option maxRecDepth 10000
set_option linter.unusedVariables false
set_option linter.unusedSimpArgs false
noncomputable def Sh.trace_pieces_j5 (v16301 : List QPiece) (t16311 : Bool) : Option (((List QPiece × Bool) ⊕ ((Int × List QPiece × Bool) ⊕ ((List QPiece × Bool) ⊕ List QPiece)))) :=
  (some (Sum.inl (v16301, t16311)))
noncomputable def Sh.trace_pieces_j4 (x0 : Int) (x1 : List UInt8) (x2 : List UInt8) (v15060 : List QPiece) (t15070 : Bool) (x15947 : Int) (v16182 : Bool) : Option (((List QPiece × Bool) ⊕ ((Int × List QPiece × Bool) ⊕ ((List QPiece × Bool) ⊕ List QPiece)))) :=
  (bif v16182 then (Fx.seq ((Fx.get v15060 (IntKind.i64.wrap ((v15060.length : Int) - 1))).bind fun x16312 => ((Fx.get x1 x15947).bind fun x16318 => ((Fx.get v15060 (IntKind.i64.wrap ((v15060.length : Int) - 1))).bind fun x16319 => ((Fx.get x2 x15947).bind fun x16325 => (Fx.must (t15070) (Fx.must (decide ((IntKind.i64.wrap ((v15060.length : Int) - 1)) = (v15060.length : Int) - 1)) ((Fx.app 1 x16312.old [x16318]).bind fun x16332 => (Fx.must (t15070) (Fx.must (decide ((IntKind.i64.wrap ((v15060.length : Int) - 1)) = (v15060.length : Int) - 1)) ((Fx.app 1 x16319.new [x16325]).bind fun x16339 => ((Fx.get v15060 (IntKind.i64.wrap ((v15060.length : Int) - 1))).bind fun x16340 => ((Fx.get v15060 (IntKind.i64.wrap ((v15060.length : Int) - 1))).bind fun x16348 => (Fx.must (t15070) (Fx.must (decide ((IntKind.i64.wrap ((v15060.length : Int) - 1)) = (v15060.length : Int) - 1)) ((Fx.get (v15060.set ((IntKind.i64.wrap ((v15060.length : Int) - 1)) : Int).toNat { x16348 with old := x16332 }) (IntKind.i64.wrap ((v15060.length : Int) - 1))).bind fun x16352 => ((Fx.get (v15060.set ((IntKind.i64.wrap ((v15060.length : Int) - 1)) : Int).toNat { x16348 with old := x16332 }) (IntKind.i64.wrap ((v15060.length : Int) - 1))).bind fun x16360 => (Fx.must (true) (Fx.must (decide ((IntKind.i64.wrap ((v15060.length : Int) - 1)) = ((v15060.set ((IntKind.i64.wrap ((v15060.length : Int) - 1)) : Int).toNat { x16348 with old := x16332 }).length : Int) - 1)) (some (Sum.inl (((v15060.set ((IntKind.i64.wrap ((v15060.length : Int) - 1)) : Int).toNat { x16348 with old := x16332 }).set ((IntKind.i64.wrap ((v15060.length : Int) - 1)) : Int).toNat { x16360 with new := x16339 }), true))))))))))))))))))))) fun (v16301, t16311) => Sh.trace_pieces_j5 v16301 t16311) else ((Fx.get x1 x15947).bind fun x16364 => ((Fx.get x2 x15947).bind fun x16365 => ((Fx.app 64 v15060 [(QPiece.mk x0 x15947 [x16364] [x16365])]).bind fun x16367 => (some (Sum.inl (x16367, true)))))))
noncomputable def Sh.trace_pieces_j3 (v15059 : Int) (v15936 : List QPiece) (t15946 : Bool) : Option (((Int × List QPiece × Bool) ⊕ ((List QPiece × Bool) ⊕ List QPiece))) :=
  (some (Sum.inl ((IntKind.i64.wrap (v15059 + 1)), v15936, t15946)))
noncomputable def Sh.trace_pieces_l2 (x0 : Int) (x1 : List UInt8) (x2 : List UInt8) (y13653 : List Int) (v15059 : Int) (v15060 : List QPiece) (t15070 : Bool) : Option (((Int × List QPiece × Bool) ⊕ ((List QPiece × Bool) ⊕ List QPiece))) :=
  (bif (decide (v15059 < (y13653.length : Int))) then (Fx.seq ((Fx.get y13653 v15059).bind fun x15947 => (Fx.seq (bif (decide (0 ≤ (IntKind.i64.wrap ((v15060.length : Int) - 1)))) then ((Fx.get v15060 (IntKind.i64.wrap ((v15060.length : Int) - 1))).bind fun x16184 => ((Fx.get v15060 (IntKind.i64.wrap ((v15060.length : Int) - 1))).bind fun x16190 => (some (Sum.inl (decide ((IntKind.i64.wrap (x16184.from_ + (x16190.old.length : Int))) = x15947)))))) else (some (Sum.inl false))) fun v16182 => Sh.trace_pieces_j4 x0 x1 x2 v15060 t15070 x15947 v16182)) fun (v15936, t15946) => Sh.trace_pieces_j3 v15059 v15936 t15946) else (some (Sum.inr (Sum.inl (v15060, t15070)))))
noncomputable def Sh.trace_pieces_j1 (v13641 : List QPiece) (t13651 : Bool) : Option (List QPiece) :=
  (some v13641)
noncomputable def Sh.trace_pieces (x0 : Int) (x1 : List UInt8) (x2 : List UInt8) : Option (List QPiece) :=
  (Fx.seq ((Sh.trace_changed_byte x1 x2).bind fun y13653 => (Fx.loop (fun (v15059, v15060, t15070) => Sh.trace_pieces_l2 x0 x1 x2 y13653 v15059 v15060 t15070) (0, [], false))) fun (v13641, t13651) => Sh.trace_pieces_j1 v13641 t13651)
noncomputable def Sh.ref23_unlike_j4 (x1 : Int) (x2 : List UInt8) (x3 : List UInt8) (v4982 : List QPiece) (t4992 : Bool) (v4993 : Int) (v5203 : Bool) : Option (((List QPiece × Bool) ⊕ ((List QPiece × Bool × Int) ⊕ ((List QPiece × Bool) ⊕ List QPiece)))) :=
  (bif v5203 then ((Fx.get v4982 (IntKind.i64.wrap ((v4982.length : Int) - 1))).bind fun x5208 => ((Fx.get x2 v4993).bind fun x5224 => (Fx.must (t4992) (Fx.must (decide ((IntKind.i64.wrap ((v4982.length : Int) - 1)) = (v4982.length : Int) - 1)) ((Fx.app 1 x5208.old [x5224]).bind fun x5231 => ((Fx.get x3 v4993).bind fun x5242 => (Fx.must (t4992) (Fx.must (decide ((IntKind.i64.wrap ((v4982.length : Int) - 1)) = (v4982.length : Int) - 1)) ((Fx.app 1 x5208.new [x5242]).bind fun x5249 => ((Fx.get v4982 (IntKind.i64.wrap ((v4982.length : Int) - 1))).bind fun x5251 => ((Fx.get v4982 (IntKind.i64.wrap ((v4982.length : Int) - 1))).bind fun x5259 => (Fx.must (t4992) (Fx.must (decide ((IntKind.i64.wrap ((v4982.length : Int) - 1)) = (v4982.length : Int) - 1)) (Fx.must (decide (x5208.table = x5259.table)) (Fx.must (decide (x5208.from_ = x5259.from_)) (some (Sum.inl ((v4982.set ((IntKind.i64.wrap ((v4982.length : Int) - 1)) : Int).toNat (QPiece.mk x5208.table x5208.from_ x5231 x5249)), true)))))))))))))))))) else ((Fx.get x2 v4993).bind fun x5265 => ((Fx.get x3 v4993).bind fun x5266 => ((Fx.app 64 v4982 [(QPiece.mk x1 v4993 [x5265] [x5266])]).bind fun x5268 => (some (Sum.inl (x5268, true)))))))
noncomputable def Sh.ref23_unlike_j3 (v4993 : Int) (v5176 : List QPiece) (t5186 : Bool) : Option (((List QPiece × Bool × Int) ⊕ ((List QPiece × Bool) ⊕ List QPiece))) :=
  (some (Sum.inl (v5176, t5186, (IntKind.i64.wrap (v4993 + 1)))))
noncomputable def Sh.ref23_unlike_l2 (x1 : Int) (x2 : List UInt8) (x3 : List UInt8) (v4982 : List QPiece) (t4992 : Bool) (v4993 : Int) : Option (((List QPiece × Bool × Int) ⊕ ((List QPiece × Bool) ⊕ List QPiece))) :=
  (bif (decide (v4993 < (x2.length : Int))) then (Fx.seq ((Fx.get x2 v4993).bind fun x5194 => ((Fx.get x3 v4993).bind fun x5195 => (bif (decide ((x5194.toNat : Int) = (x5195.toNat : Int))) then (some (Sum.inl (v4982, t4992))) else (Fx.seq (bif (decide (0 < v4993)) then ((Fx.get x2 (IntKind.i64.wrap (v4993 - 1))).bind fun x5205 => ((Fx.get x3 (IntKind.i64.wrap (v4993 - 1))).bind fun x5206 => (some (Sum.inl (!decide ((x5205.toNat : Int) = (x5206.toNat : Int))))))) else (some (Sum.inl false))) fun v5203 => Sh.ref23_unlike_j4 x1 x2 x3 v4982 t4992 v4993 v5203)))) fun (v5176, t5186) => Sh.ref23_unlike_j3 v4993 v5176 t5186) else (some (Sum.inr (Sum.inl (v4982, t4992)))))
noncomputable def Sh.ref23_unlike_j1 (v4393 : List QPiece) (t4403 : Bool) : Option (List QPiece) :=
  (some v4393)
noncomputable def Sh.ref23_unlike (x0 : List QPiece) (x1 : Int) (x2 : List UInt8) (x3 : List UInt8) : Option (List QPiece) :=
  (Fx.seq (Fx.loop (fun (v4982, t4992, v4993) => Sh.ref23_unlike_l2 x1 x2 x3 v4982 t4992 v4993) (x0, false, 0)) fun (v4393, t4403) => Sh.ref23_unlike_j1 v4393 t4403)
end Go.Proofs
end
section
namespace Go.Ev
open Go.Fw
set_option linter.unusedSimpArgs false
set_option linter.unusedVariables false
def CallOK (P : Program) (w0 : World) (env : Env) (call : CallT) : Prop :=
  ∀ (I : Ip) (s s' : St) (w : World) (g : AV) (vs : List AV) (v : AV), call g vs s = some (v, s') → SR I env w0 s w → okV s.nx g → (∀ u ∈ vs, okV s.nx u) →
    match g with
    | .f f fs cs => (∀ args w, (callFunc f args).run P w = .ok (.enter f args) w) ∧ Calls P f ((fs ++ vs ++ cs).map I.g).toArray w (Ret (Left I env w0 s s' v))
    | .y l => ∃ f tmps as bd, (Instr.yield (I.sv l).blk (vs.map I.g).toArray).run P w = .ok (.round (I.sv l).blk f tmps as bd) w ∧ RoundIn (Wd none) 0 P (I.sv l).blk f tmps as bd w (Ret (Left I env w0 s s' v))
    | _ => False
section
variable {I : Ip} {env : Env} {n : Nat} {w0 w : World} {s s' : St} {F : Fm} {a : Act} {dd : List Deferred} {P : Program}
theorem small_ok {e z : Nat} (h : (tabOf P).small e = true) (hz : (tabOf P).sz e = some z) : ∃ i zv, P.info? e = some i ∧ i.bytes ≤ 1000000 ∧ i.zero = some zv ∧ zv.cells.size = z ∧ i.size = z := by
  simp only [tabOf] at h hz
  obtain ⟨i, hi, rfl⟩ := Option.map_eq_some_iff.1 hz
  rw [hi] at h
  simp only [smallI, Bool.and_eq_true] at h
  obtain ⟨h1, h2⟩ := h
  cases hzv : i.zero with
  | none => simp [hzv] at h2
  | some zv =>
    simp only [hzv] at h2
    exact ⟨i, zv, hi, Nat.le_of_ble_eq_true h1, hzv, Nat.eq_of_beq_eq_true h2, rfl⟩
theorem SR.newRow (h : SR I env w0 s w) {m e z k : Nat} {l : List AV} {sv : SV} {w' : World} (hf : fresh s (.row e z k l) = some (m, s')) (hr : Row s.nx (k * z) l) (hz : 0 < z) (hA : Added (.row w0.heap.size sv.v e z k (l.map I.g)) w w') :
    Left I env w0 s s' (.row m []) sv.v w' := by
  have hst := Step.fresh hf
  obtain ⟨e1, e2⟩ := fresh_eq hf
  refine ⟨I.with s.nx sv #[], Agree.with _ _ _ _, h.add hf sv ⟨hr.n, hz, hr.one, fun v hv => okV_mono (Nat.le_succ _) v (hr.ok v hv)⟩ ?_, ?_, by rw [e2, e1]; exact Nat.lt_succ_self _, hst, by rw [e2]⟩
  · simp only [res]
    rw [(Agree.with I s.nx _ _).map hr.ok, with_sv]
    exact hA
  · simp only [Ip.g, gam, List.foldl_nil, e1, with_sv]
theorem a_append (h : SR I env w0 s w) (hF : FR I s.nx n F a dd) {call : CallT} {o : Oper} {xs : Array Operand} {ts : Array TypeId} {v : AV} (ho : o.op = .call { callee := .builtin .append, args := xs, argTypes := ts }) (hh : aact (tabOf P) call s F o.op = some (v, s')) : Yd P o a.eval w (Left I env w0 s s' v) := by
  rw [ho] at hh
  simp only [aact, Option.bind_eq_bind] at hh
  rw [Option.bind_eq_some_iff] at hh
  obtain ⟨us, hus, hh⟩ := hh
  obtain ⟨h1, h2⟩ := hF.evals hus
  split at hh
  · rename_i x y t t' hts
    split at hh
    · cases hh
    · rename_i htt
      simp only [ne_eq, Decidable.not_not] at htt
      subst htt
      rw [Option.bind_eq_some_iff] at hh
      obtain ⟨d, (hd : P.underlying t = some d), hh⟩ := hh
      cases d <;> simp only at hh <;> try (cases hh; done)
      rename_i e
      rw [Option.bind_eq_some_iff] at hh
      obtain ⟨z, hz, hh⟩ := hh
      rw [Option.bind_eq_some_iff] at hh
      obtain ⟨q, hq, hh⟩ := hh
      split at hh
      · cases hh
      · rename_i hc
        simp only [not_or, Bool.not_eq_false] at hc
        obtain ⟨hc1, hc2, hc3⟩ := hc
        obtain ⟨i, zv, hi, hby, hzv, hzs, hsize⟩ := small_ok hc3 hz
        obtain ⟨sy, hsy, hy, y1, y2⟩ := sliceOf_ok h.gk hq
        have yones : ∀ u ∈ q.2.map I.g, u.oneCell' = true := by
          intro u hu
          obtain ⟨u', hu', rfl⟩ := List.mem_map.1 hu
          exact oneA_gam (y1 u' hu')
        have hpos : 0 < z := by omega
        have hxs : xs.map a.eval = #[I.g x, sy.v] := by
          rw [← Array.toList_inj, Array.toList_map, h1]; simp [hsy]
        have hts' : ts = #[t, t] := by rw [← Array.toList_inj]; simpa using hts
        have fin : ∀ {u : Value} {w' : World}, (Builtin.append_ #[t, t] o.type #[I.g x, sy.v]).run P w = .ok u w' → (execOp a.eval o).run P w = .ok (.value u) w' := by
          intro u w' e
          simp only [execOp, ho, resolve, invoke, builtin, Sem.run_bind, Sem.run_pure, Result.andThen_ok, hxs, hts', e]
        have hrow : ∀ (m : Nat) (l : List AV), m ≤ 1000000 → Row s.nx (m * z) l → Row s.nx ((m + q.1) * z) (appR l q.2) := by
          intro m l _ hr
          rw [appR_eq]
          refine ⟨by rw [List.length_append, hr.n, Nat.add_mul]; have := hy.n; rw [List.length_map] at this; omega, fun u hu => ?_, fun u hu => ?_⟩
          · exact (List.mem_append.1 hu).elim (hr.one u) (y1 u)
          · exact (List.mem_append.1 hu).elim (hr.ok u) (y2 u)
        have hb1 : ∀ m, m ≤ 1000000 → m + q.1 ≤ maxLen ∧ (m + q.1) * i.bytes ≤ 140737488355328 := by
          intro m hm
          refine ⟨by simp only [maxLen]; omega, ?_⟩
          have : (m + q.1) * i.bytes ≤ 2000000 * 1000000 := Nat.mul_le_mul (by omega) hby
          omega
        split at hh
        · -- onto nothing
          split at hh
          · rename_i hq0
            simp only [Option.some.injEq, Prod.mk.injEq] at hh
            obtain ⟨rfl, rfl⟩ := hh
            refine Yd.ok' (v := I.g .nsl) (w' := w) (fin ?_) ⟨I, Agree.refl _ _, h, rfl, trivial, Step.refl _, rfl⟩
            have hl := hy.len
            rw [hq0] at hl
            obtain ⟨sa, sl, sc⟩ := sy
            simp only at hl; subst hl
            cases sa <;> simp [gam, Builtin.append_, run_underlying hd, sizeOf, typeInfo, hi, Builtin.lenOf, Builtin.firstCells, loadCells, loadCellsFrom]
          · rename_i hq0
            rw [Option.bind_eq_some_iff] at hh
            obtain ⟨⟨m, s1⟩, hf, hh⟩ := hh
            simp only [Option.some.injEq, Prod.mk.injEq] at hh
            obtain ⟨rfl, rfl⟩ := hh
            obtain ⟨hb2, hb3⟩ := hb1 0 (by omega)
            obtain ⟨sv', w', hr, hU⟩ := app_own (P := P) (ty := o.type) (sv := SV.nil) (xs := []) (m := 0) hd hi hzv hsize hzs hpos (World.ownsRow_nil w w0.heap.size e z) hy yones hb2 hb3 h.size
            refine Yd.ok' (fin hr) (h.newRow hf ⟨?_, y1, y2⟩ hpos ⟨⟨hU.io, hU.size, fun k hk _ => hU.block k hk (by simp [Res.fp, Value.ownBlock])⟩, ?_, fun k hk => ?_⟩)
            · have := hy.n; rwa [List.length_map] at this
            · have := hU.holds; simpa using this
            · rcases hU.fp k (by simpa [Res.fp] using hk) with h9 | h9
              · simp [Res.fp, Value.ownBlock] at h9
              · exact h9
        · -- onto a slice without room
          rename_i m off len cap
          split at hh
          · cases hh
          · rename_i hlc
            simp only [not_or, Nat.not_le, Nat.not_lt] at hlc
            obtain ⟨hl1, hl2⟩ := hlc
            rw [Option.bind_eq_some_iff] at hh
            obtain ⟨p, hp, hh⟩ := hh
            rw [Option.bind_eq_some_iff] at hh
            obtain ⟨⟨m', s1⟩, hf, hh⟩ := hh
            simp only [Option.some.injEq, Prod.mk.injEq] at hh
            obtain ⟨rfl, rfl⟩ := hh
            obtain ⟨sx, hsx, hx, x1, x2⟩ := sliceOf_ok h.gk hp
            have hsx' : sx = ⟨some ⟨(I.sv m).blk, off, none⟩, len, cap⟩ := by
              have e9 : (Value.slice (some ⟨(I.sv m).blk, off, none⟩) len cap) = sx.v := by rw [← hsx]; simp [gam]
              obtain ⟨a1, a2, a3⟩ := sx
              simp only [SV.v, Value.slice.injEq] at e9
              obtain ⟨r1, r2, r3⟩ := e9
              rw [r1, r2, r3]
            have hp1 : p.1 = len := by have := hx.len; rw [hsx'] at this; exact this.symm
            rw [hp1] at hx
            rw [hsx'] at hx
            obtain ⟨hb2, hb3⟩ := hb1 len hl2
            obtain ⟨sv', w', hr, hA⟩ := app_grow (P := P) (ty := o.type) (lo := w0.heap.size) hd hi hzv hsize hzs hx hy hl1 hb2 hb3 h.size
            have hxr : Row s.nx (len * z) p.2 := ⟨by have := hx.n; rwa [List.length_map] at this, x1, x2⟩
            refine Yd.ok' (v := sv'.v) (w' := w') (fin ?_) (h.newRow hf (hrow len p.2 hl2 hxr) hpos ?_)
            · rw [show I.g (.sl m off len cap) = .slice (some ⟨(I.sv m).blk, off, none⟩) len cap by simp [gam]]; exact hr
            · rw [appR_eq, List.map_append]; exact hA
        · -- onto a row
          rename_i m
          split at hh
          · rename_i e' z' c l hm
            split at hh
            · rename_i hcc
              obtain ⟨rfl, rfl, hcm⟩ := hcc
              rw [Option.bind_eq_some_iff] at hh
              obtain ⟨⟨m', s1⟩, hf, hh⟩ := hh
              simp only [Option.some.injEq, Prod.mk.injEq] at hh
              obtain ⟨rfl, rfl⟩ := hh
              obtain ⟨hk, hok⟩ := h.ok m _ hm
              have hown : w.ownsRow w0.heap.size e' z' (I.sv m).v c (l.map I.g) := h.holds m _ hm
              obtain ⟨hb2, hb3⟩ := hb1 c hcm
              obtain ⟨sv', w', hr, hU⟩ := app_own (P := P) (ty := o.type) hd hi hzv hsize hzs hpos hown hy yones hb2 hb3 h.size
              have hxr := hrow c l hcm ⟨hok.1, hok.2.2.1, hok.2.2.2⟩
              have hst : Step s s1 := (Step.wrote s m .dead).trans (Step.fresh hf)
              obtain ⟨e1, e2⟩ := fresh_eq hf
              have e1' : m' = s.nx := e1
              refine Yd.ok' (v := sv'.v) (w' := w') (fin ?_) ⟨I.with s.nx sv' #[], Agree.with _ _ _ _, h.move hm hf sv' ⟨hxr.n, hpos, hxr.one, fun v hv => okV_mono (Nat.le_succ _) v (hxr.ok v hv)⟩ ?_, ?_, by rw [e2, e1']; exact Nat.lt_succ_self _, hst, by rw [e2]; rfl⟩
              · rw [show I.g (.row m []) = (I.sv m).v by simp [gam]]; exact hr
              · simp only [res]
                rw [(Agree.with I s.nx _ _).map hxr.ok, with_sv, appR_eq, List.map_append]
                exact hU
              · simp only [Ip.g, gam, List.foldl_nil, e1', with_sv]
            · cases hh
          · cases hh
        · cases hh
  · cases hh
theorem a_call (h : SR I env w0 s w) (hF : FR I s.nx n F a dd) {call : CallT} (hC : CallOK P w0 env call) {o : Oper} {x : Operand} {xs : Array Operand} {ts : Array TypeId} {v : AV} (ho : o.op = .call { callee := .value x, args := xs, argTypes := ts }) (hh : aact (tabOf P) call s F o.op = some (v, s')) : Yd P o a.eval w (Left I env w0 s s' v) := by
  rw [ho] at hh
  simp only [aact, Option.bind_eq_bind] at hh
  rw [Option.bind_eq_some_iff] at hh
  obtain ⟨g, hg, hh⟩ := hh
  rw [Option.bind_eq_some_iff] at hh
  obtain ⟨us, hus, hh⟩ := hh
  obtain ⟨h1, h2⟩ := hF.evals hus
  obtain ⟨h3, h4⟩ := hF.eval hg
  have hxs : xs.map a.eval = (us.map I.g).toArray := by
    rw [← Array.toList_inj, Array.toList_map, h1]
  have hc := hC I s s' w g us v hh h h4 h2
  cases g <;> try (exact hc.elim)
  case f q fs cs =>
    obtain ⟨c1, c2⟩ := hc
    unfold Yd
    simp only [execOp, ho, resolve, h3, gam, gams_eq, Deferred.ofValue, invoke, Sem.run_bind, Sem.run_pure, Result.andThen_ok, hxs, List.append_toArray, c1]
    simp only [List.map_append] at c2
    exact c2
  case y l =>
    obtain ⟨f, tmps, as, bd, c1, c2⟩ := hc
    unfold Yd
    simp only [execOp, ho, resolve, h3, gam, Deferred.ofValue, invoke, Sem.run_bind, Sem.run_pure, Result.andThen_ok, hxs, Array.empty_append, c1]
    exact c2
theorem aact_ok (h : SR I env w0 s w) (hF : FR I s.nx n F a dd) {call : CallT} (hC : CallOK P w0 env call) {o : Oper} {v : AV} (hh : aact (tabOf P) call s F o.op = some (v, s')) : Yd P o a.eval w (Left I env w0 s s' v) := by
  have h0 := hh
  cases ho : o.op with
  | alloc e => exact a_alloc h hF ho hh
  | box e x => exact a_box h hF ho hh
  | store t x y => exact a_store h hF ho hh
  | buildSlice t len ps => exact a_buildSlice h hF ho hh
  | convert t t' x => exact a_convert h hF ho hh
  | makeMap t r =>
    cases r with
    | none => exact a_makeMap h ho hh
    | some r => rw [ho] at hh; simp [aact] at hh
  | mapUpdate t m k x => exact a_mapUpdate h hF ho hh
  | call c =>
    obtain ⟨callee, xs, ts⟩ := c
    cases callee with
    | builtin b =>
      cases b <;> first
        | exact a_append h hF ho hh
        | (rw [ho] at hh; simp [aact] at hh)
    | value x => exact a_call h hF hC ho hh
    | invoke x y => rw [ho] at hh; simp [aact] at hh
  | _ => rw [ho] at hh; simp [aact] at hh
theorem aop_ok (h : SR I env w0 s w) (hF : FR I s.nx n F a dd) {call : CallT} (hC : CallOK P w0 env call) {o : Oper} {v : AV} (hh : aop (tabOf P) call s F o.op = some (v, s')) : Yd P o a.eval w (Left I env w0 s s' v) := by
  unfold aop at hh
  have hact := aact_ok (P := P) h hF hC (o := o) (v := v) (s' := s')
  split at hh
  · split at hh
    · rename_i u hu
      simp only [Option.some.injEq, Prod.mk.injEq] at hh
      obtain ⟨rfl, rfl⟩ := hh
      obtain ⟨h1, h2⟩ := aval_ok h.gk hF hu
      exact Yd.ok' h1 ⟨I, Agree.refl _ _, h, rfl, h2, Step.refl _, rfl⟩
    · exact hact hh
  · exact hact hh
end
end Go.Ev
end
section
namespace Go.Ev
open Go.Fw
set_option linter.unusedSimpArgs false
set_option linter.unusedVariables false
theorem Yd.ex {P : Program} {o : Oper} {ρ : Operand → Value} {w : World} {J : Value → World → Prop} (h : Yd P o ρ w J) : ∃ v w', J v w' := by
  unfold Yd at h
  generalize (execOp ρ o).run P w = r at h
  cases r with
  | halt _ _ => exact h.elim
  | ok x w' =>
    cases x <;> simp only at h
    case value => exact ⟨_, _, h⟩
    case skip => exact ⟨_, _, h⟩
    case enter f args =>
      obtain ⟨e, w2, fr, hr, _⟩ := h []
      cases e <;> first | exact ⟨_, _, hr⟩ | exact hr.elim
    case round l f tmps assign body =>
      obtain ⟨e, w2, hr, _⟩ := h.2 default [] (room_wide _)
      cases e <;> first | exact ⟨_, _, hr⟩ | exact hr.elim
theorem SR.wr {I : Ip} {env : Env} {w0 w : World} {s : St} (h : SR I env w0 s w) (l : List Nat) : SR I env w0 { s with wr := l } w := ⟨h.old, h.io, h.ok, h.holds, h.low, h.apart, h.marks, h.env⟩
section
variable {r : Option Nat} {I : Ip} {env : Env} {n : Nat} {w0 w : World} {s s' : St} {F F' : Fm} {a : Act} {dd : List Deferred} {P : Program} {ops : Array Oper} {call : CallT} {Q : Exit → Act → World → Prop}
def Then (I : Ip) (env : Env) (w0 : World) (n : Nat) (dd : List Deferred) (s : St) (F' : Fm) (s' : St) (K : Act → World → Prop) : Prop :=
  ∀ I' a' w', Agree s.nx I I' → SR I' env w0 s' w' → FR I' s'.nx n F' a' dd → Step s s' → s'.marks = s.marks → K a' w'
theorem aops_ok (hC : CallOK P w0 env call) : ∀ (l : List Oper) {F : Fm} {s : St} {I : Ip} {a : Act} {w : World}, aops (tabOf P) call n ops l F s = some (F', s') → SR I env w0 s w → FR I s.nx n F a dd →
    Then I env w0 n dd s F' s' (Q .normal) → wpL r P ops Q l a w := by
  intro l
  induction l with
  | nil =>
    intro F s I a w hh h hF hQ
    simp only [aops, Option.some.injEq, Prod.mk.injEq] at hh
    obtain ⟨rfl, rfl⟩ := hh
    exact hQ I a w (Agree.refl _ _) h hF (Step.refl _) rfl
  | cons o l ih =>
    intro F s I a w hh h hF hQ
    simp only [aops, Option.bind_eq_bind] at hh
    rw [Option.bind_eq_some_iff] at hh
    obtain ⟨b, hb, hh⟩ := hh
    have hw := hF.want hb
    refine wpListIn_step fun _ hK => ?_
    rw [hw]
    cases b with
    | true =>
      simp only [if_true] at hh ⊢
      rw [Option.bind_eq_some_iff] at hh
      obtain ⟨⟨v, s1⟩, hq, hh⟩ := hh
      rw [force_eq, Option.bind_eq_some_iff] at hh
      obtain ⟨F1, hF1, hh⟩ := hh
      refine Yd.wp ((aop_ok h hF hC hq).mono fun u w' hA => ?_)
      obtain ⟨I', hA⟩ := hA
      refine hK _ _ (ih hh hA.sr (by rw [hA.val]; exact (hF.agree hA.ag hA.step.nx).setO hF1 hA.okv) ?_)
      intro I2 a2 w2 ag hs hf hst hm
      exact hQ I2 a2 w2 (hA.ag.trans ag hA.step.nx) hs hf (hA.step.trans hst) (hm.trans hA.marks)
    | false =>
      simp only [Bool.false_eq_true, if_false] at hh ⊢
      rw [Option.bind_eq_some_iff] at hh
      obtain ⟨F1, hF1, hh⟩ := hh
      exact ⟨fun _ _ => trivial, hK _ _ (ih hh h (by have := hF.setO hF1 (v := .und) trivial; simpa only [Ip.g, gam] using this) hQ)⟩
theorem eqMap {es es' : List (AV × AV × Nat)} (h1 : es.map (·.1) = es'.map (·.1)) (h2 : es.map (·.2.1) = es'.map (·.2.1)) (h3 : es.map (·.2.2) = es'.map (·.2.2)) : es = es' := by
  induction es generalizing es' with
  | nil => cases es' <;> simp at h1 ⊢
  | cons e es ih =>
    cases es' with
    | nil => simp at h1
    | cons e' es' =>
      simp only [List.map_cons, List.cons.injEq] at h1 h2 h3
      obtain ⟨a, b, c⟩ := e
      obtain ⟨a', b', c'⟩ := e'
      simp only at h1 h2 h3
      rw [ih h1.2 h2.2 h3.2, h1.1, h2.1, h3.1]
theorem eqO_eq {x y : AObj} (h : eqO x y = true) : x = y := by
  cases x <;> cases y <;> simp only [eqO, Bool.and_eq_true, Nat.beq_eq, decide_eq_true_eq, Bool.false_eq_true, beq_iff_eq] at h <;> try rfl
  case pt.pt => obtain ⟨⟨rfl, rfl⟩, h⟩ := h; rw [eqVs_eq _ _ h]
  case fz.fz => obtain ⟨⟨rfl, rfl⟩, h⟩ := h; rw [eqVs_eq _ _ h]
  case row.row => obtain ⟨⟨⟨rfl, rfl⟩, rfl⟩, h⟩ := h; rw [eqVs_eq _ _ h]
  case map.map => obtain ⟨⟨⟨rfl, h1⟩, h2⟩, h3⟩ := h; rw [eqMap (eqVs_eq _ _ h1) (eqVs_eq _ _ h2) h3]
  case loop.loop => obtain ⟨rfl, rfl⟩ := h; rfl
  case defd.defd => rw [h]
theorem rens_eq (f : Nat → Nat) (l : List AV) : rens f l = l.map (ren f) := by
  induction l with
  | nil => simp [rens]
  | cons v l ih => simp [rens, ih]
def Ip.ren (I : Ip) (f : Nat → Nat) : Ip := ⟨fun m => I.sv (f m), fun m => I.arr (f m), fun m => I.fn (f m)⟩
theorem Ip.ren_g (I : Ip) (f : Nat → Nat) (v : AV) : (I.ren f).g v = I.g (Ev.ren f v) := (gam_ren I.sv f v).symm
theorem Ip.ren_map (I : Ip) (f : Nat → Nat) (l : List AV) : (rens f l).map I.g = l.map (I.ren f).g := by
  rw [rens_eq, List.map_map]; exact List.map_congr_left fun v _ => (I.ren_g f v).symm
theorem res_ren {f : Nat → Nat} {lo m : Nat} {o : AObj} (he : envGet env (f m) = envGet env m) (hL : ∀ L, envGet env m = some L → f m = m ∧ f L.d = L.d) : res (I.ren f) env lo m o = res I env lo (f m) (renO f o) := by
  cases o <;> simp only [res, renO, Ip.ren_map] <;> try rfl
  case map es c =>
    simp only [List.map_map]
    have e : (es.map fun e => (⟨(I.ren f).g e.1, (I.ren f).g e.2.1, e.2.2⟩ : MapEntry)) = es.map ((fun e => (⟨I.g e.1, I.g e.2.1, e.2.2⟩ : MapEntry)) ∘ fun e => (Ev.ren f e.1, Ev.ren f e.2.1, e.2.2)) :=
      List.map_congr_left fun e _ => by simp only [Function.comp, Ip.ren_g]
    rw [e]; rfl
  case loop st pd =>
    rw [he]
    cases hh : envGet env m with
    | none => rfl
    | some L =>
      obtain ⟨h1, h2⟩ := hL L hh
      simp only [loopOf, Ip.ren, h1, h2]
theorem nodupN_inj {l : List Nat} (h : nodupN l = true) : ∀ (i j x : Nat), l[i]? = some x → l[j]? = some x → i = j := by
  induction l with
  | nil => intro i j x hi; simp at hi
  | cons y l ih =>
    simp only [nodupN, Bool.and_eq_true, Bool.not_eq_true', List.contains_eq_mem, decide_eq_false_iff_not] at h
    intro i j x hi hj
    cases i with
    | zero =>
      cases j with
      | zero => rfl
      | succ j => simp at hi hj; subst hi; exact absurd (List.mem_of_getElem? hj) h.1
    | succ i =>
      cases j with
      | zero => simp at hi hj; subst hj; exact absurd (List.mem_of_getElem? hi) h.1
      | succ j => simp at hi hj; rw [ih h.2 i j x hi hj]
theorem same_way {I0 : Ip} {s0 s1 s2 : St} {F1 F2 : Fm} {f : Nat → Nat} {wa : World} (hI0 : SR I0 env w0 s0 wa) (hf : ∀ m, m < s0.nx → f m = m) (hs : sameWay n s0.nx f F1 s1 F2 s2 = true)
    (st1 : Step s0 s1) (st2 : Step s0 s2) {I1 : Ip} {a1 : Act} {w1 : World} (h1 : SR I1 env w0 s1 w1) (hF1 : FR I1 s1.nx n F1 a1 dd)
    {I2 : Ip} {a2 : Act} {w2 : World} (ag : Agree s0.nx I0 I2) (h2 : SR I2 env w0 s2 w2) (hF2 : FR I2 s2.nx n F2 a2 dd) :
    Agree s0.nx I0 (I2.ren f) ∧ SR (I2.ren f) env w0 s1 w2 ∧ FR (I2.ren f) s1.nx n F1 a2 dd ∧ s2.nx = s1.nx := by
  simp only [sameWay, Bool.and_eq_true, List.all_eq_true, List.mem_range, Nat.beq_eq, decide_eq_true_eq, Bool.or_eq_true, List.mem_append, List.mem_filter, List.mem_map] at hs
  obtain ⟨⟨⟨⟨⟨⟨⟨hnx, hmk⟩, hrg⟩, hnd⟩, hfr⟩, hw1⟩, hw2⟩, hob⟩ := hs
  have hnx1 := st1.nx
  have agr : Agree s0.nx I0 (I2.ren f) := ⟨fun m hm => by simp only [Ip.ren, hf m hm]; exact ag.sv m hm, fun m hm => by simp only [Ip.ren, hf m hm]; exact ag.arr m hm, fun m hm => by simp only [Ip.ren, hf m hm]; exact ag.fn m hm⟩
  have agr2 : Agree s0.nx I2 (I2.ren f) := ⟨fun m hm => by simp only [Ip.ren, hf m hm], fun m hm => by simp only [Ip.ren, hf m hm], fun m hm => by simp only [Ip.ren, hf m hm]⟩
  have hge : ∀ m, s0.nx ≤ m → m < s1.nx → s0.nx ≤ f m ∧ f m < s1.nx := by
    intro m h3 h4
    have := hrg (m - s0.nx) (by omega)
    rw [show s0.nx + (m - s0.nx) = m by omega] at this
    exact ⟨Nat.le_of_ble_eq_true this.1, Nat.le_of_ble_eq_true this.2⟩
  have hinj : ∀ m m', m < s1.nx → m' < s1.nx → f m = f m' → m = m' := by
    intro m m' h3 h4 h5
    by_cases c1 : m < s0.nx
    · by_cases c2 : m' < s0.nx
      · rw [hf m c1, hf m' c2] at h5; exact h5
      · have := hge m' (by omega) h4; rw [hf m c1] at h5; omega
    · by_cases c2 : m' < s0.nx
      · have := hge m (by omega) h3; rw [hf m' c2] at h5; omega
      · have key := nodupN_inj hnd (m - s0.nx) (m' - s0.nx) (f m)
        have e1 : ((List.range (s1.nx - s0.nx)).map fun m => f (s0.nx + m))[m - s0.nx]? = some (f m) := by
          rw [List.getElem?_map, List.getElem?_range (by omega)]; simp only [Option.map_some]; rw [show s0.nx + (m - s0.nx) = m by omega]
        have e2 : ((List.range (s1.nx - s0.nx)).map fun m => f (s0.nx + m))[m' - s0.nx]? = some (f m) := by
          rw [List.getElem?_map, List.getElem?_range (by omega)]; simp only [Option.map_some]; rw [show s0.nx + (m' - s0.nx) = m' by omega, h5]
        have := key e1 e2
        omega
  -- each thing of the one way is one of the other
  have hobj : ∀ m o, find s1.h m = some o → ∃ o', find s2.h (f m) = some o' ∧ res (I2.ren f) env w0.heap.size m o = res I2 env w0.heap.size (f m) o' := by
    intro m o hm
    have hlt := (h1.ok m o hm).1
    by_cases c : m < s0.nx ∧ m ∉ s1.wr
    · obtain ⟨c1, c2⟩ := c
      have e1 : find s0.h m = some o := by rw [← st1.unch m c1 c2]; exact hm
      have c3 : m ∉ s2.wr := by
        intro hx
        rcases hw2 m hx with h3 | h3
        · exact c2 (memN_iff.1 h3)
        · have := Nat.le_of_ble_eq_true h3; omega
      refine ⟨o, by rw [hf m c1, st2.unch m c1 c3]; exact e1, ?_⟩
      rw [hf m c1]
      exact res_agree agr2 (fun L hL => (hI0.env.name m L hL).2) rfl (hI0.ok m o e1).2 c1
    · have hmem : (m ∈ s1.wr ∧ Nat.blt m s0.nx = true) ∨ ∃ q, q < s1.nx - s0.nx ∧ s0.nx + q = m := by
        by_cases c1 : m < s0.nx
        · exact .inl ⟨Classical.byContradiction fun x => c ⟨c1, x⟩, by rw [Nat.blt_eq]; exact c1⟩
        · exact .inr ⟨m - s0.nx, by omega, by omega⟩
      have := hob m hmem
      rw [hm] at this
      cases hx : find s2.h (f m) with
      | none => simp [hx] at this
      | some o' =>
        simp only [hx] at this
        have e := eqO_eq this
        refine ⟨o', rfl, ?_⟩
        rw [← e]
        refine res_ren ?_ fun L hL => ?_
        · by_cases c1 : m < s0.nx
          · rw [hf m c1]
          · have q1 : envGet env m = none := by
              cases q : envGet env m with
              | none => rfl
              | some L => have := (hI0.env.name m L q).1; omega
            have q2 : envGet env (f m) = none := by
              cases q : envGet env (f m) with
              | none => rfl
              | some L => have := (hI0.env.name _ L q).1; have := (hge m (by omega) hlt).1; omega
            rw [q1, q2]
        · obtain ⟨q1, q2⟩ := hI0.env.name m L hL
          exact ⟨hf m q1, hf _ q2⟩
  refine ⟨agr, ⟨h2.old, h2.io, h1.ok, fun m o hm => ?_, fun m o hm b hb => ?_, ?_, h1.marks, hI0.env.agree agr hnx1⟩, ?_, hnx.symm⟩
  · obtain ⟨o', e1, e2⟩ := hobj m o hm; rw [e2]; exact h2.holds _ _ e1
  · obtain ⟨o', e1, e2⟩ := hobj m o hm; rw [e2] at hb; exact h2.low _ _ e1 b hb
  · intro m m' o o' hm hm' hne b hb hb'
    obtain ⟨p, e1, e2⟩ := hobj m o hm
    obtain ⟨p', e1', e2'⟩ := hobj m' o' hm'
    rw [e2] at hb
    rw [e2'] at hb'
    exact h2.apart _ _ p p' e1 e1' (fun x => hne (hinj m m' (h1.ok m o hm).1 (h1.ok m' o' hm').1 x)) b hb hb'
  · refine ⟨hF2.defers, hF2.size, fun t v hv => ?_⟩
    obtain ⟨q1, q2, _⟩ := hF1.get t v hv
    refine ⟨q1, q2, ?_⟩
    have := hfr t q1
    rw [hv] at this
    cases hx : F2.get t with
    | none => simp [hx] at this
    | some v' =>
      simp only [hx] at this
      have e := eqV_eq _ _ this
      rw [Ip.ren_g, e]
      exact (hF2.get t v' hx).2.2
end
end Go.Ev
end
section
namespace Go.Ev
open Go.Fw
set_option linter.unusedSimpArgs false
set_option linter.unusedVariables false
theorem fold_bits {acc : List Nat} (l : List Nat) (m0 : Nat) (j : Nat) : (l.foldl (fun m p => m ||| 2 ^ p ||| acc.getD p 0) m0).testBit j = true → m0.testBit j = true ∨ ∃ p ∈ l, p = j ∨ (acc.getD p 0).testBit j = true := by
  induction l generalizing m0 with
  | nil => intro h; exact .inl h
  | cons p l ih =>
    intro h
    simp only [List.foldl_cons] at h
    rcases ih _ h with h | ⟨q, hq, h⟩
    · rw [Nat.testBit_or, Nat.testBit_or] at h
      simp only [Bool.or_eq_true] at h
      rcases h with (h | h) | h
      · exact .inl h
      · rw [Nat.testBit_two_pow] at h
        exact .inr ⟨p, List.mem_cons_self, .inl (by simpa using h)⟩
      · exact .inr ⟨p, List.mem_cons_self, .inr h⟩
    · exact .inr ⟨q, List.mem_cons_of_mem _ hq, h⟩
theorem masks_ok (ops : Array Oper) (k : Nat) : let acc := (List.range k).foldl (fun acc i => acc ++ [(aftOf ops i).foldl (fun m p => m ||| 2 ^ p ||| acc.getD p 0) 0]) ([] : List Nat)
    acc.length = k ∧ ∀ e j, e < k → (acc.getD e 0).testBit j = true → ∀ listed : Array Bool, listed.size = ops.size → (∀ i, i < ops.size → listed.getD i true = true → ∀ p ∈ aftOf ops i, listed.getD p true = true) →
      (∀ p ∈ aftOf ops e, listed.getD p true = true) → listed.getD j true = true := by
  induction k with
  | zero => simp
  | succ k ih =>
    simp only [List.range_succ, List.foldl_append, List.foldl_cons, List.foldl_nil] at ih ⊢
    generalize (List.range k).foldl (fun acc i => acc ++ [(aftOf ops i).foldl (fun m p => m ||| 2 ^ p ||| acc.getD p 0) 0]) ([] : List Nat) = acc at ih ⊢
    obtain ⟨h1, h2⟩ := ih
    refine ⟨by simp [h1], fun e j he hb listed hs hcl ha => ?_⟩
    by_cases hek : e < k
    · refine h2 e j hek ?_ listed hs hcl ha
      rw [List.getD_eq_getElem?_getD, List.getElem?_append_left (by omega)] at hb
      rw [List.getD_eq_getElem?_getD]; exact hb
    · have : e = k := by omega
      subst this
      rw [List.getD_eq_getElem?_getD, List.getElem?_append_right (by omega), h1, Nat.sub_self] at hb
      simp only [List.getElem?_cons_zero, Option.getD_some] at hb
      rcases fold_bits _ _ _ hb with hb | ⟨p, hp, hb⟩
      · simp at hb
      · have hl := ha p hp
        rcases hb with rfl | hb
        · exact hl
        · by_cases hpk : p < e
          · by_cases hps : p < ops.size
            · exact h2 p j hpk hb listed hs hcl (hcl p hps hl)
            · refine h2 p j hpk hb listed hs hcl ?_
              intro q hq
              simp [aftOf, Array.getElem?_eq_none (by omega : ops.size ≤ p)] at hq
          · rw [List.getD_eq_getElem?_getD, List.getElem?_eq_none (by omega)] at hb
            simp at hb
theorem syncM_P {ops : Array Oper} {T : List Nat} {e : Nat} (h : syncM ops T e = true) : SyncP ops T e := by
  intro listed hs hcl ha j hj
  have hb := List.all_eq_true.1 h j hj
  by_cases he : e < ops.size
  · exact .inr ((masks_ok ops ops.size).2 e j he hb listed hs hcl ha)
  · have := (masks_ok ops ops.size).1
    unfold masks at hb
    rw [List.getD_eq_getElem?_getD, List.getElem?_eq_none (by omega)] at hb
    simp at hb
theorem mem_addNames {l acc : List Nat} {m : Nat} (h : m ∈ acc) : m ∈ l.foldl (fun acc n => bif memN n acc then acc else n :: acc) acc := by
  induction l generalizing acc with
  | nil => exact h
  | cons x l ih =>
    simp only [List.foldl_cons]
    refine ih ?_
    cases memN x acc <;> simp [h]
theorem mem_addName {F : Fm} {x : Operand} {acc : List Nat} {m : Nat} (h : m ∈ acc) : m ∈ addName F x acc := by
  unfold addName
  split
  · exact mem_addNames h
  · exact h
theorem mem_foldNames {F : Fm} {l : List Operand} {acc : List Nat} {m : Nat} (h : m ∈ acc) : m ∈ l.foldl (fun acc x => addName F x acc) acc := by
  induction l generalizing acc with
  | nil => exact h
  | cons x l ih => exact ih (mem_addName h)
theorem mem_opNames {F : Fm} {o : Op} {acc : List Nat} {m : Nat} (h : m ∈ acc) : m ∈ opNames F o acc := by
  unfold opNames
  split
  · exact mem_addName h
  · split <;> first | exact mem_addName h | exact h
  · exact mem_addName h
  · exact mem_addName h
  · split <;> first | exact mem_addName h | exact h
  · split <;> first | exact mem_addName h | exact h
  · exact mem_foldNames h
  · exact h
theorem pickQ_ok {p : Nat → Bool} {l : List Nat} {i : Nat} (h : pickQ p l = some i) : p i = true := by
  induction l with
  | nil => simp [pickQ] at h
  | cons x l ih =>
    simp only [pickQ] at h
    cases hb : p x with
    | true => simp only [hb, cond_true, Option.some.injEq] at h; subst h; exact hb
    | false => simp only [hb, cond_false] at h; exact ih h
theorem piName_id {nx0 : Nat} {l l' : Log} {m : Nat} (h : m < nx0) : piName nx0 l l' m = m := by
  unfold piName
  have : Nat.blt m nx0 = true := by rw [Nat.blt_eq]; exact h
  rw [this]; rfl
section
variable {r : Option Nat} {env : Env} {n : Nat} {w0 : World} {dd : List Deferred} {P : Program} {ops : Array Oper} {call : CallT} {Q : Exit → Act → World → Prop}
def Lk (I : Ip) (env : Env) (w0 : World) (rd : List Nat) (s : St) (w : World) : Prop := ∀ m ∈ rd, ∀ o, find s.h m = some o → (res I env w0.heap.size m o).holds w
theorem Lk.gk {I : Ip} {rd : List Nat} {s : St} {w wa : World} (h : Lk I env w0 rd s w) (ha : SR I env w0 s wa) : GK I env w0.heap.size s.nx w (lookAt rd s.h) := by
  have key : ∀ m o, lookAt rd s.h m = some o → m ∈ rd ∧ find s.h m = some o := by
    intro m o e
    unfold lookAt at e
    cases hb : memN m rd with
    | true => rw [hb] at e; exact ⟨memN_iff.1 hb, e⟩
    | false => rw [hb] at e; simp at e
  exact ⟨fun m o e => h m (key m o e).1 o (key m o e).2, fun m o e => ⟨(ha.ok m o (key m o e).2).2, (ha.ok m o (key m o e).2).1⟩⟩
theorem drawE_parts {next : DrawT} {R D : List Nat} {F : Fm} {rd : List Nat} {s : St} {lg : Log} {e : Nat} {x : Fm × St × Log} (h : drawE (tabOf P) call n ops next R D F rd s lg e = some x) :
    ∃ o v s1 rd' F1, ops[e]? = some o ∧ noSel o = true ∧ wantA ops F o = some true ∧ aop (tabOf P) call { s with wr := [] } F o.op = some (v, s1) ∧ drawRd ops D e s.nx rd s1.wr = some rd' ∧ setO n F o.dst v = some F1 ∧
      next (dropN e R) (e :: D) F1 rd' { s1 with wr := s1.wr ++ s.wr } ((e, s.nx, s1.nx) :: lg) = some x := by
  simp only [drawE, Option.bind_eq_bind] at h
  rw [Option.bind_eq_some_iff] at h
  obtain ⟨o, ho, h⟩ := h
  split at h
  · rename_i hc
    simp only [Bool.and_eq_true, beq_iff_eq] at hc
    rw [Option.bind_eq_some_iff] at h
    obtain ⟨⟨v, s1⟩, hq, h⟩ := h
    rw [Option.bind_eq_some_iff] at h
    obtain ⟨rd', hrd, h⟩ := h
    rw [force_eq, Option.bind_eq_some_iff] at h
    obtain ⟨F1, hF1, h⟩ := h
    exact ⟨o, v, s1, rd', F1, ho, hc.1, hc.2, hq, hrd, hF1, h⟩
  · cases h
theorem drawQ_parts {next : DrawT} {R D : List Nat} {F : Fm} {rd : List Nat} {s : St} {lg : Log} {i : Nat} {x : Fm × St × Log} (h : drawQ (tabOf P) n ops next R D F rd s lg i = some x) :
    ∃ o, ops[i]? = some o ∧ ((∃ v F1, wantA ops F o = some true ∧ aval (tabOf P) (lookAt (opNames F o.op rd) s.h) F o.op = some v ∧ setO n F o.dst v = some F1 ∧ next (dropN i R) (i :: D) F1 (opNames F o.op rd) s lg = some x) ∨
      (∃ F1, wantA ops F o = some false ∧ setO n F o.dst .und = some F1 ∧ next (dropN i R) (i :: D) F1 rd s lg = some x)) := by
  simp only [drawQ, Option.bind_eq_bind] at h
  rw [Option.bind_eq_some_iff] at h
  obtain ⟨o, ho, h⟩ := h
  refine ⟨o, ho, ?_⟩
  rw [Option.bind_eq_some_iff] at h
  obtain ⟨b, hb, h⟩ := h
  cases b with
  | true =>
    simp only [if_true] at h
    rw [Option.bind_eq_some_iff] at h
    obtain ⟨v, hv, h⟩ := h
    rw [force_eq, Option.bind_eq_some_iff] at h
    obtain ⟨F1, hF1, h⟩ := h
    exact .inl ⟨v, F1, hb, hv, hF1, h⟩
  | false =>
    simp only [Bool.false_eq_true, if_false] at h
    rw [Option.bind_eq_some_iff] at h
    obtain ⟨F1, hF1, h⟩ := h
    exact .inr ⟨F1, hb, hF1, h⟩
theorem Step.app {s s1 : St} (h : Step { s with wr := [] } s1) : Step s { s1 with wr := s1.wr ++ s.wr } :=
  ⟨h.nx, fun m _ hm => List.mem_append.2 (.inr hm), fun m hm hn => h.unch m hm fun x => hn (List.mem_append.2 (.inl x))⟩
def Ends (I : Ip) (env : Env) (w0 : World) (n : Nat) (dd : List Deferred) (s : St) (F' : Fm) (s' : St) : Prop :=
  ∃ I' a' w', Agree s.nx I I' ∧ SR I' env w0 s' w' ∧ FR I' s'.nx n F' a' dd ∧ Step s s' ∧ s'.marks = s.marks
theorem drawE_ex (hC : CallOK P w0 env call) {next : DrawT} (ih : ∀ R D F rd s lg x, next R D F rd s lg = some x → ∀ I a w, SR I env w0 s w → FR I s.nx n F a dd → Ends I env w0 n dd s x.1 x.2.1)
    {R D : List Nat} {F : Fm} {rd : List Nat} {s : St} {lg : Log} {e : Nat} {x : Fm × St × Log} (hh : drawE (tabOf P) call n ops next R D F rd s lg e = some x)
    {I : Ip} {a : Act} {w : World} (h : SR I env w0 s w) (hF : FR I s.nx n F a dd) : Ends I env w0 n dd s x.1 x.2.1 := by
  obtain ⟨o, v, s1, rd', F1, ho, _, _, hq, _, hF1, hn⟩ := drawE_parts hh
  obtain ⟨u, w', I', hA⟩ := Yd.ex (aop_ok (h.wr []) hF hC hq)
  obtain ⟨I2, a2, w2, q1, q2, q3, q4, q5⟩ := ih _ _ _ _ _ _ _ hn I' (a.put o.dst (I'.g v)) w' (hA.sr.wr _) ((hF.agree hA.ag hA.step.nx).setO hF1 hA.okv)
  exact ⟨I2, a2, w2, hA.ag.trans q1 hA.step.nx, q2, q3, hA.step.app.trans q4, q5.trans hA.marks⟩
theorem adraw_ex (hC : CallOK P w0 env call) : ∀ (k : Nat) (R D : List Nat) (F : Fm) (rd : List Nat) (s : St) (lg : Log) (x : Fm × St × Log), adraw (tabOf P) call n ops k R D F rd s lg = some x →
    ∀ I a w, SR I env w0 s w → FR I s.nx n F a dd → Ends I env w0 n dd s x.1 x.2.1 := by
  intro k
  induction k with
  | zero => intro R D F rd s lg x hh; simp [adraw] at hh
  | succ k ih =>
    intro R D F rd s lg x hh I a w h hF
    cases R with
    | nil =>
      simp only [adraw] at hh
      split at hh
      · simp only [Option.some.injEq] at hh; subst hh
        exact ⟨I, a, w, Agree.refl _ _, h, hF, Step.refl _, rfl⟩
      · cases hh
    | cons r0 R0 =>
      simp only [adraw] at hh
      split at hh
      · rename_i i hi
        obtain ⟨o, ho, hx⟩ := drawQ_parts hh
        rcases hx with ⟨v, F1, hw, hv, hF1, hn⟩ | ⟨F1, hw, hF1, hn⟩
        · have hlk : Lk I env w0 (opNames F o.op rd) s w := fun m _ o e => h.holds m o e
          obtain ⟨g1, g2⟩ := aval_ok (hlk.gk h) hF hv
          exact ih _ _ _ _ _ _ _ hn I (a.put o.dst (I.g v)) w h (hF.setO hF1 g2)
        · exact ih _ _ _ _ _ _ _ hn I (a.put o.dst undef) w h (by have := hF.setO hF1 (v := .und) trivial; simpa only [Ip.g, gam] using this)
      · split at hh
        · cases hh
        · rename_i e es he
          rw [Option.bind_eq_bind, Option.bind_eq_some_iff] at hh
          obtain ⟨x', hx, hh⟩ := hh
          split at hh
          · simp only [Option.some.injEq] at hh; subst hh
            exact drawE_ex hC ih hx h hF
          · cases hh
theorem drawE_ok (hC : CallOK P w0 env call) {next : DrawT}
    (ih : ∀ R D F rd s lg x, next R D F rd s lg = some x → ∀ I a, (∃ w, SR I env w0 s w) → FR I s.nx n F a dd → Then I env w0 n dd s x.1 x.2.1 (Q .normal) → DW r P ops Q D (Lk I env w0 rd s) (SR I env w0 s) a)
    {R D : List Nat} {F : Fm} {rd : List Nat} {s : St} {lg : Log} {e : Nat} {x : Fm × St × Log} (hh : drawE (tabOf P) call n ops next R D F rd s lg e = some x)
    {I : Ip} {a : Act} (hF : FR I s.nx n F a dd) (hQ : Then I env w0 n dd s x.1 x.2.1 (Q .normal)) : Ex r P ops Q D (Lk I env w0 rd s) (SR I env w0 s) a e := by
  obtain ⟨o, v, s1, rd', F1, ho, hns, hwt, hq, hrd, hF1, hn⟩ := drawE_parts hh
  refine ⟨o, ho, hF.want hwt, hns, fun w hCs hSR => ?_⟩
  refine (aop_ok (hSR.wr []) hF hC hq).mono fun u w' hA => ?_
  obtain ⟨I', hA⟩ := hA
  have hs1 : SR I' env w0 { s1 with wr := s1.wr ++ s.wr } w' := hA.sr.wr _
  refine ⟨Lk I' env w0 rd' { s1 with wr := s1.wr ++ s.wr }, SR I' env w0 { s1 with wr := s1.wr ++ s.wr }, fun m _ o e => hs1.holds m o e, hs1, ?_, ?_⟩
  · unfold drawRd at hrd
    split at hrd
    · rename_i hsy
      exact .inr (syncM_P hsy)
    · split at hrd
      · rename_i hall
        simp only [Option.some.injEq] at hrd
        subst hrd
        refine .inl fun y hy m hm ob hob => ?_
        obtain ⟨hlt, hok⟩ := hSR.ok m ob hob
        have hnw : m ∉ s1.wr := by
          intro hx
          have := List.all_eq_true.1 hall m hx
          simp only [Bool.or_eq_true, Bool.not_eq_true'] at this
          rcases this with h1 | h1
          · have := Nat.le_of_ble_eq_true h1; omega
          · rw [memN_iff.2 hm] at h1; cases h1
        have e1 : find s1.h m = some ob := by rw [hA.step.unch m hlt hnw]; exact hob
        have := hy m hm ob e1
        rwa [res_agree hA.ag (fun L hL => (hSR.env.name m L hL).2) rfl hok hlt] at this
      · cases hrd
  · rw [hA.val]
    refine ih _ _ _ _ _ _ _ hn I' (a.put o.dst (I'.g v)) ⟨w', hs1⟩ ((hF.agree hA.ag hA.step.nx).setO hF1 hA.okv) ?_
    intro I2 a2 w2 q1 q2 q3 q4 q5
    exact hQ I2 a2 w2 (hA.ag.trans q1 hA.step.nx) q2 q3 (hA.step.app.trans q4) (q5.trans hA.marks)
theorem adraw_ok (hC : CallOK P w0 env call) (hchk : chk ops = true) : ∀ (k : Nat) (R D : List Nat) (F : Fm) (rd : List Nat) (s : St) (lg : Log) (x : Fm × St × Log), adraw (tabOf P) call n ops k R D F rd s lg = some x →
    ∀ I a, (∃ w, SR I env w0 s w) → FR I s.nx n F a dd → Then I env w0 n dd s x.1 x.2.1 (Q .normal) → DW r P ops Q D (Lk I env w0 rd s) (SR I env w0 s) a := by
  intro k
  induction k with
  | zero => intro R D F rd s lg x hh; simp [adraw] at hh
  | succ k ih =>
    intro R D F rd s lg x hh I a hw hF hQ
    cases R with
    | nil =>
      simp only [adraw] at hh
      split at hh
      · rename_i hall
        simp only [Option.some.injEq] at hh; subst hh
        exact dw_end hchk hall fun w h => hQ I a w (Agree.refl _ _) h hF (Step.refl _) rfl
      · cases hh
    | cons r0 R0 =>
      simp only [adraw] at hh
      split at hh
      · rename_i i hi
        have hp := pickQ_ok hi
        simp only [Bool.and_eq_true] at hp
        obtain ⟨o, ho, hx⟩ := drawQ_parts hh
        obtain ⟨wa, ha⟩ := hw
        rcases hx with ⟨v, F1, hwt, hv, hF1, hn⟩ | ⟨F1, hwt, hF1, hn⟩
        · refine dw_more (Cs2 := Lk I env w0 (opNames F o.op rd) s) (fun w _ h m _ o e => h.holds m o e) (fun w h m hm => h m (mem_opNames hm)) ?_
          have hla : Lk I env w0 (opNames F o.op rd) s wa := fun m _ o e => ha.holds m o e
          have g2 := (aval_ok (P := P) (a := a) (o := o) (hla.gk ha) hF hv).2
          refine dw_q hchk ho hp.2 (v := I.g v) (fun w hlk => .inl ⟨hF.want hwt, (aval_ok (hlk.gk ha) hF hv).1⟩) ?_
          exact ih _ _ _ _ _ _ _ hn I _ ⟨wa, ha⟩ (hF.setO hF1 g2) hQ
        · refine dw_q hchk ho hp.2 (v := undef) (fun w hlk => .inr ⟨hF.want hwt, rfl⟩) ?_
          exact ih _ _ _ _ _ _ _ hn I _ ⟨wa, ha⟩ (by have := hF.setO hF1 (v := .und) trivial; simpa only [Ip.g, gam] using this) hQ
      · split at hh
        · cases hh
        · rename_i e es he
          rw [Option.bind_eq_bind, Option.bind_eq_some_iff] at hh
          obtain ⟨x', hx, hh⟩ := hh
          split at hh
          · rename_i hall
            simp only [Option.some.injEq] at hh; subst hh
            simp only [Bool.and_eq_true, List.all_eq_true] at hall
            obtain ⟨hb, hall⟩ := hall
            obtain ⟨wa, ha⟩ := hw
            have ihx := adraw_ex (dd := dd) (n := n) (ops := ops) hC k
            obtain ⟨I1, a1, w1, p1, p2, p3, p4, p5⟩ := drawE_ex hC ihx hx ha hF
            have hexes : ∀ e' ∈ es, Ex r P ops Q D (Lk I env w0 rd s) (SR I env w0 s) a e' := by
              intro e' he'
              have := hall e' he'
              split at this
              · rename_i x2 hx2
                obtain ⟨I2, a2, w2, q1, q2, q3, q4, q5⟩ := drawE_ex hC ihx hx2 ha hF
                refine drawE_ok hC ih hx2 hF ?_
                intro I3 a3 w3 t1 t2 t3 t4 t5
                obtain ⟨u1, u2, u3, u4⟩ := same_way ha (fun m hm => piName_id hm) this p4 q4 p2 p3 t1 t2 t3
                exact hQ _ a3 w3 u1 u2 u3 p4 p5
              · cases this
            have hall' : ∀ (A : List Nat), (∀ e' ∈ A, Ex r P ops Q D (Lk I env w0 rd s) (SR I env w0 s) a e') → exAll r P ops Q D (Lk I env w0 rd s) (SR I env w0 s) a A := by
              intro A
              induction A with
              | nil => intro _; trivial
              | cons y A ihA => intro hA; exact ⟨hA y List.mem_cons_self, ihA fun z hz => hA z (List.mem_cons_of_mem _ hz)⟩
            obtain ⟨o, v, s1, rd', F1, ho, _⟩ := drawE_parts hx
            have hmem : e ∈ (r0 :: R0).filter (isReady ops D) := by rw [he]; exact List.mem_cons_self
            have hrd := (List.mem_filter.1 hmem).2
            simp only [isReady, Bool.and_eq_true, Bool.not_eq_true'] at hrd
            refine dw_e hchk (e :: es) hb ⟨e, List.mem_cons_self, (Array.getElem?_eq_some_iff.1 ho).1, hrd.1⟩ (hall' _ ?_)
            intro y hy
            rcases List.mem_cons.1 hy with rfl | hy
            · exact drawE_ok hC ih hx hF hQ
            · exact hexes y hy
          · cases hh
theorem adrawn_ok (hm : P.follows .mixedOrders = true) (hC : CallOK P w0 env call) {F F' : Fm} {s s' : St} {id : Nat} {I : Ip} {a : Act} {w : World} (hh : adrawn (tabOf P) call n ops F s = some (F', s')) (h : SR I env w0 s w) (hF : FR I s.nx n F a dd)
    (hQ : Then I env w0 n dd s F' s' (Q .normal)) : Wp r P (.region id ops true) Q a w := by
  unfold adrawn at hh
  split at hh
  · rename_i hchk
    rw [Option.bind_eq_bind, Option.bind_eq_some_iff] at hh
    obtain ⟨x, hx, hh⟩ := hh
    simp only [Option.some.injEq, Prod.mk.injEq] at hh
    obtain ⟨rfl, rfl⟩ := hh
    have h' := h.keep Keeps.drew
    have hd := adraw_ok (r := r) hC hchk _ _ _ _ _ _ _ _ hx I a ⟨w, h⟩ hF hQ
    have e : ops = ops.toList.toArray := by simp
    rw [e] at hd ⊢
    exact c_draw hm (fun m hm => by cases hm) h' hd
  · cases hh
end
end Go.Ev
end
section
namespace Go.Ev
open Go.Fw
set_option linter.unusedSimpArgs false
set_option linter.unusedVariables false
def exitOf : AX → Exit
  | .n => .normal
  | .x id => .exit id
  | .r => .ret
def ddOf (I : Ip) (ms : List Nat) : List Deferred := ms.map fun m => { target := .collected (I.sv m).blk, args := #[] }
theorem ddOf_agree {k : Nat} {I I' : Ip} {ms : List Nat} (h : Agree k I I') (hm : ∀ m, m ∈ ms → m < k) : ddOf I' ms = ddOf I ms :=
  List.map_congr_left fun m hx => by rw [h.sv m (hm m hx)]
theorem SR.setMarks {I : Ip} {env : Env} {w0 w : World} {s : St} (h : SR I env w0 s w) (ms l : List Nat) (hm : ∀ m, m ∈ ms → m < s.nx) : SR I env w0 { s with marks := ms, wr := l } w := ⟨h.old, h.io, h.ok, h.holds, h.low, h.apart, hm, h.env⟩
theorem Step.setMarks {s s' : St} (h : Step s s') (ms : List Nat) : Step s { s' with marks := ms } := ⟨h.nx, h.mono, h.unch⟩
theorem Step.ofMarks {s s' : St} {ms : List Nat} (h : Step { s with marks := ms } s') : Step s s' := ⟨h.nx, h.mono, h.unch⟩
section
variable {r : Option Nat} {env : Env} {n : Nat} {w0 : World} {P : Program} {call : Env → CallT}
def ThenC (I : Ip) (env : Env) (w0 : World) (n : Nat) (s : St) (ax : AX) (F' : Fm) (s' : St) (Q : Exit → Act → World → Prop) : Prop :=
  ∀ I' a' w', Agree s.nx I I' → SR I' env w0 s' w' → FR I' s'.nx n F' a' (ddOf I' s'.marks) → Step s s' → Q (exitOf ax) a' w'
def Ip.withL (I : Ip) (k : Nat) (s : SV) (ar : Array Value) (f : Nat) : Ip := ⟨fun n => if n = k then s else I.sv n, fun n => if n = k then ar else I.arr n, fun n => if n = k then f else I.fn n⟩
theorem Agree.withL (I : Ip) (k : Nat) (s : SV) (ar : Array Value) (f : Nat) : Agree k I (I.withL k s ar f) :=
  ⟨fun n hn => by simp [Ip.withL, Nat.ne_of_lt hn], fun n hn => by simp [Ip.withL, Nat.ne_of_lt hn], fun n hn => by simp [Ip.withL, Nat.ne_of_lt hn]⟩
theorem envGet_head (l : Nat) (L : LInfo) (env : Env) : envGet ((l, L) :: env) l = some L := by simp [envGet]
theorem envGet_tail {l m : Nat} (L : LInfo) (env : Env) (h : m ≠ l) : envGet ((l, L) :: env) m = envGet env m := by
  have : Nat.beq l m = false := by
    cases hb : Nat.beq l m with
    | false => rfl
    | true => exact absurd (Nat.eq_of_beq_eq_true hb).symm h
  simp [envGet, this]
theorem range_ok (hC : ∀ env, CallOK P w0 env (call env)) {g : Operand} {ps : Array Tmp} {as bd : Code} {fn : Nat} {F : Fm} {s s1 s2 s3 : St} {I : Ip} {a : Act} {w : World} {gv v : AV} {d l : Nat} {ax : AX} {sq : St} {Q : Exit → Act → World → Prop}
    (hg : aget F g = some gv) (hisf : isFn gv = true) (hd : fresh s (.defd false) = some (d, s1)) (hl : fresh s1 (.loop .ready none) = some (l, s2))
    (hq : call ((l, ⟨fn, n, F, ps.toList, as, bd, d⟩) :: env) gv [.y l] { s2 with marks := d :: s2.marks } = some (v, sq)) (he : endLoopA sq l = some (ax, s3))
    (h : SR I env w0 s w) (hF : FR I s.nx n F a (ddOf I s.marks)) (hQ : ThenC I env w0 n s ax F s3 Q) : Wp none P (.rangeFunc g ps as bd) Q a w := by
  obtain ⟨e1, e2⟩ := fresh_eq hd
  obtain ⟨e3, e4⟩ := fresh_eq hl
  obtain ⟨hev, hok⟩ := hF.eval hg
  cases gv <;> simp only [isFn, Bool.false_eq_true] at hisf
  rename_i f fs cs
  refine wpIn_rangeFunc fun fn' _ => ?_
  have st1 := Step.fresh hd
  have st2 := Step.fresh hl
  have hn1 : s1.nx = s.nx + 1 := by rw [e2]
  have hn2 : s2.nx = s.nx + 2 := by rw [e4]; simp only [hn1]
  have hm2 : s2.marks = s.marks := by rw [e4, e2]
  have hl' : l = s.nx + 1 := by rw [e3, hn1]
  -- the block for the deferred calls
  let I1 := I.with s.nx ⟨some ⟨w.heap.size, 0, none⟩, 0, 0⟩ #[]
  have ag1 : Agree s.nx I I1 := Agree.with _ _ _ _
  have hb1 : (I1.sv d).blk = w.heap.size := by rw [e1]; simp only [I1, with_sv]; rfl
  have sr1 : SR I1 env w0 s1 (w.alloc (.deferred (some []))) := h.add hd _ trivial (by
    show Added (.obj ((Ip.with I s.nx ⟨some ⟨w.heap.size, 0, none⟩, 0, 0⟩ #[]).sv s.nx).blk (.deferred (some []))) w _
    rw [with_sv]; exact Added.alloc w _)
  -- the record
  let w1 := w.alloc (.deferred (some []))
  let ob : Obj := .loop { state := .ready, pending := none, fn := fn', tmps := a.tmps, params := ps, assign := as, body := bd, defers := w.heap.size }
  let I2 := I1.withL l ⟨some ⟨w1.heap.size, 0, none⟩, 0, 0⟩ a.tmps fn'
  have hs1l : s1.nx = l := e3.symm
  have ag2 : Agree s1.nx I1 I2 := by rw [hs1l]; exact Agree.withL _ _ _ _ _
  let L : LInfo := ⟨fn, n, F, ps.toList, as, bd, d⟩
  have hb2 : (I2.sv l).blk = w1.heap.size := by simp only [I2, Ip.withL, if_true]; rfl
  have hb2d : (I2.sv d).blk = w.heap.size := by rw [← ag2.sv d (by omega)]; exact hb1
  have hres2 : res I2 ((l, L) :: env) w0.heap.size l (.loop .ready none) = .obj w1.heap.size ob := by
    simp only [res, envGet_head, loopOf, hb2, hb2d, pdCode, L, ob]
    simp only [I2, Ip.withL, if_true, Array.toArray_toList]
  have agI2 : Agree s.nx I I2 := ag1.trans ag2 (by omega)
  have envok2 : EnvOK I2 ((l, L) :: env) s2.nx := by
    have h0 := h.env.agree agI2 (show s.nx ≤ s2.nx by omega)
    refine ⟨fun m L' hm => ?_, fun m L' hm => ?_⟩
    · by_cases hml : m = l
      · subst hml
        rw [envGet_head] at hm; cases hm
        exact ⟨by omega, by show d < s2.nx; omega⟩
      · rw [envGet_tail L env hml] at hm; exact h0.name m L' hm
    · by_cases hml : m = l
      · subst hml
        rw [envGet_head] at hm; cases hm
        have hFa := hF.agree agI2 (show s.nx ≤ s2.nx by omega)
        refine ⟨rfl, ?_, fun t u hu => ?_⟩
        · simp only [I2, Ip.withL, if_true]; exact hFa.size
        · obtain ⟨q1, q2, q3⟩ := hFa.get t u hu
          refine ⟨q1, q2, ?_⟩
          simp only [I2, Ip.withL, if_true]
          exact q3
      · rw [envGet_tail L env hml] at hm; exact h0.fr m L' hm
  have sr2 : SR I2 ((l, L) :: env) w0 s2 (w1.alloc ob) := by
    have hA := Added.alloc w1 ob
    refine sr1.turn (t := fun _ => False) (b := l) ag2 (by omega) (fun m hm hml => envGet_tail L env hml) hA.keeps.io hA.keeps.size (fun j hj _ => hA.keeps.block j hj (by simp)) (fun _ hj => hj.elim) (fun m o' hn e => ?_) (fun o' e => ?_) (fun m hm => ?_) envok2
    · rw [e4] at e
      rcases find_upd e with ⟨h1, _⟩ | ⟨_, h2⟩
      · rw [hs1l] at h1; exact absurd h1 hn
      · exact .inr ⟨h2, fun _ _ hj => hj⟩
    · rw [e4] at e
      rcases find_upd e with ⟨_, rfl⟩ | ⟨h1, _⟩
      · rw [hres2]; exact ⟨by omega, trivial, hA.holds, fun j hj => .inr (hA.fp j hj)⟩
      · rw [hs1l] at h1; exact absurd rfl h1
    · rw [hm2] at hm; have := h.marks m hm; omega
  have sr2' : SR I2 ((l, L) :: env) w0 { s2 with marks := d :: s2.marks } (w1.alloc ob) := ⟨sr2.old, sr2.io, sr2.ok, sr2.holds, sr2.low, sr2.apart, fun m hm => by
    rcases List.mem_cons.1 hm with rfl | hm
    · show m < s2.nx; omega
    · exact sr2.marks m hm, sr2.env⟩
  have hyv : I2.g (.y l) = .func (.yield w1.heap.size) #[] #[] := by simp only [Ip.g, gam, hb2]
  have hfs : (fs.map I2.g) = gams I.sv fs := by
    rw [gams_eq]; exact agI2.map (okVs_iff.1 hok.1)
  have hcs : (cs.map I2.g) = gams I.sv cs := by
    rw [gams_eq]; exact agI2.map (okVs_iff.1 hok.2)
  have hokg : okV s2.nx (.f f fs cs) := okV_mono (by omega) _ hok
  obtain ⟨c1, c2⟩ := hC ((l, L) :: env) I2 { s2 with marks := d :: s2.marks } sq (w1.alloc ob) (.f f fs cs) [.y l] v hq sr2' hokg (by
    intro u hu
    simp only [List.mem_singleton] at hu
    subst hu
    show l < s2.nx; omega)
  have hev' : a.eval g = .func (.func f) (gams I.sv fs).toArray (gams I.sv cs).toArray := by rw [hev]; simp only [Ip.g, gam]
  have hsz1 : w1.heap.size = w.heap.size + 1 := by simp [w1]
  refine ⟨w1.heap.size, [{ target := .collected w.heap.size, args := #[] }], w1.alloc ob, { target := .fn (.func f) (gams I.sv cs).toArray, args := (gams I.sv fs).toArray ++ #[.func (.yield w1.heap.size) #[] #[]] }, w1.alloc ob, f,
    ((fs ++ [AV.y l] ++ cs).map I2.g).toArray, w1.alloc ob, ?_, ?_, fun _ _ => trivial, ?_, fun hx => no_depth hx, ?_⟩
  · rw [show (Wd none).round = none from rfl, run_enterLoop_outer fn' a.tmps ps as bd, hsz1]
  · simp only [resolve, hev', Deferred.ofValue, Sem.run_pure]
    simp [Act.eval]
  · simp only [invoke, c1]
    rw [List.map_append, List.map_append, hfs, hcs, List.map_cons, List.map_nil, hyv]
    simp
  · refine callsIn_wd.2 (Calls.mono c2 fun e w3 hr => ?_)
    cases e <;> simp only [Ret] at hr
    obtain ⟨I3, hA⟩ := hr
    have hm3 := hA.marks
    -- the loop's end
    simp only [endLoopA] at he
    split at he
    · rename_i st pd hfl
      have hst3 : Step s sq := (st1.trans st2).trans hA.step.ofMarks
      have hlt : l < s2.nx := by omega
      have hobj := hA.sr.holds l _ hfl
      have hblk : (I3.sv l).blk = w1.heap.size := by rw [← hA.ag.sv l hlt]; exact hb2
      have hobj' : w3.heap[w1.heap.size]? = some (loopOf I3 l L st pd) := by
        have : (res I3 ((l, L) :: env) w0.heap.size l (.loop st pd)).holds w3 := hobj
        simp only [res, envGet_head, hblk] at this
        exact this
      have hnb : st ≠ .busy := by intro e; subst e; simp at he
      have hres : ax = axOf pd ∧ s3 = wrote sq l .dead := by
        cases st <;> simp only [Option.some.injEq, Prod.mk.injEq] at he
        all_goals first | exact ⟨he.1.symm, he.2.symm⟩ | exact (hnb rfl).elim | (cases he; done)
      obtain ⟨hax, hs3⟩ := hres
      have hend := run_endLoop (P := P) hobj' hnb
      refine ⟨pdCode pd, _, hend, ?_⟩
      have hput := Upd.putObj (o' := .loop { state := .exhausted, pending := pdCode pd, fn := I3.fn l, tmps := I3.arr l, params := L.ps.toArray, assign := L.asg, body := L.body, defers := (I3.sv L.d).blk }) hobj'
      have sr4 : SR I3 env w0 s3 (w3.putObj w1.heap.size (.loop { state := .exhausted, pending := pdCode pd, fn := I3.fn l, tmps := I3.arr l, params := L.ps.toArray, assign := L.asg, body := L.body, defers := (I3.sv L.d).blk })) := by
        have hlk := hA.sr.low l _ hfl
        have hap := hA.sr.apart l
        have hrr : res I3 ((l, L) :: env) w0.heap.size l (.loop st pd) = .obj w1.heap.size (loopOf I3 l L st pd) := by simp only [res, envGet_head, hblk]
        refine hA.sr.turn (t := fun j => j = w1.heap.size) (b := l) (Agree.refl _ _) (by rw [hs3]; exact Nat.le_refl _) (fun m hm hml => (envGet_tail L env hml).symm) hput.io hput.size (fun j hj hne => hput.block j hj hne) (fun j hj => ?_) (fun m o' hn e => ?_) (fun o' e => ?_) (fun m hm => ?_) ?_
        · exact hlk j (by rw [hrr]; exact hj)
        · rw [hs3] at e
          rcases find_upd e with ⟨h1, _⟩ | ⟨_, h2⟩
          · exact absurd h1 hn
          · exact .inr ⟨h2, fun j hj hj' => hap m _ _ hfl h2 (fun x => hn x.symm) j (by rw [hrr]; exact hj') hj⟩
        · rw [hs3] at e
          rcases find_upd e with ⟨_, rfl⟩ | ⟨h1, _⟩
          · refine ⟨?_, trivial, ⟨fun _ hk => hk.elim, fun _ _ _ _ => trivial⟩, fun j hj => hj.elim⟩
            rw [hs3]; exact (hA.sr.ok l _ hfl).1
          · exact absurd rfl h1
        · rw [hs3] at hm ⊢; exact hA.sr.marks m hm
        · refine h.env.agree (agI2.trans hA.ag (by show s.nx ≤ s2.nx; omega)) ?_
          rw [hs3]; exact hst3.nx
      have hag : Agree s.nx I I3 := agI2.trans hA.ag (by show s.nx ≤ s2.nx; omega)
      have hmk : s3.marks = d :: s.marks := by rw [hs3, wrote_marks, hm3]; simp only [hm2]
      have hF4 : FR I3 s3.nx n F { a with defers := [{ target := .collected w.heap.size, args := #[] }] ++ a.defers } (ddOf I3 s3.marks) := by
        have hFa := hF.agree hag (show s.nx ≤ s3.nx by rw [hs3]; exact hst3.nx)
        refine ⟨?_, hFa.size, hFa.get⟩
        rw [hmk]
        simp only [ddOf, List.map_cons, List.cons_append, List.nil_append]
        rw [← hA.ag.sv d (by show d < s2.nx; omega), hb2d, hF.defers]
        congr 1
        exact (ddOf_agree hag h.marks).symm
      have hfin := hQ I3 _ _ hag sr4 hF4 (by rw [hs3]; exact hst3.trans (Step.wrote _ _ _))
      subst hax
      cases pd with
      | none => exact hfin
      | some q =>
        cases q with
        | none => exact c_ret hfin
        | some id => exact c_exit hfin
    · cases he
end
end Go.Ev
end
section
namespace Go.Ev
open Go.Fw
set_option linter.unusedSimpArgs false
set_option linter.unusedVariables false
section
variable {r : Option Nat} {env : Env} {n : Nat} {w0 : World} {P : Program} {call : Env → CallT} {fn : Nat} {ir : Bool} {fuel : Nat}
theorem FR.eqd {I : Ip} {k n : Nat} {F : Fm} {a : Act} {dd dd' : List Deferred} (h : FR I k n F a dd) (e : dd = dd') : FR I k n F a dd' := e ▸ h
theorem then_of {I : Ip} {s s' : St} {F' : Fm} {Q : Exit → Act → World → Prop} {w : World} (h : SR I env w0 s w) (hQ : ThenC I env w0 n s .n F' s' Q) : Then I env w0 n (ddOf I s.marks) s F' s' (Q .normal) := by
  intro I' a' w' ag sr fr st hm
  refine hQ I' a' w' ag sr (fr.eqd ?_) st
  rw [hm]; exact (ddOf_agree ag h.marks).symm
theorem acode_ok (hm : P.follows .mixedOrders = true) (hC : ∀ env, CallOK P w0 env (call env)) (hr : ir = false → r = none) : ∀ (c : Code) {F F' : Fm} {s s' : St} {ax : AX} {I : Ip} {a : Act} {w : World} {Q : Exit → Act → World → Prop},
    acode (tabOf P) call env fn n ir fuel c F s = some (ax, F', s') → SR I env w0 s w → FR I s.nx n F a (ddOf I s.marks) → ThenC I env w0 n s ax F' s' Q → Wp r P c Q a w := by
  intro c
  induction c with
  | skip =>
    intro F F' s s' ax I a w Q hh h hF hQ
    simp only [acode, Option.some.injEq, Prod.mk.injEq] at hh
    obtain ⟨rfl, rfl, rfl⟩ := hh
    exact c_skip (hQ I a w (Agree.refl _ _) h hF (Step.refl _))
  | region id ops draw =>
    intro F F' s s' ax I a w Q hh h hF hQ
    simp only [acode] at hh
    cases draw with
    | true =>
      simp only [if_true, Option.map_eq_some_iff] at hh
      obtain ⟨⟨F1, s1⟩, hq, hh⟩ := hh
      simp only [Prod.mk.injEq] at hh
      obtain ⟨rfl, rfl, rfl⟩ := hh
      exact adrawn_ok hm (hC env) hq h hF (then_of h hQ)
    | false =>
      simp only [Bool.false_eq_true, if_false, Option.map_eq_some_iff] at hh
      obtain ⟨⟨F1, s1⟩, hq, hh⟩ := hh
      simp only [Prod.mk.injEq] at hh
      obtain ⟨rfl, rfl, rfl⟩ := hh
      exact wpIn_region_list (aops_ok (hC env) _ hq h hF (then_of h hQ))
  | seq x y ihx ihy =>
    intro F F' s s' ax I a w Q hh h hF hQ
    simp only [acode, Option.bind_eq_bind] at hh
    rw [Option.bind_eq_some_iff] at hh
    obtain ⟨⟨ax1, F1, s1⟩, hq, hh⟩ := hh
    refine c_seq (ihx hq h hF ?_)
    intro I1 a1 w1 ag sr fr st
    cases ax1 with
    | n =>
      simp only at hh
      exact ihy hh sr fr fun I2 a2 w2 ag2 sr2 fr2 st2 => hQ I2 a2 w2 (ag.trans ag2 st.nx) sr2 fr2 (st.trans st2)
    | x id =>
      simp only [Option.some.injEq, Prod.mk.injEq] at hh
      obtain ⟨rfl, rfl, rfl⟩ := hh
      exact hQ I1 a1 w1 ag sr fr st
    | r =>
      simp only [Option.some.injEq, Prod.mk.injEq] at hh
      obtain ⟨rfl, rfl, rfl⟩ := hh
      exact hQ I1 a1 w1 ag sr fr st
  | cond c x y ihx ihy =>
    intro F F' s s' ax I a w Q hh h hF hQ
    simp only [acode, Option.bind_eq_bind] at hh
    rw [Option.bind_eq_some_iff] at hh
    obtain ⟨v, hv, hh⟩ := hh
    obtain ⟨h1, h2⟩ := hF.eval hv
    split at hh
    · exact wpIn_cond_true (by rw [h1]; simp [gam]) (ihx hh h hF hQ)
    · exact wpIn_cond_false (by rw [h1]; simp [gam]) (ihy hh h hF hQ)
    · cases hh
  | block id c ih =>
    intro F F' s s' ax I a w Q hh h hF hQ
    simp only [acode, Option.bind_eq_bind] at hh
    rw [Option.bind_eq_some_iff] at hh
    obtain ⟨⟨ax1, F1, s1⟩, hq, hh⟩ := hh
    simp only [Option.some.injEq, Prod.mk.injEq] at hh
    obtain ⟨rfl, rfl, rfl⟩ := hh
    refine c_block (ih hq h hF ?_)
    intro I1 a1 w1 ag sr fr st
    have := hQ I1 a1 w1 ag sr fr st
    cases ax1 with
    | n => exact n_block (by simpa [exitOf] using this)
    | r => exact r_block (by simpa [exitOf] using this)
    | x j =>
      by_cases hj : j = id
      · subst hj; exact x_hit (by simpa [exitOf] using this)
      · refine x_miss (i := id) (j := j) ?_ (by simpa [exitOf, hj] using this)
        cases hb : Nat.beq j id with
        | false => rfl
        | true => exact absurd (Nat.eq_of_beq_eq_true hb) hj
  | loop c ih =>
    intro F F' s s' ax I a w Q hh h hF hQ
    simp only [acode] at hh
    refine c_loop (X := Nat) (fun k a w => ∃ F s I, aloop (acode (tabOf P) call env fn n ir fuel c) k F s = some (ax, F', s') ∧ SR I env w0 s w ∧ FR I s.nx n F a (ddOf I s.marks) ∧ ThenC I env w0 n s ax F' s' Q) id fuel ⟨F, s, I, hh, h, hF, hQ⟩ ?_
    rintro k a w ⟨F, s, I, hh, h, hF, hQ⟩
    cases k with
    | zero => simp [aloop] at hh
    | succ k =>
      simp only [aloop, Option.bind_eq_bind] at hh
      rw [Option.bind_eq_some_iff] at hh
      obtain ⟨⟨ax1, F1, s1⟩, hq, hh⟩ := hh
      refine ih hq h hF ?_
      intro I1 a1 w1 ag sr fr st
      cases ax1 with
      | n =>
        simp only at hh
        exact ⟨k, ⟨F1, s1, I1, hh, sr, fr, fun I2 a2 w2 ag2 sr2 fr2 st2 => hQ I2 a2 w2 (ag.trans ag2 st.nx) sr2 fr2 (st.trans st2)⟩, Nat.lt_succ_self k⟩
      | x id =>
        simp only [Option.some.injEq, Prod.mk.injEq] at hh
        obtain ⟨rfl, rfl, rfl⟩ := hh
        exact hQ I1 a1 w1 ag sr fr st
      | r =>
        simp only [Option.some.injEq, Prod.mk.injEq] at hh
        obtain ⟨rfl, rfl, rfl⟩ := hh
        exact hQ I1 a1 w1 ag sr fr st
  | exit id =>
    intro F F' s s' ax I a w Q hh h hF hQ
    simp only [acode, Option.some.injEq, Prod.mk.injEq] at hh
    obtain ⟨rfl, rfl, rfl⟩ := hh
    exact c_exit (hQ I a w (Agree.refl _ _) h hF (Step.refl _))
  | ret =>
    intro F F' s s' ax I a w Q hh h hF hQ
    simp only [acode, Option.some.injEq, Prod.mk.injEq] at hh
    obtain ⟨rfl, rfl, rfl⟩ := hh
    exact c_ret (hQ I a w (Agree.refl _ _) h hF (Step.refl _))
  | rangeFunc g ps as bd iha ihb =>
    intro F F' s s' ax I a w Q hh h hF hQ
    simp only [acode, Option.bind_eq_bind] at hh
    split at hh
    · cases hh
    · rename_i hir
      have hir' : ir = false := by simpa using hir
      have := hr hir'
      subst this
      rw [Option.bind_eq_some_iff] at hh
      obtain ⟨gv, hg, hh⟩ := hh
      split at hh
      · cases hh
      · rename_i hisf
        rw [Option.bind_eq_some_iff] at hh
        obtain ⟨⟨d, s1⟩, hd, hh⟩ := hh
        rw [Option.bind_eq_some_iff] at hh
        obtain ⟨⟨l, s2⟩, hl, hh⟩ := hh
        rw [Option.bind_eq_some_iff] at hh
        obtain ⟨⟨v, sq⟩, hq, hh⟩ := hh
        rw [Option.bind_eq_some_iff] at hh
        obtain ⟨⟨e, s3⟩, he, hh⟩ := hh
        simp only [Option.some.injEq, Prod.mk.injEq] at hh
        obtain ⟨rfl, rfl, rfl⟩ := hh
        exact range_ok hC hg (by simpa using hisf) hd hl hq he h hF hQ
  | _ => intro F F' s s' ax I a w Q hh; simp [acode] at hh
theorem enterF_get {vs : List AV} : ∀ (n i t : Nat) (v : AV), (enterF n i vs).get t = some v → i ≤ t ∧ t < i + n ∧ v = (vs[t - i]?).getD .und := by
  intro n
  induction n generalizing vs with
  | zero => intro i t v h; simp [enterF, Tr.get_e] at h
  | succ n ih =>
    intro i t v h
    cases vs with
    | nil =>
      simp only [enterF] at h
      rcases Tr.set_some h with ⟨rfl, rfl⟩ | ⟨hne, h⟩
      · exact ⟨Nat.le_refl _, by omega, by simp⟩
      · obtain ⟨h1, h2, h3⟩ := ih (i + 1) t v h
        exact ⟨by omega, by omega, by simpa using h3⟩
    | cons u vs =>
      simp only [enterF] at h
      rcases Tr.set_some h with ⟨rfl, rfl⟩ | ⟨hne, h⟩
      · exact ⟨Nat.le_refl _, by omega, by simp⟩
      · obtain ⟨h1, h2, h3⟩ := ih (i + 1) t v h
        refine ⟨by omega, by omega, ?_⟩
        rw [h3, show t - i = (t - (i + 1)) + 1 by omega]
        simp
theorem enter_FR {I : Ip} {k : Nat} {vs : List AV} (hv : ∀ v ∈ vs, okV k v) (hn : vs.length ≤ n) : FR I k n (enterF n 0 vs) { tmps := (vs.map I.g).toArray ++ Array.replicate (n - (vs.map I.g).toArray.size) undef, defers := [] } [] := by
  refine ⟨rfl, by simp; omega, fun t v h => ?_⟩
  obtain ⟨_, h2, h3⟩ := enterF_get _ _ _ _ h
  simp only [Nat.sub_zero, Nat.zero_add] at h2 h3
  refine ⟨h2, ?_, ?_⟩
  · subst h3
    cases hx : vs[t]? with
    | none => trivial
    | some u => exact hv u (List.mem_of_getElem? hx)
  · subst h3
    by_cases ht : t < vs.length
    · have : vs[t]? = some vs[t] := List.getElem?_eq_getElem ht
      rw [this]
      simp [Array.getElem?_append, ht]
    · rw [List.getElem?_eq_none (by omega)]
      simp only [Option.getD_none, Ip.g, gam]
      have h4 : t - vs.length < n - vs.length := by omega
      simp [Array.getElem?_append, ht, h4]
theorem setPs_ok {I : Ip} {k : Nat} : ∀ (ps : List Nat) (vs : List AV) {F F' : Fm} {tm : Array Value}, setPs n ps vs F = some F' → FR I k n F { tmps := tm, defers := [] } [] → (∀ v ∈ vs, okV k v) →
    ps.length = vs.length ∧ FR I k n F' { tmps := (ps.zip (vs.map I.g)).foldl (fun tmps p => tmps.setIfInBounds p.1 p.2) tm, defers := [] } [] := by
  intro ps
  induction ps with
  | nil =>
    intro vs F F' tm h hF hv
    cases vs with
    | nil => simp only [setPs, Option.some.injEq] at h; subst h; exact ⟨rfl, hF⟩
    | cons v vs => simp [setPs] at h
  | cons p ps ih =>
    intro vs F F' tm h hF hv
    cases vs with
    | nil => simp [setPs] at h
    | cons v vs =>
      simp only [setPs] at h
      split at h
      · rename_i hp
        have hp' : p < n := by rw [Nat.blt_eq] at hp; exact hp
        have hF1 := hF.set hp' (hv v List.mem_cons_self)
        simp only [Act.put] at hF1
        obtain ⟨h1, h2⟩ := ih vs h hF1 (fun u hu => hv u (List.mem_cons_of_mem _ hu))
        exact ⟨by simp [h1], h2⟩
      · cases h
theorem ares_ok {I : Ip} {w : World} {s : St} (h : SR I env w0 s w) : ∀ (rs : List ResultVar) {F : Fm} {a : Act} {dd : List Deferred} {vs : List AV}, ares (tabOf P) s F rs = some vs → FR I s.nx n F a dd → resOf P w a.tmps rs (vs.map I.g) ∧ ∀ v ∈ vs, okV s.nx v := by
  intro rs
  induction rs with
  | nil => intro F a dd vs hh hF; simp only [ares, Option.some.injEq] at hh; subst hh; exact ⟨trivial, by simp⟩
  | cons x rs ih =>
    intro F a dd vs hh hF
    cases x with
    | tmp t =>
      simp only [ares, Option.bind_eq_bind] at hh
      rw [Option.bind_eq_some_iff] at hh
      obtain ⟨v, hv, hh⟩ := hh
      rw [Option.bind_eq_some_iff] at hh
      obtain ⟨us, hus, hh⟩ := hh
      simp only [Option.some.injEq] at hh; subst hh
      obtain ⟨h1, h2⟩ := ih hus hF
      obtain ⟨_, q2, q3⟩ := hF.get t v hv
      refine ⟨⟨q3, h1⟩, fun u hu => ?_⟩
      rcases List.mem_cons.1 hu with rfl | hu
      · exact q2
      · exact h2 u hu
    | cell t ty =>
      simp only [ares, Option.bind_eq_bind] at hh
      rw [Option.bind_eq_some_iff] at hh
      obtain ⟨v, hv, hh⟩ := hh
      cases v <;> simp only at hh <;> try (cases hh; done)
      rename_i m off
      split at hh
      · rename_i N l T hm
        rw [Option.bind_eq_some_iff] at hh
        obtain ⟨u, hu, hh⟩ := hh
        rw [Option.bind_eq_some_iff] at hh
        obtain ⟨us, hus, hh⟩ := hh
        simp only [Option.some.injEq] at hh; subst hh
        obtain ⟨h1, h2⟩ := ih hus hF
        obtain ⟨_, q2, q3⟩ := hF.get t _ hv
        obtain ⟨hk, hok⟩ := h.ok m _ hm
        have hl := part_load (P := P) hu hok.1 (h.gk.cellsP hm)
        rw [Nat.zero_add] at hl
        refine ⟨⟨⟨⟨(I.sv m).blk, off, none⟩, by rw [q3]; simp only [Ip.g, gam], hl⟩, h1⟩, fun x hx => ?_⟩
        rcases List.mem_cons.1 hx with rfl | hx
        · exact (part_ok hu hok.1 hok.2.1 hok.2.2).1
        · exact h2 x hx
      · cases hh
def loopRec (I : Ip) (n : Nat) (L : LInfo) (st : LoopState) (pd : Option (Option Nat)) : Loop := { state := st, pending := pdCode pd, fn := I.fn n, tmps := I.arr n, params := L.ps.toArray, assign := L.asg, body := L.body, defers := (I.sv L.d).blk }
theorem leaves_ok {fnc : Func} {tmps : Array Value} {R : Value → World → Prop} {I : Ip} : ∀ (ms : List Nat) {s s' : St} {w : World}, takeMarks ms s = some s' → SR I env w0 s w →
    (∀ w', SR I env w0 s' w' → Step s s' → s'.nx = s.nx → s'.marks = s.marks → ∃ v, (results fnc tmps).run P w' = .ok v w' ∧ R v w') → LeavesInM (Wd none) 0 P fnc tmps (Ret R) (ddOf I ms) .returning w := by
  intro ms
  induction ms with
  | nil =>
    intro s s' w hh h hR
    simp only [takeMarks, Option.some.injEq] at hh
    subst hh
    exact hR w h (Step.refl _) rfl rfl
  | cons d ms ih =>
    intro s s' w hh h hR
    simp only [takeMarks] at hh
    split at hh
    · rename_i hd
      have hobj : w.heap[(I.sv d).blk]? = some (.deferred (some [])) := h.holds d _ hd
      refine ⟨by simp, .inl ⟨(I.sv d).blk, _, rfl, run_takeDeferred hobj, ?_⟩⟩
      have hU := Upd.putObj (o' := .deferred none) hobj
      have sr := h.chg hd (o' := .defd true) trivial hU
      refine ih hh sr fun w' sr' st hnx hmk => hR w' sr' ((Step.wrote _ _ _).trans st) hnx hmk
    · cases hh
theorem acall_ok (hm : P.follows .mixedOrders = true) : ∀ (k : Nat) (env : Env), CallOK P w0 env (acall (tabOf P) fuel k env) := by
  intro k
  induction k with
  | zero => intro env I s s' w g vs v hh; simp [acall] at hh
  | succ k ih =>
    intro env I s s' w g vs v hh h hg hvs
    cases g <;> try (simp [acall] at hh; done)
    case f f fs cs =>
      simp only [acall, Option.bind_eq_bind] at hh
      rw [Option.bind_eq_some_iff] at hh
      obtain ⟨⟨n, rs, body⟩, hfn, hh⟩ := hh
      simp only at hh
      split at hh
      · cases hh
      · rename_i hlen
        rw [Option.bind_eq_some_iff] at hh
        obtain ⟨⟨ax, F1, s1⟩, hq, hh⟩ := hh
        simp only [tabOf] at hfn
        rw [Option.bind_eq_some_iff] at hfn
        obtain ⟨fnc, hf, hfn⟩ := hfn
        split at hfn
        · cases hfn
        · rename_i hname
          obtain ⟨b, hb, hfn⟩ := Option.map_eq_some_iff.1 hfn
          simp only [Prod.mk.injEq] at hfn
          obtain ⟨rfl, rfl, rfl⟩ := hfn
          have hcall : ∀ args w, (callFunc f args).run P w = .ok (.enter f args) w := by
            intro args w
            have hn' : ¬ fnc.name = "runtime.NumGoroutine" := by simpa using hname
            simp [callFunc, program, Sem.run, hf, hn', hb]
          refine ⟨hcall, ?_⟩
          have hlen' : (fs ++ vs ++ cs).length ≤ fnc.ntmps := by simpa using hlen
          have hokall : ∀ u ∈ fs ++ vs ++ cs, okV s.nx u := by
            intro u hu
            rcases List.mem_append.1 hu with hu | hu
            · rcases List.mem_append.1 hu with hu | hu
              · exact okVs_iff.1 hg.1 u hu
              · exact hvs u hu
            · exact okVs_iff.1 hg.2 u hu
          refine callsIn_wide.1 (callsIn_of_wp_marks (F := Wd none) (n := 0) hf hb trivial ?_ rfl)
          have h' := h.setMarks [] s.wr (by simp)
          refine acode_ok hm ih (fun _ => rfl) b hq h' (enter_FR hokall hlen') ?_
          intro I1 a1 w1 ag sr fr st
          have fin : ax = .n ∨ ax = .r → bodyPostM (Wd none) 0 P fnc (Ret (Left I env w0 s s' v)) .ret a1 w1 := by
            intro hax
            have hh' : (takeMarks s1.marks s1).bind (fun s' => (ares (tabOf P) s' F1 fnc.results.toList).bind fun r => some (resV r, ({ s' with marks := s.marks, wr := s'.wr.filter (Nat.blt · s.nx) } : St))) = some (v, s') := by
              rcases hax with rfl | rfl <;> exact hh
            obtain ⟨s2, ht, hh2⟩ := Option.bind_eq_some_iff.1 hh'
            obtain ⟨rv, hrv, hh3⟩ := Option.bind_eq_some_iff.1 hh2
            simp only [Option.some.injEq, Prod.mk.injEq] at hh3
            obtain ⟨rfl, rfl⟩ := hh3
            show LeavesInM (Wd none) 0 P fnc a1.tmps (Ret _) a1.defers .returning w1
            rw [fr.defers]
            refine leaves_ok s1.marks ht sr fun w2 sr2 st2 hnx hmk => ?_
            have st' : Step s s2 := st.ofMarks.trans st2
            obtain ⟨q1, q2⟩ := ares_ok (P := P) sr2 fnc.results.toList hrv (fr.agree (Agree.refl _ _) (by rw [hnx]; exact Nat.le_refl _))
            refine ⟨_, run_results (by simp) q1, I1, ag, sr2.setMarks _ _ (fun m hm => ?_), ?_, ?_, ⟨st'.nx, fun m hm hx => ?_, fun m hm hx => ?_⟩, rfl⟩
            · have := h.marks m hm; have := st'.nx; omega
            · match rv with
              | [] => simp [resV, gam, gams]
              | [v] => simp [resV]
              | x :: y :: l => simp [resV, gam, gams, gams_eq]
            · match rv, q2 with
              | [], _ => trivial
              | [v], q2 => exact q2 v (by simp)
              | x :: y :: l, q2 => exact okVs_iff.2 q2
            · exact List.mem_filter.2 ⟨st'.mono m hm hx, by rw [Nat.blt_eq]; exact hm⟩
            · exact st'.unch m hm fun hy => hx (List.mem_filter.2 ⟨hy, by rw [Nat.blt_eq]; exact hm⟩)
          cases ax with
          | n => exact fin (.inl rfl)
          | r => exact fin (.inr rfl)
          | x id => simp at hh
    case y l =>
      simp only [acall, Option.bind_eq_bind] at hh
      rw [Option.bind_eq_some_iff] at hh
      obtain ⟨L, hL, hh⟩ := hh
      split at hh
      · rename_i pd0 hfl
        rw [Option.bind_eq_some_iff] at hh
        obtain ⟨F0, hF0, hh⟩ := hh
        rw [Option.bind_eq_some_iff] at hh
        obtain ⟨⟨ax, F1, s1⟩, hq, hh⟩ := hh
        have hresL : ∀ (I : Ip) st pd, res I env w0.heap.size l (.loop st pd) = .obj (I.sv l).blk (loopOf I l L st pd) := fun I st pd => by simp only [res, hL]
        have hobj : w.heap[(I.sv l).blk]? = some (loopOf I l L .ready pd0) := by have := h.holds l _ hfl; rw [hresL] at this; exact this
        obtain ⟨hlk, hdk⟩ := h.env.name l L hL
        obtain ⟨hps, hFR0⟩ := setPs_ok L.ps vs hF0 (h.env.fr l L hL) hvs
        have hy := run_yield (P := P) (args := (vs.map I.g).toArray) hobj (by simp [hps])
        refine ⟨_, _, _, _, hy, ?_⟩
        refine roundIn_of_wpIn (F := Wd none) trivial ?_
        have h' := h.setMarks [] s.wr (by simp)
        refine acode_ok (r := some (I.sv l).blk) hm ih (fun h => by cases h) L.asg hq h' (by have := hFR0; simpa [ddOf] using this) ?_
        intro I1 a1 w1 ag sr fr st
        simp only at hh
        split at hh
        · rename_i pd hfl1
          rw [Option.bind_eq_some_iff] at hh
          obtain ⟨⟨ax2, F2, s2⟩, hq2, hh⟩ := hh
          simp only at hh
          have hblk1 : (I1.sv l).blk = (I.sv l).blk := by rw [ag.sv l hlk]
          have hobj1 : w1.heap[(I.sv l).blk]? = some (loopOf I1 l L .ready pd) := by have := sr.holds l _ hfl1; rw [hresL, hblk1] at this; exact this
          have hU1 : Upd (res I1 env w0.heap.size l (.loop .ready pd)) (res I1 env w0.heap.size l (.loop .busy pd)) w1 (w1.putObj (I.sv l).blk (loopOf I1 l L .busy pd)) := by
            rw [hresL, hresL, hblk1]; exact Upd.putObj hobj1
          have sr1 := sr.chg hfl1 (o' := .loop .busy pd) trivial hU1
          refine ⟨_, run_beginRound hobj1 rfl, ?_⟩
          refine acode_ok (r := some (I.sv l).blk) hm ih (fun h => by cases h) L.body hq2 sr1 fr ?_
          intro I2 a2 w2 ag2 sr2 fr2 st2
          split at hh
          · rename_i st3 pd3 hfl2
            simp only [Option.some.injEq, Prod.mk.injEq] at hh
            obtain ⟨rfl, rfl⟩ := hh
            have hs01 : s.nx ≤ s1.nx := st.nx
            have hlk2 : l < s1.nx := by omega
            have hblk2 : (I2.sv l).blk = (I.sv l).blk := by rw [← ag2.sv l hlk2, hblk1]
            have hobj2 : w2.heap[(I.sv l).blk]? = some (loopOf I2 l L st3 pd3) := by have := sr2.holds l _ hfl2; rw [hresL, hblk2] at this; exact this
            have hiso : ∀ x : Option (Option Nat), (pdCode x).isNone = x.isNone := by
              intro x
              cases x with
              | none => rfl
              | some y => cases y <;> rfl
            have hU2 : ∀ st4, Upd (res I2 env w0.heap.size l (.loop st3 pd3)) (res I2 env w0.heap.size l (.loop st4 (pdOf ax2))) w2 (w2.putObj (I.sv l).blk (loopOf I2 l L st4 (pdOf ax2))) := by
              intro st4
              rw [hresL, hresL, hblk2]; exact Upd.putObj hobj2
            have sr3 := sr2.chg hfl2 (o' := .loop (if (pdOf ax2).isNone then .ready else .done) (pdOf ax2)) trivial (hU2 _)
            have hend := run_endRound (P := P) (pdCode (pdOf ax2)) hobj2
            have hst : Step s (wrote s2 l (.loop (if (pdOf ax2).isNone then .ready else .done) (pdOf ax2))) := ((st.ofMarks.trans (Step.wrote _ _ _)).trans st2).trans (Step.wrote _ _ _)
            have hfin : Left I env w0 s { wrote s2 l (.loop (if (pdOf ax2).isNone then .ready else .done) (pdOf ax2)) with marks := s.marks } (.b (pdOf ax2).isNone) (.bool (pdCode (pdOf ax2)).isNone)
                (w2.putObj (I.sv l).blk (.loop { loopRec I2 l L st3 pd3 with state := if (pdCode (pdOf ax2)).isNone then .ready else .done, pending := pdCode (pdOf ax2) })) := by
              refine ⟨I2, ag.trans ag2 st.nx, ?_, by simp only [Ip.g, gam, hiso], trivial, hst.setMarks _, rfl⟩
              have := sr3.setMarks s.marks (wrote s2 l (.loop (if (pdOf ax2).isNone then .ready else .done) (pdOf ax2))).wr (fun m hm => by have := h.marks m hm; have := hst.nx; omega)
              rw [hiso]
              exact this
            cases ax2 <;> exact ⟨_, _, hend, hfin⟩
          · cases hh
        · cases hh
      · cases hh
end
end Go.Ev
end
section
namespace Go.Ev
set_option linter.unusedVariables false
set_option linter.unusedSimpArgs false
open Go.Fw
theorem SR.start (w0 : World) : SR ⟨fun _ => SV.nil, fun _ => #[], fun _ => 0⟩ [] w0 { h := .e, nx := 0 } w0 := by
  have no : ∀ n o, find (.e : Heap) n = some o → False := fun n o e => by simp [find, Tr.get_e] at e
  exact ⟨⟨Nat.le_refl _, fun _ _ _ _ => rfl⟩, Io.refl w0, fun n o e => (no n o e).elim, fun n o e => (no n o e).elim, fun n o e => (no n o e).elim, fun n m o o' e => (no n o e).elim, fun n h => absurd h (by simp), ⟨fun l L e => absurd e (by simp [envGet]), fun l L e => absurd e (by simp [envGet])⟩⟩
def okT : Option (AV × St) → Bool
  | some (.b true, _) => true
  | _ => false
theorem closed_true {P : Program} {f fuel k : Nat} (hm : P.follows .mixedOrders = true) (h : okT (acall (tabOf P) fuel k [] (.f f [] []) [] { h := .e, nx := 0 }) = true) (w0 : World) : Calls P f #[] w0 (Ret fun v w' => v = .bool true ∧ Keeps [] w0 w') := by
  cases hq : acall (tabOf P) fuel k [] (.f f [] []) [] { h := .e, nx := 0 } with
  | none => rw [hq] at h; cases h
  | some p =>
    obtain ⟨v, s'⟩ := p
    rw [hq] at h
    have hv : v = .b true := by
      cases v <;> simp only [okT, Bool.false_eq_true] at h
      rename_i b
      cases b
      · simp at h
      · rfl
    subst hv
    have := (acall_ok (w0 := w0) (fuel := fuel) hm k [] _ _ _ w0 _ _ _ hq (SR.start w0) ⟨trivial, trivial⟩ (by simp)).2
    simp only [List.append_nil, List.map_nil] at this
    refine Calls.mono this fun e w' he => ?_
    cases e <;> simp only [Ret] at he ⊢
    obtain ⟨I', hA⟩ := he
    exact ⟨by rw [hA.val]; simp [gam], ⟨hA.sr.io, hA.sr.old.size, fun j hj _ => hA.sr.old.block j (Nat.zero_le _) hj (by simp)⟩⟩
end Go.Ev
end
section
namespace Go.Proofs
open Go Go.Fw Go.Fx
set_option maxRecDepth 10000
set_option linter.unusedVariables false
set_option linter.unusedSimpArgs false
noncomputable def Sh.trace_Diff_l3 (x0 : QState) (x1 : QState) (y1068 : List Int) (v1105 : List LTurn) (v1108 : Int) : Option (((List LTurn × Int) ⊕ (List LTurn ⊕ (QMark × Int)))) :=
  (bif (decide (v1108 < (y1068.length : Int))) then ((Fx.get y1068 v1108).bind fun x1118 => ((Fx.get x0.regs.l x1118).bind fun x1119 => ((Fx.get x1.regs.l x1118).bind fun x1120 => ((Fx.app 72 v1105 [(LTurn.mk x1118 x1119 x1120)]).bind fun x1122 => (some (Sum.inl (x1122, (IntKind.i64.wrap (v1108 + 1))))))))) else (some (Sum.inr (Sum.inl v1105))))
noncomputable def Sh.trace_Diff_l5 (x0 : QState) (x1 : QState) (y1269 : List Int) (v1309 : List LTurn) (v1312 : List LCell) (v1315 : Int) : Option (((List LTurn × List LCell × Int) ⊕ ((List LTurn × List LCell) ⊕ (QMark × Int)))) :=
  (bif (decide (v1315 < (y1269.length : Int))) then ((Fx.get y1269 v1315).bind fun x1325 => ((Fx.get x0.stack.l x1325).bind fun x1326 => ((Fx.get x1.stack.l x1325).bind fun x1327 => ((Fx.app 104 v1312 [(LCell.mk x1325 x1326 x1327)]).bind fun x1329 => (some (Sum.inl (v1309, x1329, (IntKind.i64.wrap (v1315 + 1))))))))) else (some (Sum.inr (Sum.inl (v1309, v1312)))))
noncomputable def Sh.trace_Diff_l7 (x0 : QState) (x1 : QState) (v1688 : List LTurn) (v1691 : List LCell) (v1694 : List QPiece) (v1700 : Int) : Option (((List LTurn × List LCell × List QPiece × Int) ⊕ ((List LTurn × List LCell × List QPiece) ⊕ (QMark × Int)))) :=
  (bif (decide (v1700 < (x0.tables.length : Int))) then ((Fx.get x0.tables v1700).bind fun x1719 => ((Fx.get x1.tables v1700).bind fun x1720 => ((Sh.trace_pieces v1700 x1719 x1720).bind fun y1722 => ((Fx.app 64 v1694 y1722).bind fun x1729 => (some (Sum.inl (v1688, v1691, x1729, (IntKind.i64.wrap (v1700 + 1))))))))) else (some (Sum.inr (Sum.inl (v1688, v1691, v1694)))))
noncomputable def Sh.trace_Diff_j6 (x0 : QState) (x1 : QState) (v1595 : List LTurn) (v1598 : List LCell) (v1601 : List QPiece) : Option ((QMark × Int)) :=
  ((Fx.slc x1.sent (x0.sent.length : Int) (x1.sent.length : Int)).bind fun x1740 => ((Fx.app 8 [] x1740).bind fun x1743 => (some ((QMark.mk x0.at_ x1.at_ x1.done v1595 v1598 v1601 x1743), 0))))
noncomputable def Sh.trace_Diff_j4 (x0 : QState) (x1 : QState) (v1258 : List LTurn) (v1261 : List LCell) : Option ((QMark × Int)) :=
  ((Sh.trace_pieces (-1) x0.ctx x1.ctx).bind fun y1332 => (Fx.seq (Fx.loop (fun (v1688, v1691, v1694, v1700) => Sh.trace_Diff_l7 x0 x1 v1688 v1691 v1694 v1700) (v1258, v1261, y1332, 0)) fun (v1595, v1598, v1601) => Sh.trace_Diff_j6 x0 x1 v1595 v1598 v1601))
noncomputable def Sh.trace_Diff_j2 (x0 : QState) (x1 : QState) (v1060 : List LTurn) : Option ((QMark × Int)) :=
  (Fx.seq ((Sh.trace_changed_api_Slot x0.stack.l x1.stack.l).bind fun y1269 => (Fx.loop (fun (v1309, v1312, v1315) => Sh.trace_Diff_l5 x0 x1 y1269 v1309 v1312 v1315) (v1060, [], 0))) fun (v1258, v1261) => Sh.trace_Diff_j4 x0 x1 v1258 v1261)
noncomputable def Sh.trace_Diff_j1 (x0 : QState) (x1 : QState) (v913 : Bool) : Option ((QMark × Int)) :=
  (bif v913 then (some ((QMark.mk 0 0 false [] [] [] []), 1)) else ((Sh.trace_behind x0 x1).bind fun y928 => (bif (!y928) then (some ((QMark.mk 0 0 false [] [] [] []), 231)) else (Fx.seq ((Sh.trace_changed_api_Value x0.regs.l x1.regs.l).bind fun y1068 => (Fx.loop (fun (v1105, v1108) => Sh.trace_Diff_l3 x0 x1 y1068 v1105 v1108) ([], 0))) fun v1060 => Sh.trace_Diff_j2 x0 x1 v1060))))
noncomputable def Sh.trace_Diff (x0 : QState) (x1 : QState) : Option ((QMark × Int)) :=
  (Fx.seq ((Sh.trace_plainState x0).bind fun y915 => (bif (!y915) then (some (Sum.inl true)) else ((Sh.trace_plainState x1).bind fun y918 => (some (Sum.inl (!y918)))))) fun v913 => Sh.trace_Diff_j1 x0 x1 v913)
noncomputable def Sh.ref23_Diff_l4 (x0 : QState) (x1 : QState) (v1638 : Int) : Option ((Int ⊕ (Unit ⊕ (QMark × Int)))) :=
  (bif (decide (v1638 < (x0.tables.length : Int))) then ((Fx.get x0.tables v1638).bind fun x1649 => ((Fx.get x1.tables v1638).bind fun x1650 => (bif (!decide ((x1649.length : Int) = (x1650.length : Int))) then (some (Sum.inr (Sum.inr ((QMark.mk 0 0 false [] [] [] []), 231)))) else (some (Sum.inl (IntKind.i64.wrap (v1638 + 1))))))) else (some (Sum.inr (Sum.inl ()))))
noncomputable def Sh.ref23_Diff_l6 (x0 : QState) (x1 : QState) (v1776 : Int) : Option ((Int ⊕ (Unit ⊕ (QMark × Int)))) :=
  (bif (decide (v1776 < (x0.sent.length : Int))) then ((Fx.get x0.sent v1776).bind fun x1787 => ((Fx.get x1.sent v1776).bind fun x1788 => (bif (!decide (x1787 = x1788)) then (some (Sum.inr (Sum.inr ((QMark.mk 0 0 false [] [] [] []), 231)))) else (some (Sum.inl (IntKind.i64.wrap (v1776 + 1))))))) else (some (Sum.inr (Sum.inl ()))))
noncomputable def Sh.ref23_Diff_j9 (v2118 : Int) (v2142 : List LTurn) : Option (((List LTurn × Int) ⊕ (List LTurn ⊕ (QMark × Int)))) :=
  (some (Sum.inl (v2142, (IntKind.i64.wrap (v2118 + 1)))))
noncomputable def Sh.ref23_Diff_l8 (x0 : QState) (x1 : QState) (v2115 : List LTurn) (v2118 : Int) : Option (((List LTurn × Int) ⊕ (List LTurn ⊕ (QMark × Int)))) :=
  (bif (decide (v2118 < 11)) then (Fx.seq ((Fx.get x0.regs.l v2118).bind fun x2147 => ((Fx.get x1.regs.l v2118).bind fun x2148 => (bif (!(decide (x2147 = x2148))) then ((Fx.get x0.regs.l v2118).bind fun x2150 => ((Fx.get x1.regs.l v2118).bind fun x2151 => ((Fx.app 72 v2115 [(LTurn.mk v2118 x2150 x2151)]).bind fun x2153 => (some (Sum.inl x2153))))) else (some (Sum.inl v2115))))) fun v2142 => Sh.ref23_Diff_j9 v2118 v2142) else (some (Sum.inr (Sum.inl v2115))))
noncomputable def Sh.ref23_Diff_j12 (v2520 : Int) (v2544 : List LTurn) (v2547 : List LCell) : Option (((List LTurn × List LCell × Int) ⊕ ((List LTurn × List LCell) ⊕ (QMark × Int)))) :=
  (some (Sum.inl (v2544, v2547, (IntKind.i64.wrap (v2520 + 1)))))
noncomputable def Sh.ref23_Diff_l11 (x0 : QState) (x1 : QState) (v2514 : List LTurn) (v2517 : List LCell) (v2520 : Int) : Option (((List LTurn × List LCell × Int) ⊕ ((List LTurn × List LCell) ⊕ (QMark × Int)))) :=
  (bif (decide (v2520 < 32)) then (Fx.seq ((Fx.get x0.stack.l v2520).bind fun x2552 => ((Fx.get x1.stack.l v2520).bind fun x2553 => (bif (!(decide (x2552 = x2553))) then ((Fx.get x0.stack.l v2520).bind fun x2555 => ((Fx.get x1.stack.l v2520).bind fun x2556 => ((Fx.app 104 v2517 [(LCell.mk v2520 x2555 x2556)]).bind fun x2558 => (some (Sum.inl (v2514, x2558)))))) else (some (Sum.inl (v2514, v2517)))))) fun (v2544, v2547) => Sh.ref23_Diff_j12 v2520 v2544 v2547) else (some (Sum.inr (Sum.inl (v2514, v2517)))))
noncomputable def Sh.ref23_Diff_l14 (x0 : QState) (x1 : QState) (v2824 : List LTurn) (v2827 : List LCell) (v2830 : List QPiece) (v2836 : Int) : Option (((List LTurn × List LCell × List QPiece × Int) ⊕ ((List LTurn × List LCell × List QPiece) ⊕ (QMark × Int)))) :=
  (bif (decide (v2836 < (x0.tables.length : Int))) then ((Fx.get x0.tables v2836).bind fun x2849 => ((Fx.get x1.tables v2836).bind fun x2850 => ((Sh.ref23_unlike v2830 v2836 x2849 x2850).bind fun y2852 => (some (Sum.inl (v2824, v2827, y2852, (IntKind.i64.wrap (v2836 + 1)))))))) else (some (Sum.inr (Sum.inl (v2824, v2827, v2830)))))
noncomputable def Sh.ref23_Diff_j13 (x0 : QState) (x1 : QState) (v2755 : List LTurn) (v2758 : List LCell) (v2761 : List QPiece) : Option ((QMark × Int)) :=
  ((Fx.slc x1.sent (x0.sent.length : Int) (x1.sent.length : Int)).bind fun x2864 => ((Fx.app 8 [] x2864).bind fun x2867 => (some ((QMark.mk x0.at_ x1.at_ x1.done v2755 v2758 v2761 x2867), 0))))
noncomputable def Sh.ref23_Diff_j10 (x0 : QState) (x1 : QState) (v2421 : List LTurn) (v2424 : List LCell) : Option ((QMark × Int)) :=
  ((Sh.ref23_unlike [] (-1) x0.ctx x1.ctx).bind fun y2564 => (Fx.seq (Fx.loop (fun (v2824, v2827, v2830, v2836) => Sh.ref23_Diff_l14 x0 x1 v2824 v2827 v2830 v2836) (v2421, v2424, y2564, 0)) fun (v2755, v2758, v2761) => Sh.ref23_Diff_j13 x0 x1 v2755 v2758 v2761))
noncomputable def Sh.ref23_Diff_j7 (x0 : QState) (x1 : QState) (v2034 : List LTurn) : Option ((QMark × Int)) :=
  (Fx.seq (Fx.loop (fun (v2514, v2517, v2520) => Sh.ref23_Diff_l11 x0 x1 v2514 v2517 v2520) (v2034, [], 0)) fun (v2421, v2424) => Sh.ref23_Diff_j10 x0 x1 v2421 v2424)
noncomputable def Sh.ref23_Diff_j5 (x0 : QState) (x1 : QState) : Option ((QMark × Int)) :=
  (Fx.seq (Fx.loop (fun (v2115, v2118) => Sh.ref23_Diff_l8 x0 x1 v2115 v2118) ([], 0)) fun v2034 => Sh.ref23_Diff_j7 x0 x1 v2034)
noncomputable def Sh.ref23_Diff_j3 (x0 : QState) (x1 : QState) : Option ((QMark × Int)) :=
  (Fx.seq (Fx.loop (fun v1776 => Sh.ref23_Diff_l6 x0 x1 v1776) 0) fun _ => Sh.ref23_Diff_j5 x0 x1)
noncomputable def Sh.ref23_Diff_j2 (x0 : QState) (x1 : QState) (v1507 : Bool) : Option ((QMark × Int)) :=
  (bif v1507 then (some ((QMark.mk 0 0 false [] [] [] []), 231)) else (Fx.seq (Fx.loop (fun v1638 => Sh.ref23_Diff_l4 x0 x1 v1638) 0) fun _ => Sh.ref23_Diff_j3 x0 x1))
noncomputable def Sh.ref23_Diff_j1 (x0 : QState) (x1 : QState) (v1465 : Bool) : Option ((QMark × Int)) :=
  (bif v1465 then (some ((QMark.mk 0 0 false [] [] [] []), 1)) else (Fx.seq (bif x0.done then (some (Sum.inl true)) else (bif (!decide (x1.steps = (IntKind.i64.wrap (x0.steps + 1)))) then (some (Sum.inl true)) else (bif (!decide ((x0.ctx.length : Int) = (x1.ctx.length : Int))) then (some (Sum.inl true)) else (bif (!decide ((x0.tables.length : Int) = (x1.tables.length : Int))) then (some (Sum.inl true)) else (bif (decide ((x1.sent.length : Int) < (x0.sent.length : Int))) then (some (Sum.inl true)) else (some (Sum.inl (decide ((IntKind.i64.wrap ((x0.sent.length : Int) + 1)) < (x1.sent.length : Int)))))))))) fun v1507 => Sh.ref23_Diff_j2 x0 x1 v1507))
noncomputable def Sh.ref23_Diff (x0 : QState) (x1 : QState) : Option ((QMark × Int)) :=
  (Fx.seq ((Sh.ref23_statePlain x0).bind fun y1467 => (bif (!y1467) then (some (Sum.inl true)) else ((Sh.ref23_statePlain x1).bind fun y1470 => (some (Sum.inl (!y1470)))))) fun v1465 => Sh.ref23_Diff_j1 x0 x1 v1465)
noncomputable def Sh.law23_TraceDiffs_l4 (v873 : QState) (v883 : Int) : Option (((QState × Int) ⊕ (QState ⊕ Bool))) :=
  (bif (decide (v883 < (v873.ctx.length : Int))) then ((Fx.get v873.ctx v883).bind fun x889 => ((Fx.get v873.ctx v883).bind fun x890 => (some (Sum.inl ((QState.mk v873.regs v873.stack (v873.ctx.set (v883 : Int).toNat (Fw.byteOf ((x889.toNat : Int) + 1))) v873.tables v873.sent v873.at_ v873.steps v873.done), (IntKind.i64.wrap (v883 + 1))))))) else (some (Sum.inr (Sum.inl v873))))
noncomputable def Sh.law23_TraceDiffs_l6 (v1078 : QState) (v1088 : Int) : Option (((QState × Int) ⊕ (QState ⊕ Bool))) :=
  (bif (decide (v1088 < (v1078.ctx.length : Int))) then ((Fx.get v1078.ctx v1088).bind fun x1094 => ((Fx.get v1078.ctx v1088).bind fun x1095 => (some (Sum.inl ((QState.mk v1078.regs v1078.stack (v1078.ctx.set (v1088 : Int).toNat (Fw.byteOf ((x1094.toNat : Int) + 1))) v1078.tables v1078.sent v1078.at_ v1078.steps v1078.done), (IntKind.i64.wrap (v1088 + 1))))))) else (some (Sum.inr (Sum.inl v1078))))
noncomputable def Sh.law23_TraceDiffs_j5 (y659 : (QMark × Int)) (y673 : (QMark × Int)) (v1022 : QState) : Option Bool :=
  ((Sh.law23_sameMark y659.1 y673.1).bind fun y1098 => (some y1098))
noncomputable def Sh.law23_TraceDiffs_j3 (v624 : QState) (y659 : (QMark × Int)) (y673 : (QMark × Int)) (v836 : QState) : Option Bool :=
  (Fx.seq (Fx.loop (fun (v1078, v1088) => Sh.law23_TraceDiffs_l6 v1078 v1088) (v624, 0)) fun v1022 => Sh.law23_TraceDiffs_j5 y659 y673 v1022)
noncomputable def Sh.law23_TraceDiffs_j2 (v613 : QState) (v624 : QState) (y659 : (QMark × Int)) (y673 : (QMark × Int)) (v733 : Bool) : Option Bool :=
  (bif v733 then (some false) else (Fx.seq (Fx.loop (fun (v873, v883) => Sh.law23_TraceDiffs_l4 v873 v883) (v613, 0)) fun v836 => Sh.law23_TraceDiffs_j3 v624 y659 y673 v836))
noncomputable def Sh.law23_TraceDiffs_j1 (x0 : QState) (x1 : QState) (v613 : QState) (v624 : QState) : Option Bool :=
  ((Sh.trace_Diff v613 v624).bind fun y659 => ((Sh.ref23_Diff x0 x1).bind fun y673 => (Fx.seq (bif (!decide (y659.2 = y673.2)) then (some (Sum.inl true)) else ((Sh.law23_sameMark y659.1 y673.1).bind fun y736 => (bif (!y736) then (some (Sum.inl true)) else ((Sh.law00_SameState v613 x0).bind fun y739 => (bif (!y739) then (some (Sum.inl true)) else ((Sh.law00_SameState v624 x1).bind fun y742 => (some (Sum.inl (!y742))))))))) fun v733 => Sh.law23_TraceDiffs_j2 v613 v624 y659 y673 v733)))
noncomputable def Sh.law23_TraceDiffs (x0 : QState) (x1 : QState) : Option Bool :=
  ((Sh.law23_known).bind fun y562 => (bif (!y562) then (some false) else (Fx.seq ((Sh.law23_copyState x0).bind fun y635 => ((Sh.law23_copyState x1).bind fun y646 => (some (Sum.inl (y635, y646))))) fun (v613, v624) => Sh.law23_TraceDiffs_j1 x0 x1 v613 v624)))
end Go.Proofs
end
section
namespace Go.Sp
open Go Go.Fw Go.Fx
set_option linter.unusedVariables false
set_option linter.unusedSimpArgs false
theorem w64 {x : Int} (h : -9223372036854775808 ≤ x ∧ x ≤ 9223372036854775807) : IntKind.i64.wrap x = x := wrap64_id h
def num : List UInt8 → Nat
  | [] => 0
  | b :: l => b.toNat + 256 * num l
theorem num_lt (l : List UInt8) : num l < 256 ^ l.length := by
  induction l with
  | nil => simp [num]
  | cons b l ih =>
    simp only [num, List.length_cons, Nat.pow_succ]
    have := b.toNat_lt
    omega
theorem num_snoc (l : List UInt8) (b : UInt8) : num (l ++ [b]) = num l + 256 ^ l.length * b.toNat := by
  induction l with
  | nil => simp [num]
  | cons a l ih =>
    simp only [List.cons_append, num, ih, List.length_cons, Nat.pow_succ, Nat.mul_add]
    rw [Nat.mul_comm (256 ^ l.length) 256, Nat.mul_assoc]
    omega
theorem wrap_eq (x : Int) : ∃ k : Int, IntKind.i64.wrap x = x + 18446744073709551616 * k := by
  unfold IntKind.wrap
  simp only [IntKind.signed, IntKind.bits, Bool.true_and, decide_eq_true_eq]
  have h := Int.emod_add_mul_ediv x (2 ^ 64)
  split
  · exact ⟨-(x / 2 ^ 64) - 1, by omega⟩
  · exact ⟨-(x / 2 ^ 64), by omega⟩
theorem ofInt_wrap (x : Int) : BitVec.ofInt 64 (IntKind.i64.wrap x) = BitVec.ofInt 64 x := by
  obtain ⟨k, hk⟩ := wrap_eq x
  rw [hk]
  apply BitVec.eq_of_toInt_eq
  simp only [BitVec.toInt_ofInt]
  rw [show (18446744073709551616 : Int) = ((2 ^ 64 : Nat) : Int) by rfl, Int.add_mul_bmod_self_left]
theorem bor_disj {N b m : Nat} (hN : N < 2 ^ m) (hb : 2 ^ m * b + N < 2 ^ 64) : bor .i64 (IntKind.i64.wrap (N : Nat)) (IntKind.i64.wrap ((2 ^ m * b : Nat) : Int)) = IntKind.i64.wrap ((N + 2 ^ m * b : Nat) : Int) := by
  have e0 : ∀ x y, bor .i64 x y = IntKind.i64.wrap ((BitVec.ofInt 64 x ||| BitVec.ofInt 64 y).toNat : Int) := fun _ _ => rfl
  rw [e0, ofInt_wrap, ofInt_wrap, BitVec.toNat_or, BitVec.ofInt_natCast, BitVec.ofInt_natCast, BitVec.toNat_ofNat, BitVec.toNat_ofNat, Nat.mod_eq_of_lt (by omega), Nat.mod_eq_of_lt (by omega), Nat.or_comm,
    ← Nat.two_pow_add_eq_or_of_lt hN, Nat.add_comm]
end Go.Sp
end
section
namespace Go.Sp
open Go Go.Fw Go.Fx Go.Proofs
set_option linter.unusedVariables false
set_option linter.unusedSimpArgs false
structure Wf (b : List UInt8) (r : QReader) : Prop where
  b_eq : r.b = b
  at0 : 0 ≤ r.at_
  at1 : r.at_ ≤ b.length
  p0 : 0 ≤ r.place
  p1 : r.place ≤ b.length
def Rd (b : List UInt8) (r r' : QReader) (enc : List UInt8) (good : Prop) : Prop :=
  Wf b r' ∧ (r'.e = 0 → r.e = 0 ∧ good ∧ b.drop r.at_.toNat = enc ++ b.drop r'.at_.toNat)
section
variable {b : List UInt8} {r r1 r2 : QReader}
theorem Rd.trans {e1 e2 : List UInt8} {g1 g2 : Prop} (h : Rd b r r1 e1 g1) (k : Rd b r1 r2 e2 g2) : Rd b r r2 (e1 ++ e2) (g1 ∧ g2) :=
  ⟨k.1, fun he => by
    obtain ⟨h1, h2, h3⟩ := k.2 he
    obtain ⟨h4, h5, h6⟩ := h.2 h1
    exact ⟨h4, ⟨h5, h2⟩, by rw [h6, h3, List.append_assoc]⟩⟩
theorem Rd.refl (h : Wf b r) : Rd b r r [] True := ⟨h, fun he => ⟨he, trivial, rfl⟩⟩
theorem Rd.imp {e e' : List UInt8} {g g' : Prop} (h : Rd b r r1 e g) (k : g → e = e' ∧ g') : Rd b r r1 e' g' :=
  ⟨h.1, fun he => by obtain ⟨h1, h2, h3⟩ := h.2 he; obtain ⟨h4, h5⟩ := k h2; subst h4; exact ⟨h1, h5, h3⟩⟩
theorem Rd.bad (h : Wf b r1) (he : r1.e ≠ 0) {e : List UInt8} {g : Prop} : Rd b r r1 e g := ⟨h, fun k => absurd k he⟩
theorem number_loop (y : List UInt8 × QReader) (hl : y.1.length ≤ 8) : ∀ (m k : Nat), m + k = y.1.length →
    Fx.loop (fun (v : Int × Int) => match v with | (v1, v2) => Sh.trace_reader_number_l2 y v1 v2) ((k : Int), IntKind.i64.wrap (num (y.1.take k) : Nat)) = some (Sum.inl (y.2, IntKind.i64.wrap (num y.1 : Nat))) := by
  intro m
  induction m with
  | zero =>
    intro k hk
    rw [Fx.loop_eq]
    have h : ¬ ((k : Int) < (y.1.length : Int)) := by omega
    simp [Sh.trace_reader_number_l2, h, List.take_of_length_le (show y.1.length ≤ k by omega)]
  | succ m ih =>
    intro k hk
    rw [Fx.loop_eq]
    have h : ((k : Int) < (y.1.length : Int)) := by omega
    have hkl : k < y.1.length := by omega
    have e1 : IntKind.i64.wrap (8 * (k : Int)) = 8 * (k : Int) := w64 (by omega)
    have e2 : IntKind.i64.wrap ((k : Int) + 1) = ((k + 1 : Nat) : Int) := by rw [w64 (by omega)]; rfl
    have hg : Fx.get y.1 (k : Int) = some y.1[k] := by simp [Fx.get, List.getElem?_eq_getElem hkl]
    have e3 : (8 * (k : Int)).toNat = 8 * k := by omega
    have e4 : shl .i64 (y.1[k].toNat : Int) (8 * k) = IntKind.i64.wrap ((2 ^ (8 * k) * y.1[k].toNat : Nat) : Int) := by
      unfold shl
      rw [Nat.min_eq_left (by simp [IntKind.bits]; omega), Int.mul_comm]
      congr 1
    have hN := num_lt (y.1.take k)
    rw [List.length_take, Nat.min_eq_left (by omega)] at hN
    have e256 : (256 : Nat) ^ k = 2 ^ (8 * k) := by rw [Nat.pow_mul]
    have hb := y.1[k].toNat_lt
    have hb2 : 2 ^ (8 * k) * y.1[k].toNat + num (y.1.take k) < 2 ^ 64 := by
      have h1 : 2 ^ (8 * k) * y.1[k].toNat ≤ 2 ^ (8 * k) * 255 := Nat.mul_le_mul_left _ (by omega)
      have h2 : 2 ^ (8 * k) * 256 ≤ 2 ^ 64 := by
        rw [show (256 : Nat) = 2 ^ 8 by rfl, ← Nat.pow_add]; exact Nat.pow_le_pow_right (by decide) (by omega)
      rw [← e256] at h1 h2 ⊢
      omega
    have e5 : num (y.1.take (k + 1)) = num (y.1.take k) + 2 ^ (8 * k) * y.1[k].toNat := by
      rw [List.take_add_one, List.getElem?_eq_getElem hkl, Option.toList_some, num_snoc, List.length_take, Nat.min_eq_left (by omega), e256]
    have := ih (k + 1) (by omega)
    simp only [Sh.trace_reader_number_l2, h, decide_true, cond_true, hg, Option.bind_some, e1, e2, Fx.must, show (0 ≤ 8 * (k : Int)) by omega, e3, e4, bor_disj (by rw [← e256]; exact hN) hb2]
    rw [← e5]
    exact this
end
end Go.Sp
end
section
namespace Go.Sp
open Go Go.Fw Go.Fx
set_option linter.unusedVariables false
set_option linter.unusedSimpArgs false
section
variable {σ γ X : Type} {body : σ → Option (σ ⊕ γ)}
theorem loop_go {s s' : σ} {o : Option γ} (h : body s = some (.inl s')) (k : loop body s' = o) : loop body s = o := by rw [loop_eq, h]; exact k
theorem loop_out {s : σ} {g : γ} (h : body s = some (.inr g)) : loop body s = some g := by rw [loop_eq, h]
theorem count_rule {α : Type} (n : Nat) (st : Nat → α → σ) (I : Nat → α → Prop) (Q : γ → Prop)
    (h : ∀ i a, i < n → I i a → (∃ a', body (st i a) = some (.inl (st (i + 1) a')) ∧ I (i + 1) a') ∨ ∃ g, body (st i a) = some (.inr g) ∧ Q g)
    (h' : ∀ a, I n a → ∃ g, body (st n a) = some (.inr g) ∧ Q g) : ∀ m i a, m + i = n → I i a → ∃ g, loop body (st i a) = some g ∧ Q g := by
  intro m
  induction m with
  | zero =>
    intro i a e hI
    obtain rfl : i = n := by omega
    obtain ⟨g, hg, hq⟩ := h' a hI
    exact ⟨g, loop_out hg, hq⟩
  | succ m ih =>
    intro i a e hI
    rcases h i a (by omega) hI with ⟨a', hb, hI'⟩ | ⟨g, hg, hq⟩
    · obtain ⟨g, hg, hq⟩ := ih (i + 1) a' (by omega) hI'
      exact ⟨g, loop_go hb hg, hq⟩
    · exact ⟨g, loop_out hg, hq⟩
end
theorem seq_l {τ γ : Type} {x : τ} {k : τ → Option γ} : Fx.seq (some (Sum.inl x)) k = k x := rfl
theorem seq_r {τ γ : Type} {x : γ} {k : τ → Option γ} : Fx.seq (some (Sum.inr x)) k = some x := rfl
theorem seq_eq {τ γ : Type} {t : Option (τ ⊕ γ)} {o : τ ⊕ γ} {k : τ → Option γ} {u : Option γ} (h : t = some o) (h' : Fx.fin k o = u) : Fx.seq t k = u := by rw [h]; exact h'
theorem next64 {i n : Nat} (h : i < n) (hn : n ≤ 4611686018427387904) : IntKind.i64.wrap ((i : Int) + 1) = ((i + 1 : Nat) : Int) := by rw [w64 (by omega)]; rfl
theorem get_at {X : Type} {l : List X} {i : Nat} (h : i < l.length) : Fx.get l (i : Int) = some l[i] := by simp [Fx.get, List.getElem?_eq_getElem h]
theorem lt_dec {i n : Nat} : decide ((i : Int) < (n : Int)) = decide (i < n) := by simp
theorem app_ok {X : Type} {bytes : Nat} {l m : List X} (h : (l.length + m.length) * bytes ≤ 140737488355328) (k : l.length + m.length ≤ 4611686018427387904) : Fx.app bytes l m = some (l ++ m) := if_pos ⟨h, k⟩
end Go.Sp
end
section
namespace Go.Sp
open Go Go.Fw Go.Fx Go.Proofs
set_option linter.unusedVariables false
set_option linter.unusedSimpArgs false
section
variable {b : List UInt8} {r r1 r2 : QReader}
theorem Rd.at_ {e : List UInt8} {g : Prop} (hw : Wf b r) (h : Rd b r r1 e g) (he : r1.e = 0) : r1.at_ = r.at_ + e.length := by
  have h1 := congrArg List.length (h.2 he).2.2
  simp only [List.length_append, List.length_drop] at h1
  have := hw.at1; have := h.1.at1; have := hw.at0; have := h.1.at0
  omega
end
end Go.Sp
end
section
namespace Go.Sp
open Go Go.Fw Go.Fx Go.Proofs
set_option linter.unusedVariables false
set_option linter.unusedSimpArgs false
theorem within_eq (x lo hi : Int) : Sh.trace_within x lo hi = some (decide (lo ≤ x ∧ x ≤ hi)) := by
  unfold Sh.trace_within
  by_cases h : lo ≤ x <;> simp [h, Fx.seq, Fx.fin, Sh.trace_within_j1]
end Go.Sp
end
section
namespace Go.Sp
open Go Go.Fw Go.Fx Go.Proofs
set_option linter.unusedVariables false
set_option linter.unusedSimpArgs false
def cur (r : QReader) : QCursor := QCursor.mk r.b r.at_ r.place r.e
def tk (r : QReader) (n : Int) : List UInt8 × QReader :=
  if r.e = 0 then (if r.at_ + n ≤ r.b.length then ((r.b.drop r.at_.toNat).take n.toNat, QReader.mk r.b (r.at_ + n) r.place r.e) else ([], QReader.mk r.b r.at_ r.b.length 236)) else ([], r)
section
variable {b : List UInt8} {r r1 r2 : QReader}
theorem take_eq (hb : b.length ≤ 16777216) (hw : Wf b r) {n : Int} (hn : 0 ≤ n ∧ n ≤ 4294967296) : Sh.trace_reader_take r n = some (tk r n) := by
  obtain ⟨h1, h2, h3, h4, h5⟩ := hw
  unfold Sh.trace_reader_take tk
  have e1 : IntKind.i64.wrap ((r.b.length : Int) - r.at_) = (b.length : Int) - r.at_ := by rw [h1]; exact w64 (by omega)
  rw [e1]
  have e2 : IntKind.i64.wrap (r.at_ + n) = r.at_ + n := w64 (by omega)
  have e3 : IntKind.i64.wrap (r.at_ + n - n) = r.at_ := by rw [w64 (by omega)]; omega
  by_cases he : r.e = 0
  · by_cases hlt : (b.length : Int) - r.at_ < n
    · have h6 : ¬ r.at_ + n ≤ (r.b.length : Int) := by rw [h1]; omega
      simp [hlt, he, h6, Sh.trace_reader_fault, seq_l, Sh.trace_reader_take_j1]
    · have h6 : r.at_ + n ≤ (r.b.length : Int) := by rw [h1]; omega
      have e4 : (r.at_ + n).toNat - r.at_.toNat = n.toNat := by omega
      simp only [hlt, decide_false, cond_false, seq_l, Sh.trace_reader_take_j1, he, decide_true, Bool.not_true, e2, e3, if_true, h6, Fx.slc]
      have h7 : 0 ≤ r.at_ ∧ r.at_ ≤ r.at_ + n ∧ True := ⟨h2, by omega, trivial⟩
      rw [if_pos h7, e4]; rfl
  · by_cases hlt : (b.length : Int) - r.at_ < n
    · simp [hlt, he, Sh.trace_reader_fault, seq_l, Sh.trace_reader_take_j1]
    · simp [hlt, he, seq_l, Sh.trace_reader_take_j1]
theorem number_eq (hb : b.length ≤ 16777216) (hw : Wf b r) {n : Nat} (hn : n ≤ 8) : Sh.trace_reader_number r (n : Nat) = some (IntKind.i64.wrap (num (tk r n).1 : Nat), (tk r n).2) := by
  have ht := take_eq hb hw (n := (n : Nat)) (by omega)
  have hxl : (tk r n).1.length ≤ 8 := by unfold tk; split <;> (try split) <;> simp <;> omega
  have hl := number_loop (tk r n) hxl (tk r n).1.length 0 (by simp)
  have e0 : IntKind.i64.wrap ((num ((tk r n).1.take 0) : Nat) : Int) = 0 := by simp [num]; rfl
  rw [e0] at hl
  unfold Sh.trace_reader_number
  simp only [ht, Option.bind_some]
  exact seq_eq hl rfl
theorem num_drop (x : List UInt8) (i : Nat) (h : i < x.length) : num (x.drop i) = x[i].toNat + 256 * num (x.drop (i + 1)) := by
  rw [List.drop_eq_getElem_cons h]; rfl
theorem wu64 {x : Int} (h : 0 ≤ x ∧ x < 18446744073709551616) : IntKind.u64.wrap x = x := by
  simp [IntKind.wrap, IntKind.signed, IntKind.bits]; omega
theorem c_number_loop (c : QCursor) (x : List UInt8) (h0 : 0 ≤ c.at_) (hc : c.at_ ≤ 16777216) (hx : x.length ≤ 8) (hg : ∀ i (h : i < x.length), Fx.get c.b (c.at_ + (i : Int)) = some x[i]) : ∀ (m : Nat), m ≤ x.length →
    Fx.loop (fun (v : Int × Int) => match v with | (v1, v2) => Sh.ref23_cursor_number_l4 c v1 v2) ((num (x.drop m) : Nat), (m : Int) - 1) = some (Sum.inl ((num x : Nat) : Int)) := by
  intro m
  induction m with
  | zero => intro _; exact loop_out (by simp [Sh.ref23_cursor_number_l4])
  | succ m ih =>
    intro hm
    have hlt := num_lt (x.drop m)
    rw [List.length_drop] at hlt
    have h8 : 256 ^ (x.length - m) ≤ 256 ^ 8 := Nat.pow_le_pow_right (by decide) (by omega)
    have h8' : 256 ^ 8 = 18446744073709551616 := by decide
    rw [num_drop x m (by omega)] at hlt
    have e1 : ((m + 1 : Nat) : Int) - 1 = (m : Int) := by omega
    refine loop_go ?_ (ih (by omega))
    rw [e1]
    have h1 : (0 : Int) ≤ (m : Int) := by omega
    have e2 : IntKind.i64.wrap (c.at_ + (m : Int)) = c.at_ + (m : Int) := w64 (by omega)
    have e3 : IntKind.i64.wrap ((m : Int) - 1) = (m : Int) - 1 := w64 (by omega)
    have e4 : IntKind.u64.wrap (IntKind.u64.wrap (((num (x.drop (m + 1)) : Nat) : Int) * 256) + ((x[m]'(by omega)).toNat : Int)) = ((num (x.drop m) : Nat) : Int) := by
      rw [num_drop x m (by omega)]
      rw [wu64 (x := ((num (x.drop (m + 1)) : Nat) : Int) * 256) (by omega), wu64 (by omega)]
      omega
    simp only [Sh.ref23_cursor_number_l4, h1, decide_true, cond_true, e2, hg m (by omega), Option.bind_some, e3, e4]
theorem c_number_eq (hb : b.length ≤ 16777216) (hw : Wf b r) {n : Nat} (hn : n ≤ 8) : Sh.ref23_cursor_number (cur r) (n : Nat) = some (IntKind.i64.wrap (num (tk r n).1 : Nat), cur (tk r n).2) := by
  obtain ⟨h1, h2, h3, h4, h5⟩ := hw
  have e2 : IntKind.i64.wrap (r.at_ + (n : Int)) = r.at_ + n := w64 (by omega)
  unfold Sh.ref23_cursor_number tk
  by_cases he : r.e = 0
  · by_cases hlt : r.at_ + (n : Int) ≤ (r.b.length : Int)
    · have h6 : ¬ (r.b.length : Int) < r.at_ + (n : Int) := by omega
      simp only [cur, he, decide_true, cond_true, e2, h6, decide_false, seq_l, Sh.ref23_cursor_number_j2, cond_false, Sh.ref23_cursor_number_j1, Bool.not_true, if_true, hlt]
      have hlen : ((r.b.drop r.at_.toNat).take (n : Int).toNat).length = n := by simp; omega
      have := c_number_loop (QCursor.mk r.b r.at_ r.place 0) ((r.b.drop r.at_.toNat).take (n : Int).toNat) h2 (by simp; omega) (by omega) (fun i h => by
        have hi : r.at_.toNat + i < r.b.length := by rw [hlen] at h; omega
        have e : (r.at_ + (i : Int)).toNat = r.at_.toNat + i := by omega
        simp only [Fx.get]
        rw [if_pos (by omega), e, List.getElem?_eq_getElem hi]
        simp) n (by omega)
      rw [List.drop_of_length_le (by omega)] at this
      have e5 : IntKind.i64.wrap ((n : Int) - 1) = (n : Int) - 1 := w64 (by omega)
      rw [e5]
      exact seq_eq this (by simp only [Fx.fin, Sh.ref23_cursor_number_j3, e2, cur])
    · have h6 : (r.b.length : Int) < r.at_ + (n : Int) := by omega
      simp [cur, he, e2, h6, seq_l, Sh.ref23_cursor_number_j2, Sh.ref23_cursor_number_j1, hlt, Sh.ref23_cursor_fault, num]
      rfl
  · simp [cur, he, seq_l, Sh.ref23_cursor_number_j2, Sh.ref23_cursor_number_j1, num]
    rfl
end
end Go.Sp
end
section
namespace Go.Sp
open Go Go.Fw Go.Fx Go.Proofs
set_option linter.unusedVariables false
set_option linter.unusedSimpArgs false
section
variable {b : List UInt8} {r r1 r2 : QReader}
theorem c_number (hb : b.length ≤ 16777216) (hw : Wf b r) (n : Nat) (hn : n ≤ 8) {v : Int} (h : Sh.trace_reader_number r (n : Nat) = some (v, r1)) : Sh.ref23_cursor_number (cur r) (n : Nat) = some (v, cur r1) ∧ (r1.e ≠ 0 → v = 0) := by
  rw [number_eq hb hw hn] at h
  have h1 := congrArg Prod.fst (Option.some.inj h)
  have h2 := congrArg Prod.snd (Option.some.inj h)
  simp only at h1 h2
  subst h1 h2
  refine ⟨c_number_eq hb hw hn, fun he => ?_⟩
  have : (tk r n).1 = [] := by
    unfold tk at he ⊢
    split
    · rename_i h0
      rw [if_pos h0] at he
      split
      · rename_i h1; rw [if_pos h1] at he; exact absurd h0 he
      · rfl
    · rfl
  rw [this]; simp [num]; rfl
end
end Go.Sp
end
section
namespace Go.Sp
open Go Go.Fw Go.Fx Go.Proofs
set_option linter.unusedVariables false
set_option linter.unusedSimpArgs false
theorem rwithin_eq (x lo hi : Int) : Sh.ref23_within x lo hi = some (decide (lo ≤ x ∧ x ≤ hi)) := by
  unfold Sh.ref23_within
  by_cases h : lo ≤ x <;> simp [h, Fx.seq, Fx.fin, Sh.ref23_within_j1]
structure OkAt {X : Type} (key : X → Int) (bad : X → Prop) (top : Int) (l : List X) (i : Nat) (h : i < l.length) : Prop where
  lo : 0 ≤ key l[i]
  hi : key l[i] ≤ top
  un : ¬ bad l[i]
  up : ∀ (k : 0 < i), key (l[i - 1]'(by omega)) < key l[i]
def AllOk {X : Type} (key : X → Int) (bad : X → Prop) (top : Int) (l : List X) (n : Nat) : Prop := ∀ i (h : i < l.length), i < n → OkAt key bad top l i h
theorem AllOk.succ {X : Type} {key : X → Int} {bad : X → Prop} {top : Int} {l : List X} {n : Nat} (h : AllOk key bad top l n) (hn : n < l.length) (k : OkAt key bad top l n hn) : AllOk key bad top l (n + 1) := by
  intro i hi hin
  by_cases e : i = n
  · subst e; exact k
  · exact h i hi (by omega)
def Differ (x y : List UInt8) : Prop := ∀ i, i < x.length → x.getD i 0 ≠ y.getD i 0
structure OkP (l : List QPiece) (i : Nat) (h : i < l.length) : Prop where
  lo : -1 ≤ (l[i]).table
  hi : (l[i]).table ≤ 7
  from0 : 0 ≤ (l[i]).from_
  ne : (l[i]).old.length ≠ 0
  eq : (l[i]).new.length = (l[i]).old.length
  top : (l[i]).from_ + ((l[i]).old.length : Int) ≤ 65535
  df : Differ (l[i]).old (l[i]).new
  up : ∀ (k : 0 < i), (l[i - 1]'(by omega)).table < (l[i]).table ∨ ((l[i - 1]'(by omega)).table = (l[i]).table ∧ (l[i - 1]'(by omega)).from_ + ((l[i - 1]'(by omega)).old.length : Int) < (l[i]).from_)
def AllP (l : List QPiece) (n : Nat) : Prop := ∀ i (h : i < l.length), i < n → OkP l i h
theorem AllP.succ {l : List QPiece} {n : Nat} (h : AllP l n) (hn : n < l.length) (k : OkP l n hn) : AllP l (n + 1) := by
  intro i hi hin
  by_cases e : i = n
  · subst e; exact k
  · exact h i hi (by omega)
end Go.Sp
end
section
namespace Go.Sp
open Go Go.Fw Go.Fx Go.Proofs
set_option linter.unusedVariables false
set_option linter.unusedSimpArgs false
structure St (b more : List UInt8) (r : QReader) (t : List UInt8) : Prop where
  wf : Wf b r
  ok : r.e = 0 → b.drop r.at_.toNat ++ more = t
  bad : r.e ≠ 0 → r.e = 236 ∧ r.place = b.length ∧ more ≠ []
section
variable {b more : List UInt8} {r r1 r2 : QReader} {t : List UInt8}
theorem St.any (h : St b more r t) (he : r.e ≠ 0) (t' : List UInt8) : St b more r t' := ⟨h.wf, fun k => absurd k he, h.bad⟩
theorem St.to {t' : List UInt8} (h : St b more r t) (k : r.e = 0 → t = t') : St b more r t' := ⟨h.wf, fun he => (h.ok he).trans (k he), h.bad⟩
end
end Go.Sp
end
section
namespace Go.Sp
open Go Go.Fw Go.Fx Go.Proofs
set_option linter.unusedVariables false
set_option linter.unusedSimpArgs false
theorem flat_len {X : Type} {enc : X → List UInt8} (h : ∀ x, 1 ≤ (enc x).length) (xs : List X) : xs.length ≤ (xs.flatMap enc).length := by
  induction xs with
  | nil => simp
  | cons x xs ih => have := h x; simp only [List.length_cons, List.flatMap_cons, List.length_append]; omega
end Go.Sp
end
section
namespace Go.Sp
open Go Go.Fw Go.Fx Go.Proofs
set_option linter.unusedVariables false
set_option linter.unusedSimpArgs false
def Says (o : Option Bool) (P : Prop) : Prop := ∃ t, o = some t ∧ (t = true ↔ P)
theorem Says.eq {o o' : Option Bool} {P : Prop} (h : Says o P) (h' : Says o' P) : o = o' := by
  obtain ⟨t, rfl, ht⟩ := h
  obtain ⟨t', rfl, ht'⟩ := h'
  congr 1
  cases t <;> cases t' <;> simp_all
theorem Says.true {o : Option Bool} {P : Prop} (h : Says o P) (hp : P) : o = some true := by
  obtain ⟨t, rfl, ht⟩ := h
  rw [ht.2 hp]
theorem Says.false {o : Option Bool} {P : Prop} (h : Says o P) (hp : ¬ P) : o = some false := by
  obtain ⟨t, rfl, ht⟩ := h
  cases t
  · rfl
  · exact absurd (ht.1 rfl) hp
theorem Says.of {P : Prop} [Decidable P] : Says (some (decide P)) P := ⟨_, rfl, by simp⟩
theorem scan {γ : Type} {body : Int → Option (Int ⊕ γ)} {ok bad : γ} (n : Nat) (P : Nat → Prop) (hn : n ≤ 4611686018427387904)
    (h : ∀ i : Nat, i < n → (P i ∧ body (i : Int) = some (.inl (IntKind.i64.wrap ((i : Int) + 1)))) ∨ (¬ P i ∧ body (i : Int) = some (.inr bad))) (h' : body (n : Int) = some (.inr ok)) :
    ∃ g, Fx.loop body 0 = some g ∧ ((g = ok ∧ ∀ i, i < n → P i) ∨ (g = bad ∧ ¬ ∀ i, i < n → P i)) := by
  refine count_rule (body := body) n (fun i (a : Unit) => (i : Int)) (fun i a => ∀ j, j < i → P j) _ (fun i a hi hI => ?_) (fun a hI => ⟨ok, h', .inl ⟨rfl, hI⟩⟩) n 0 () (by omega) (fun j hj => by omega)
  rcases h i hi with ⟨hp, hb⟩ | ⟨hp, hb⟩
  · left
    refine ⟨(), by rw [hb, next64 hi hn], fun j hj => ?_⟩
    by_cases e : j = i
    · subst e; exact hp
    · exact hI j (by omega)
  · exact .inr ⟨bad, hb, .inr ⟨rfl, fun k => hp (k i hi)⟩⟩
end Go.Sp
end
section
namespace Go.Sp
open Go Go.Fw Go.Fx Go.Proofs
set_option linter.unusedVariables false
set_option linter.unusedSimpArgs false
theorem all_at {X : Type} {l : List X} {Q : X → Prop} : (∀ i, i < l.length → ∀ h : i < l.length, Q l[i]) ↔ ∀ t ∈ l, Q t := by
  constructor
  · intro h t ht
    obtain ⟨i, hi, rfl⟩ := List.mem_iff_getElem.1 ht
    exact h i hi hi
  · intro h i hi _; exact h _ (List.getElem_mem hi)
def InOk (i : QInput) : Prop := i.ctx.length ≤ 65535 ∧ i.tables.length ≤ 8 ∧ ∀ t ∈ i.tables, t.length ≤ 65535
theorem r_goodIn (i : QInput) : Says (Sh.ref23_inputPlain i) (InOk i) := by
  unfold Sh.ref23_inputPlain InOk
  by_cases c1 : i.ctx.length ≤ 65535
  · have d1 : decide ((65535 : Int) < (i.ctx.length : Int)) = false := decide_eq_false (by omega)
    by_cases c2 : i.tables.length ≤ 8
    · have d2 : decide ((8 : Int) < (i.tables.length : Int)) = false := decide_eq_false (by omega)
      simp only [d1, d2, cond_false, seq_l, Sh.ref23_inputPlain_j1]
      obtain ⟨g, e1, e2⟩ := scan (body := fun (v : Int) => Sh.ref23_inputPlain_l3 i v) (ok := Sum.inl ()) (bad := Sum.inr false) i.tables.length (fun k => ∀ h : k < i.tables.length, (i.tables[k]).length ≤ 65535) (by omega) (fun k hk => by
        simp only [Sh.ref23_inputPlain_l3, lt_dec, hk, decide_true, cond_true, get_at hk, Option.bind_some]
        by_cases c3 : (i.tables[k]).length ≤ 65535
        · exact .inl ⟨fun _ => c3, by rw [decide_eq_false (by omega), cond_false]⟩
        · exact .inr ⟨fun h => c3 (h trivial), by rw [decide_eq_true (by omega), cond_true]⟩) (by simp [Sh.ref23_inputPlain_l3])
      rw [all_at (l := i.tables) (Q := fun t : List UInt8 => t.length ≤ 65535)] at e2
      rw [show Fx.loop (fun v140 => Sh.ref23_inputPlain_l3 i v140) 0 = some g from e1]
      rcases e2 with ⟨rfl, ha⟩ | ⟨rfl, ha⟩
      · exact ⟨true, rfl, by simp only [true_iff]; exact ⟨c1, c2, ha⟩⟩
      · exact ⟨false, rfl, by simp only [Bool.false_eq_true, false_iff]; exact fun h => ha h.2.2⟩
    · have d2 : decide ((8 : Int) < (i.tables.length : Int)) = true := decide_eq_true (by omega)
      exact ⟨false, by simp only [d1, d2, cond_false, seq_l, Sh.ref23_inputPlain_j1, cond_true], by simp only [Bool.false_eq_true, false_iff]; exact fun h => c2 h.2.1⟩
  · have d1 : decide ((65535 : Int) < (i.ctx.length : Int)) = true := decide_eq_true (by omega)
    exact ⟨false, by simp only [d1, cond_true, seq_l, Sh.ref23_inputPlain_j1], by simp only [Bool.false_eq_true, false_iff]; exact fun h => c1 h.1⟩
end Go.Sp
end
section
namespace Go.Sp
open Go Go.Fw Go.Fx Go.Proofs
set_option linter.unusedVariables false
set_option linter.unusedSimpArgs false
theorem pass {γ : Type} {body : Int → Option (Int ⊕ γ)} {g : γ} (n : Nat) (hn : n ≤ 4611686018427387904) (h : ∀ i : Nat, i < n → body (i : Int) = some (.inl (IntKind.i64.wrap ((i : Int) + 1)))) (h' : body (n : Int) = some (.inr g)) : Fx.loop body 0 = some g := by
  obtain ⟨g', h1, h2⟩ := count_rule (body := body) n (fun i (a : Unit) => (i : Int)) (fun i a => True) (fun g' => g' = g)
    (fun i a hi _ => .inl ⟨(), by rw [h i hi, next64 hi hn], trivial⟩) (fun a _ => ⟨g, h', rfl⟩) n 0 () (by omega) trivial
  subst h2; exact h1
def SmallM (m : QMark) : Prop := m.regs.length ≤ 1099511627776 ∧ m.slots.length ≤ 1099511627776 ∧ m.pieces.length ≤ 1099511627776 ∧ m.sent.length ≤ 1099511627776
theorem sameInts_refl {l : List Int} (h : l.length ≤ 1099511627776) : Sh.law00_SameInts l l = some true := by
  unfold Sh.law00_SameInts
  simp only [decide_true, Bool.not_true, cond_false]
  exact seq_eq (pass (g := Sum.inl ()) l.length (by omega) (fun i hi => by simp [Sh.law00_SameInts_l2, hi, get_at hi]) (by simp [Sh.law00_SameInts_l2])) rfl
theorem sameRows_refl {l : List (List UInt8)} (h : l.length ≤ 1099511627776) : Sh.law00_SameRows l l = some true := by
  unfold Sh.law00_SameRows
  simp only [decide_true, Bool.not_true, cond_false]
  exact seq_eq (pass (g := Sum.inl ()) l.length (by omega) (fun i hi => by simp [Sh.law00_SameRows_l2, hi, get_at hi, Sh.law00_SameBytes]) (by simp [Sh.law00_SameRows_l2])) rfl
theorem sameMark_refl {m : QMark} (h : SmallM m) : Sh.law23_sameMark m m = some true := by
  obtain ⟨h1, h2, h3, h4⟩ := h
  have k4 : Sh.law23_sameMark_j4 m m = some true :=
    seq_eq (pass (g := Sum.inl ()) m.pieces.length (by omega) (fun i hi => by simp [Sh.law23_sameMark_l7, hi, get_at hi, Sh.law00_SameBytes, seq_l, Sh.law23_sameMark_j8]) (by simp [Sh.law23_sameMark_l7])) rfl
  have k2 : Sh.law23_sameMark_j2 m m = some true :=
    seq_eq (pass (g := Sum.inl ()) m.slots.length (by omega) (fun i hi => by simp [Sh.law23_sameMark_l5, hi, get_at hi]) (by simp [Sh.law23_sameMark_l5])) k4
  have k1 : Sh.law23_sameMark_j1 m m false = some true :=
    seq_eq (pass (g := Sum.inl ()) m.regs.length (by omega) (fun i hi => by simp [Sh.law23_sameMark_l3, hi, get_at hi]) (by simp [Sh.law23_sameMark_l3])) k2
  unfold Sh.law23_sameMark
  simp only [decide_true, Bool.not_true, cond_false, sameInts_refl h4, Option.bind_some, seq_l, k1]
end Go.Sp
end
section
namespace Go.Sp
open Go Go.Fw Go.Fx Go.Proofs
set_option linter.unusedVariables false
set_option linter.unusedSimpArgs false
section
variable {b : List UInt8} {r r1 r2 : QReader}
theorem two {σ γ τ δ X : Type} (N n : Nat) {body1 : σ → Option (σ ⊕ γ)} {body2 : τ → Option (τ ⊕ δ)} (st1 : List X → QReader → Int → σ) (out1 : List X → QReader → γ) (st2 : List X → QCursor → Int → τ) (out2 : List X → QCursor → δ)
    (he1 : ∀ xs r m, (m = 0 ∨ r.e ≠ 0) → body1 (st1 xs r m) = some (.inr (out1 xs r)))
    (he2 : ∀ xs c i, (i = (n : Int) ∨ c.e ≠ 0) → body2 (st2 xs c i) = some (.inr (out2 xs c)))
    (hs : ∀ xs r (m i : Nat), Wf b r → r.e = 0 → m + 1 + i = n → xs.length < N → ∃ x x' r', body1 (st1 xs r ((m + 1 : Nat) : Int)) = some (.inl (st1 (xs ++ [x]) r' (m : Int))) ∧
      body2 (st2 xs (cur r) (i : Int)) = some (.inl (st2 (xs ++ [x']) (cur r') ((i + 1 : Nat) : Int))) ∧ Wf b r' ∧ (r'.e = 0 → x' = x)) :
    ∀ (m i : Nat) xs xs' r, m + i = n → Wf b r → xs.length + m ≤ N → (r.e = 0 → xs' = xs) →
      ∃ ys ys' r', loop body1 (st1 xs r (m : Int)) = some (out1 (xs ++ ys) r') ∧ loop body2 (st2 xs' (cur r) (i : Int)) = some (out2 (xs' ++ ys') (cur r')) ∧ Wf b r' ∧ (r'.e = 0 → xs' ++ ys' = xs ++ ys) := by
  intro m
  induction m with
  | zero =>
    intro i xs xs' r hi hw _ hx
    refine ⟨[], [], r, ?_, ?_, hw, fun h => by rw [hx h]⟩
    · rw [List.append_nil]; exact loop_out (he1 _ _ _ (.inl rfl))
    · rw [List.append_nil]; exact loop_out (he2 _ _ _ (.inl (by omega)))
  | succ m ih =>
    intro i xs xs' r hi hw hN hx
    by_cases he : r.e = 0
    · obtain rfl := hx he
      obtain ⟨x, x', r1, h1, h2, h3, h4⟩ := hs xs' r m i hw he hi (by omega)
      obtain ⟨ys, ys', r2, k1, k2, k3, k4⟩ := ih (i + 1) (xs' ++ [x]) (xs' ++ [x']) r1 (by omega) h3 (by simp; omega) (fun h => by rw [h4 h])
      exact ⟨x :: ys, x' :: ys', r2, loop_go h1 (by rw [k1]; simp), loop_go h2 (by rw [k2]; simp), k3, fun h => by simpa using k4 h⟩
    · refine ⟨[], [], r, ?_, ?_, hw, fun h => absurd h he⟩
      · rw [List.append_nil]; exact loop_out (he1 _ _ _ (.inr he))
      · rw [List.append_nil]; exact loop_out (he2 _ _ _ (.inr he))
theorem c1 (hb : b.length ≤ 16777216) (hw : Wf b r) {v : Int} (h : Sh.trace_reader_number r 1 = some (v, r1)) : Sh.ref23_cursor_number (cur r) 1 = some (v, cur r1) := (c_number hb hw 1 (by omega) h).1
theorem c2 (hb : b.length ≤ 16777216) (hw : Wf b r) {v : Int} (h : Sh.trace_reader_number r 2 = some (v, r1)) : Sh.ref23_cursor_number (cur r) 2 = some (v, cur r1) := (c_number hb hw 2 (by omega) h).1
theorem c4 (hb : b.length ≤ 16777216) (hw : Wf b r) {v : Int} (h : Sh.trace_reader_number r 4 = some (v, r1)) : Sh.ref23_cursor_number (cur r) 4 = some (v, cur r1) := (c_number hb hw 4 (by omega) h).1
theorem c8 (hb : b.length ≤ 16777216) (hw : Wf b r) {v : Int} (h : Sh.trace_reader_number r 8 = some (v, r1)) : Sh.ref23_cursor_number (cur r) 8 = some (v, cur r1) := (c_number hb hw 8 (by omega) h).1
end
end Go.Sp
end
section
namespace Go.Sp
open Go Go.Fw Go.Fx Go.Proofs
set_option linter.unusedVariables false
set_option linter.unusedSimpArgs false
section
variable {X S : Type} [DecidableEq X]
def scanD (f : Nat → X → X → S → S) (a b : List X) (s : S) : Nat → S
  | 0 => s
  | i + 1 => match a[i]?, b[i]? with
    | some x, some y => if x = y then scanD f a b s i else f i x y (scanD f a b s i)
    | _, _ => scanD f a b s i
def diffs (a b : List X) : Nat → List Int := scanD (fun i _ _ D => D ++ [(i : Int)]) a b []
def foldD (f : Nat → X → X → S → S) (a b : List X) (D : List Int) (s : S) : S := D.foldl (fun s j => match a[j.toNat]?, b[j.toNat]? with
    | some x, some y => f j.toNat x y s
    | _, _ => s) s
theorem scanD_at (f : Nat → X → X → S → S) {a b : List X} {i : Nat} (ha : i < a.length) (hb : i < b.length) (s : S) : scanD f a b s (i + 1) = if a[i] = b[i] then scanD f a b s i else f i a[i] b[i] (scanD f a b s i) := by
  simp only [scanD, List.getElem?_eq_getElem ha, List.getElem?_eq_getElem hb]
theorem diffs_at {a b : List X} {i : Nat} (ha : i < a.length) (hb : i < b.length) : diffs a b (i + 1) = if a[i] = b[i] then diffs a b i else diffs a b i ++ [(i : Int)] := scanD_at _ ha hb []
theorem fold_diffs (f : Nat → X → X → S → S) {a b : List X} (s : S) (h : a.length = b.length) : ∀ n, n ≤ a.length → foldD f a b (diffs a b n) s = scanD f a b s n := by
  intro n
  induction n with
  | zero => intro _; rfl
  | succ n ih =>
    intro hn
    rw [diffs_at (by omega) (by omega), scanD_at f (by omega) (by omega)]
    split
    · exact ih (by omega)
    · rw [foldD, List.foldl_append]
      have := ih (by omega)
      rw [foldD] at this
      rw [this]
      simp [List.getElem?_eq_getElem (show n < a.length by omega), List.getElem?_eq_getElem (show n < b.length by omega)]
theorem diffs_len {a b : List X} (h : a.length = b.length) : ∀ n, n ≤ a.length → (diffs a b n).length ≤ n := by
  intro n
  induction n with
  | zero => intro _; exact Nat.le_refl _
  | succ n ih =>
    intro hn
    rw [diffs_at (by omega) (by omega)]
    have := ih (by omega)
    split
    · omega
    · simp; omega
theorem diffs_mem {a b : List X} (h : a.length = b.length) : ∀ n, n ≤ a.length → ∀ j ∈ diffs a b n, ∃ k : Nat, j = (k : Int) ∧ k < n := by
  intro n
  induction n with
  | zero => intro _ j hj; cases hj
  | succ n ih =>
    intro hn j hj
    rw [diffs_at (by omega) (by omega)] at hj
    split at hj
    · obtain ⟨k, e, hk⟩ := ih (by omega) j hj; exact ⟨k, e, by omega⟩
    · rcases List.mem_append.1 hj with hj | hj
      · obtain ⟨k, e, hk⟩ := ih (by omega) j hj; exact ⟨k, e, by omega⟩
      · exact ⟨n, by simpa using hj, by omega⟩
theorem diffs_at_k {a b : List X} (h : a.length = b.length) {k : Nat} (hk : k < (diffs a b a.length).length) : ∃ j : Nat, (diffs a b a.length)[k] = (j : Int) ∧ j < a.length ∧ j < b.length := by
  obtain ⟨j, e, hj⟩ := diffs_mem h a.length (Nat.le_refl _) _ (List.getElem_mem hk)
  exact ⟨j, e, hj, h ▸ hj⟩
end
theorem fold_step {X S : Type} (f : Nat → X → X → S → S) {a b : List X} (s : S) {D : List Int} {k j : Nat} (hk : k < D.length) (hj : D[k] = (j : Int)) (ha : j < a.length) (hb : j < b.length) : foldD f a b (D.take (k + 1)) s = f j a[j] b[j] (foldD f a b (D.take k) s) := by
  rw [List.take_add_one, List.getElem?_eq_getElem hk, foldD, List.foldl_append, hj]
  simp [List.getElem?_eq_getElem ha, List.getElem?_eq_getElem hb, foldD]
theorem val8 (x y : UInt8) : decide ((x.toNat : Int) = (y.toNat : Int)) = decide (x = y) := by
  by_cases h : x = y
  · subst h; simp
  · have : x.toNat ≠ y.toNat := fun e => h (UInt8.toNat_inj.1 e)
    simp [h]; omega
theorem changedB {a b : List UInt8} (h : a.length = b.length) (hn : a.length ≤ 1099511627776) : Sh.trace_changed_byte a b = some (diffs a b a.length) := by
  have key := count_rule (body := fun (s : List Int × Int) => Sh.trace_changed_byte_l2 a b s.1 s.2) a.length (fun i D => (D, (i : Int))) (fun i D => D = diffs a b i) (fun g => g = .inl (diffs a b a.length))
    (by
      intro i D hi hI
      subst hI
      refine .inl ⟨_, ?_, rfl⟩
      have hb : i < b.length := by omega
      have hl := diffs_len h i (by omega)
      simp only [Sh.trace_changed_byte_l2, lt_dec, hi, decide_true, cond_true, get_at hi, get_at hb, Option.bind_some, val8]
      rw [diffs_at hi hb]
      by_cases e : a[i] = b[i]
      · simp only [e, decide_true, Bool.not_true, cond_false, seq_l, Sh.trace_changed_byte_j3, next64 hi (by omega), if_true]
      · simp only [e, decide_false, Bool.not_false, cond_true, Sh.trace_changed_byte_j3, next64 hi (by omega), if_false, app_ok (l := diffs a b i) (m := [(i : Int)]) (bytes := 8) (by simp; omega) (by simp; omega), Option.bind_some, seq_l])
    (by
      intro D hI
      subst hI
      exact ⟨_, by simp [Sh.trace_changed_byte_l2], rfl⟩) a.length 0 [] (by omega) rfl
  obtain ⟨g, hg, e⟩ := key
  subst e
  unfold Sh.trace_changed_byte
  exact seq_eq hg rfl
theorem changedV {a b : List LVal} (h : a.length = b.length) (hn : a.length ≤ 1099511627776) : Sh.trace_changed_api_Value a b = some (diffs a b a.length) := by
  have key := count_rule (body := fun (s : List Int × Int) => Sh.trace_changed_api_Value_l2 a b s.1 s.2) a.length (fun i D => (D, (i : Int))) (fun i D => D = diffs a b i) (fun g => g = .inl (diffs a b a.length))
    (by
      intro i D hi hI
      subst hI
      refine .inl ⟨_, ?_, rfl⟩
      have hb : i < b.length := by omega
      have hl := diffs_len h i (by omega)
      simp only [Sh.trace_changed_api_Value_l2, lt_dec, hi, decide_true, cond_true, get_at hi, get_at hb, Option.bind_some]
      rw [diffs_at hi hb]
      by_cases e : a[i] = b[i]
      · simp only [e, decide_true, Bool.not_true, cond_false, seq_l, Sh.trace_changed_api_Value_j3, next64 hi (by omega), if_true]
      · simp only [e, decide_false, Bool.not_false, cond_true, Sh.trace_changed_api_Value_j3, next64 hi (by omega), if_false, app_ok (l := diffs a b i) (m := [(i : Int)]) (bytes := 8) (by simp; omega) (by simp; omega), Option.bind_some, seq_l])
    (by
      intro D hI
      subst hI
      exact ⟨_, by simp [Sh.trace_changed_api_Value_l2], rfl⟩) a.length 0 [] (by omega) rfl
  obtain ⟨g, hg, e⟩ := key
  subst e
  unfold Sh.trace_changed_api_Value
  exact seq_eq hg rfl
theorem changedS {a b : List LSlot} (h : a.length = b.length) (hn : a.length ≤ 1099511627776) : Sh.trace_changed_api_Slot a b = some (diffs a b a.length) := by
  have key := count_rule (body := fun (s : List Int × Int) => Sh.trace_changed_api_Slot_l2 a b s.1 s.2) a.length (fun i D => (D, (i : Int))) (fun i D => D = diffs a b i) (fun g => g = .inl (diffs a b a.length))
    (by
      intro i D hi hI
      subst hI
      refine .inl ⟨_, ?_, rfl⟩
      have hb : i < b.length := by omega
      have hl := diffs_len h i (by omega)
      simp only [Sh.trace_changed_api_Slot_l2, lt_dec, hi, decide_true, cond_true, get_at hi, get_at hb, Option.bind_some]
      rw [diffs_at hi hb]
      by_cases e : a[i] = b[i]
      · simp only [e, decide_true, Bool.not_true, cond_false, seq_l, Sh.trace_changed_api_Slot_j3, next64 hi (by omega), if_true]
      · simp only [e, decide_false, Bool.not_false, cond_true, Sh.trace_changed_api_Slot_j3, next64 hi (by omega), if_false, app_ok (l := diffs a b i) (m := [(i : Int)]) (bytes := 8) (by simp; omega) (by simp; omega), Option.bind_some, seq_l])
    (by
      intro D hI
      subst hI
      exact ⟨_, by simp [Sh.trace_changed_api_Slot_l2], rfl⟩) a.length 0 [] (by omega) rfl
  obtain ⟨g, hg, e⟩ := key
  subst e
  unfold Sh.trace_changed_api_Slot
  exact seq_eq hg rfl
def ext (t : Int) (i : Nat) (x y : UInt8) (P : List QPiece) : List QPiece := match P.getLast? with
  | some p => if p.from_ + (p.old.length : Int) = (i : Int) then P.dropLast ++ [⟨p.table, p.from_, p.old ++ [x], p.new ++ [y]⟩] else P ++ [⟨t, (i : Int), [x], [y]⟩]
  | none => P ++ [⟨t, (i : Int), [x], [y]⟩]
def grow (t : Int) (a b : List UInt8) : Nat → List QPiece := scanD (ext t) a b []
theorem ext_nil (t : Int) (i : Nat) (x y : UInt8) : ext t i x y [] = [⟨t, (i : Int), [x], [y]⟩] := rfl
theorem ext_last (t : Int) (i : Nat) (x y : UInt8) (Q : List QPiece) (p : QPiece) : ext t i x y (Q ++ [p]) = if p.from_ + (p.old.length : Int) = (i : Int) then Q ++ [⟨p.table, p.from_, p.old ++ [x], p.new ++ [y]⟩] else Q ++ [p] ++ [⟨t, (i : Int), [x], [y]⟩] := by
  simp [ext]
theorem snoc_or {X : Type} (l : List X) : l = [] ∨ ∃ q x, l = q ++ [x] := by
  rcases List.eq_nil_or_concat l with h | ⟨q, x, h⟩
  · exact .inl h
  · exact .inr ⟨q, x, by simpa using h⟩
structure Lie (t : Int) (i : Nat) (P : List QPiece) : Prop where
  few : P.length ≤ i
  each : ∀ p ∈ P, p.table = t ∧ 0 ≤ p.from_ ∧ p.from_ + (p.old.length : Int) ≤ (i : Int) ∧ p.new.length = p.old.length
theorem ext_lie {t : Int} {i j : Nat} {x y : UInt8} {P : List QPiece} (h : Lie t i P) (hj : i ≤ j) : Lie t (j + 1) (ext t j x y P) := by
  obtain ⟨h1, h2⟩ := h
  rcases snoc_or P with rfl | ⟨Q, p, rfl⟩
  · rw [ext_nil]
    refine ⟨by simp, ?_⟩
    intro q hq
    simp at hq; subst hq
    simp
  · rw [ext_last]
    simp only [List.length_append, List.length_cons, List.length_nil] at h1
    have hp := h2 p (by simp)
    split
    · refine ⟨by simp; omega, ?_⟩
      intro q hq
      rcases List.mem_append.1 hq with hq | hq
      · obtain ⟨a1, a2, a3, a4⟩ := h2 q (by simp [hq]); exact ⟨a1, a2, by omega, a4⟩
      · simp at hq; subst hq; simp; refine ⟨hp.1, hp.2.1, by omega, hp.2.2.2⟩
    · refine ⟨by simp; omega, ?_⟩
      intro q hq
      rcases List.mem_append.1 hq with hq | hq
      · obtain ⟨a1, a2, a3, a4⟩ := h2 q hq; exact ⟨a1, a2, by omega, a4⟩
      · simp at hq; subst hq; simp
theorem Lie.mono {t : Int} {i j : Nat} {P : List QPiece} (h : Lie t i P) (hj : i ≤ j) : Lie t j P := ⟨by have := h.few; omega, fun p hp => by obtain ⟨a1, a2, a3, a4⟩ := h.each p hp; exact ⟨a1, a2, by omega, a4⟩⟩
theorem grow_lie (t : Int) {a b : List UInt8} (h : a.length = b.length) : ∀ n, n ≤ a.length → Lie t n (grow t a b n) := by
  intro n
  induction n with
  | zero => intro _; exact ⟨Nat.le_refl _, fun p hp => by cases hp⟩
  | succ n ih =>
    intro hn
    unfold grow
    rw [scanD_at _ (by omega) (by omega)]
    split
    · exact (ih (by omega)).mono (by omega)
    · exact ext_lie (ih (by omega)) (Nat.le_refl _)
theorem grow_ends (t : Int) {a b : List UInt8} (h : a.length = b.length) {n : Nat} (hn : n < a.length) (e : a[n] ≠ b[n]'(h ▸ hn)) : ∃ Q p, grow t a b (n + 1) = Q ++ [p] ∧ p.from_ + (p.old.length : Int) = ((n + 1 : Nat) : Int) := by
  unfold grow
  rw [scanD_at _ hn (h ▸ hn), if_neg e]
  rcases snoc_or (scanD (ext t) a b [] n) with e' | ⟨Q, p, e'⟩
  · rw [e', ext_nil]; exact ⟨[], _, rfl, by simp⟩
  · rw [e', ext_last]
    split
    · rename_i hp
      exact ⟨_, _, rfl, by simp; omega⟩
    · exact ⟨_, _, rfl, by simp⟩
theorem grow_not (t : Int) {a b : List UInt8} (h : a.length = b.length) {n : Nat} (hn : n < a.length) (e : a[n] = b[n]'(h ▸ hn)) : ∀ p ∈ grow t a b (n + 1), p.from_ + (p.old.length : Int) ≠ ((n + 1 : Nat) : Int) := by
  intro p hp
  unfold grow at hp
  rw [scanD_at _ hn (h ▸ hn), if_pos e] at hp
  have := ((grow_lie t h n (by omega)).each p hp).2.2.1
  omega
end Go.Sp
end
section
namespace Go.Sp
open Go Go.Fw Go.Fx Go.Proofs
set_option linter.unusedVariables false
set_option linter.unusedSimpArgs false
theorem last_w {X : Type} (Q : List X) (p : X) (h : Q.length ≤ 4611686018427387904) : IntKind.i64.wrap (((Q ++ [p]).length : Int) - 1) = (Q.length : Int) := by
  have e : ((Q ++ [p]).length : Int) - 1 = (Q.length : Int) := by simp
  rw [e]; exact w64 (by omega)
theorem last_d {X : Type} (Q : List X) (p : X) : decide ((Q.length : Int) = ((Q ++ [p]).length : Int) - 1) = true := by simp
theorem last_g {X : Type} (Q : List X) (p : X) : Fx.get (Q ++ [p]) (Q.length : Int) = some p := by simp [Fx.get]
theorem last_s {X : Type} (Q : List X) (p q : X) : (Q ++ [p]).set ((Q.length : Int)).toNat q = Q ++ [q] := by simp
theorem last_0 {X : Type} (Q : List X) : decide (0 ≤ (Q.length : Int)) = true := by simp
structure Wk (n k : Nat) (P : List QPiece) : Prop where
  few : P.length ≤ k
  each : ∀ p ∈ P, (0 ≤ p.from_ ∧ p.from_ ≤ (n : Int)) ∧ p.old.length ≤ k ∧ p.new.length ≤ k
theorem ext_wk {t : Int} {n k j : Nat} {x y : UInt8} {P : List QPiece} (h : Wk n k P) (hj : j ≤ n) : Wk n (k + 1) (ext t j x y P) := by
  obtain ⟨h1, h2⟩ := h
  rcases snoc_or P with rfl | ⟨Q, p, rfl⟩
  · rw [ext_nil]
    exact ⟨by simp, fun q hq => by simp at hq; subst hq; simp; omega⟩
  · rw [ext_last]
    simp only [List.length_append, List.length_cons, List.length_nil] at h1
    have hp := h2 p (by simp)
    split
    · refine ⟨by simp; omega, ?_⟩
      intro q hq
      rcases List.mem_append.1 hq with hq | hq
      · have := h2 q (by simp [hq]); exact ⟨this.1, by omega, by omega⟩
      · simp at hq; subst hq; simp; exact ⟨hp.1, by omega, by omega⟩
    · refine ⟨by simp; omega, ?_⟩
      intro q hq
      rcases List.mem_append.1 hq with hq | hq
      · have := h2 q hq; exact ⟨this.1, by omega, by omega⟩
      · simp at hq; subst hq; simp; omega
def someQ {X : Type} : List X → Bool
  | [] => false
  | _ :: _ => true
theorem some_snoc {X : Type} (Q : List X) (p : X) : someQ (Q ++ [p]) = true := by cases Q <;> rfl
theorem some_ext (t : Int) (i : Nat) (x y : UInt8) (P : List QPiece) : someQ (ext t i x y P) = true := by
  rcases snoc_or P with rfl | ⟨Q, p, rfl⟩
  · rfl
  · rw [ext_last]; split
    · exact some_snoc _ _
    · exact some_snoc _ _
theorem dpieces_ok (t : Int) {a b : List UInt8} (h : a.length = b.length) (hn : a.length ≤ 1099511627776) : Sh.trace_pieces t a b = some (grow t a b a.length) := by
  have hD := diffs_len h a.length (Nat.le_refl _)
  have hK := fun k hk => diffs_at_k (a := a) (b := b) h (k := k) hk
  have hF := fold_diffs (ext t) (a := a) (b := b) [] h a.length (Nat.le_refl _)
  generalize hd : diffs a b a.length = D at hD hF hK
  have key := count_rule (body := fun (s : Int × List QPiece × Bool) => Sh.trace_pieces_l2 t a b D s.1 s.2.1 s.2.2) D.length (fun k P => ((k : Int), P, someQ P)) (fun k P => P = foldD (ext t) a b (D.take k) [] ∧ Wk a.length k P) (fun g => ∃ s, g = .inl (grow t a b a.length, s))
    (by
      intro k P hk ⟨hP, hW⟩
      obtain ⟨j, ej, ja, jb⟩ := hK k hk
      refine .inl ⟨ext t j a[j] b[j] P, ?_, by rw [hP, fold_step (ext t) [] hk ej ja jb], ext_wk hW (by omega)⟩
      have hf := hW.few
      simp only [Sh.trace_pieces_l2, lt_dec, hk, decide_true, cond_true, get_at hk, Option.bind_some, ej, some_ext]
      rcases snoc_or P with e | ⟨Q, p, e⟩
      · clear hP hW
        subst e
        have e0 : decide (0 ≤ IntKind.i64.wrap (((([] : List QPiece).length : Nat) : Int) - 1)) = false := by
          rw [w64 (by simp)]; simp
        simp only [e0, cond_false, seq_l, Sh.trace_pieces_j4, get_at ja, get_at jb, Option.bind_some, app_ok (l := ([] : List QPiece)) (m := [QPiece.mk t (j : Int) [a[j]] [b[j]]]) (bytes := 64) (by simp) (by simp), Sh.trace_pieces_j3, next64 hk (by omega), List.nil_append, ext_nil]
      · have hp := hW.each p (by rw [e]; simp)
        clear hP
        subst e
        simp only [List.length_append, List.length_cons, List.length_nil] at hf
        have hQ : Q.length ≤ 4611686018427387904 := by omega
        have ew : IntKind.i64.wrap (p.from_ + (p.old.length : Int)) = p.from_ + (p.old.length : Int) := w64 (by omega)
        simp only [last_w Q p hQ, last_0, cond_true, last_g, Option.bind_some, seq_l, ew, ext_last, some_snoc]
        by_cases hc : p.from_ + (p.old.length : Int) = (j : Int)
        · simp only [hc, decide_true, Sh.trace_pieces_j4, cond_true, last_w Q p hQ, last_g, Option.bind_some, get_at ja, get_at jb, last_d, Fx.must, last_s, if_true,
            app_ok (l := p.old) (m := [a[j]]) (bytes := 1) (by simp; omega) (by simp; omega), app_ok (l := p.new) (m := [b[j]]) (bytes := 1) (by simp; omega) (by simp; omega), seq_l, Sh.trace_pieces_j5, Sh.trace_pieces_j3, next64 hk (by omega)]
        · simp only [hc, decide_false, Sh.trace_pieces_j4, cond_false, get_at ja, get_at jb, Option.bind_some, if_false, app_ok (l := Q ++ [p]) (m := [QPiece.mk t (j : Int) [a[j]] [b[j]]]) (bytes := 64) (by simp; omega) (by simp; omega), seq_l, Sh.trace_pieces_j3, next64 hk (by omega)])
    (by
      intro P ⟨hP, hW⟩
      rw [List.take_length, hF] at hP
      exact ⟨.inl (P, someQ P), by simp [Sh.trace_pieces_l2], someQ P, by rw [hP]; rfl⟩) D.length 0 [] (by omega) ⟨by simp [foldD], ⟨Nat.le_refl _, fun p hp => by cases hp⟩⟩
  obtain ⟨g, hg, s, e⟩ := key
  subst e
  unfold Sh.trace_pieces
  rw [changedB h hn, Option.bind_some, hd]
  exact seq_eq hg rfl
theorem dunlike_ok (rows : List QPiece) (t : Int) {a b : List UInt8} (h : a.length = b.length) (hn : a.length ≤ 1099511627776) (hr : rows.length ≤ 1099511627776) : Sh.ref23_unlike rows t a b = some (rows ++ grow t a b a.length) := by
  have key := count_rule (body := fun (s : List QPiece × Bool × Int) => Sh.ref23_unlike_l2 t a b s.1 s.2.1 s.2.2) a.length (fun i (_ : Unit) => (rows ++ grow t a b i, someQ (grow t a b i), (i : Int))) (fun i _ => True) (fun g => ∃ s, g = .inl (rows ++ grow t a b a.length, s))
    (by
      intro i _ ha _
      have hb : i < b.length := h ▸ ha
      refine .inl ⟨(), ?_, trivial⟩
      have hl := grow_lie t h i (by omega)
      have hf := hl.few
      have hs : grow t a b (i + 1) = if a[i] = b[i] then grow t a b i else ext t i a[i] b[i] (grow t a b i) := scanD_at _ ha hb []
      simp only [Sh.ref23_unlike_l2, lt_dec, ha, decide_true, cond_true, get_at ha, get_at hb, Option.bind_some, val8]
      rw [hs]
      by_cases e : a[i] = b[i]
      · simp only [e, decide_true, cond_true, seq_l, Sh.ref23_unlike_j3, next64 ha (by omega), if_true]
      · simp only [e, decide_false, cond_false, if_false]
        have fresh : (∀ p ∈ grow t a b i, p.from_ + (p.old.length : Int) ≠ (i : Int)) → ext t i a[i] b[i] (grow t a b i) = grow t a b i ++ [⟨t, (i : Int), [a[i]], [b[i]]⟩] := by
          intro k
          rcases snoc_or (grow t a b i) with e' | ⟨Q, p, e'⟩
          · rw [e']; rfl
          · rw [e', ext_last, if_neg (k p (by rw [e']; simp))]
        have one : (∀ p ∈ grow t a b i, p.from_ + (p.old.length : Int) ≠ (i : Int)) → Fx.seq (Sh.ref23_unlike_j4 t a b (rows ++ grow t a b i) (someQ (grow t a b i)) (i : Int) false) (fun (x : List QPiece × Bool) => Sh.ref23_unlike_j3 (i : Int) x.1 x.2) = some (.inl (rows ++ ext t i a[i] b[i] (grow t a b i), someQ (ext t i a[i] b[i] (grow t a b i)), ((i + 1 : Nat) : Int))) := by
          intro k
          simp only [Sh.ref23_unlike_j4, cond_false, get_at ha, get_at hb, Option.bind_some, app_ok (l := rows ++ grow t a b i) (m := [QPiece.mk t (i : Int) [a[i]] [b[i]]]) (bytes := 64) (by simp; omega) (by simp; omega), seq_l, Sh.ref23_unlike_j3, next64 ha (by omega), some_ext]
          rw [fresh k, List.append_assoc]
        rcases Nat.eq_zero_or_pos i with rfl | hi
        · have e0 : decide (0 < ((0 : Nat) : Int)) = false := by simp
          simp only [e0, cond_false, seq_l]
          exact one (fun p hp => by cases hp)
        · obtain ⟨m, rfl⟩ : ∃ m, i = m + 1 := ⟨i - 1, by omega⟩
          have hm : m < a.length := by omega
          have hm' : m < b.length := by omega
          have e0 : decide (0 < ((m + 1 : Nat) : Int)) = true := decide_eq_true (by omega)
          have e1 : IntKind.i64.wrap (((m + 1 : Nat) : Int) - 1) = ((m : Nat) : Int) := by
            have : ((m + 1 : Nat) : Int) - 1 = ((m : Nat) : Int) := by omega
            rw [this]; exact w64 (by omega)
          simp only [e0, cond_true, e1, get_at hm, get_at hm', Option.bind_some, seq_l, val8]
          by_cases e2 : a[m] = b[m]
          · simp only [e2, decide_true, Bool.not_true]
            exact one (grow_not t h hm e2)
          · simp only [e2, decide_false, Bool.not_false]
            obtain ⟨Q, p, eg, ep⟩ := grow_ends t h hm e2
            have hp := hl.each p (by rw [eg]; simp)
            rw [eg] at hf
            simp only [List.length_append, List.length_cons, List.length_nil] at hf
            rw [eg, ext_last, if_pos ep, ← List.append_assoc, ← List.append_assoc]
            have hQ : (rows ++ Q).length ≤ 4611686018427387904 := by simp; omega
            simp only [Sh.ref23_unlike_j4, cond_true, last_w (rows ++ Q) p hQ, last_g, Option.bind_some, get_at ha, get_at hb, last_d, Fx.must, last_s, some_snoc, decide_true,
              app_ok (l := p.old) (m := [a[m + 1]]) (bytes := 1) (by simp; omega) (by simp; omega), app_ok (l := p.new) (m := [b[m + 1]]) (bytes := 1) (by simp; omega) (by simp; omega), seq_l, Sh.ref23_unlike_j3, next64 ha (by omega), hp.1])
    (by
      intro _ _
      exact ⟨.inl (rows ++ grow t a b a.length, someQ (grow t a b a.length)), by simp [Sh.ref23_unlike_l2], _, rfl⟩) a.length 0 () (by omega) trivial
  obtain ⟨g, hg, s, e⟩ := key
  subst e
  unfold Sh.ref23_unlike
  refine seq_eq (o := .inl (rows ++ grow t a b a.length, s)) ?_ rfl
  have : (rows ++ grow t a b 0, someQ (grow t a b 0), ((0 : Nat) : Int)) = (rows, false, (0 : Int)) := by simp [grow, scanD, someQ]
  rw [this] at hg
  exact hg
end Go.Sp
end
section
namespace Go.Sp
open Go Go.Fw Go.Fx Go.Proofs
set_option linter.unusedVariables false
set_option linter.unusedSimpArgs false
structure SmallS (x : QState) : Prop where
  ctx : x.ctx.length ≤ 1099511627776
  tables : x.tables.length ≤ 1099511627776
  each : ∀ t ∈ x.tables, t.length ≤ 1099511627776
  sent : x.sent.length ≤ 1099511627776
def PlainS (x : QState) : Prop := (0 ≤ x.at_ ∧ x.at_ ≤ 4095) ∧ (0 ≤ x.steps ∧ x.steps ≤ 4294967296) ∧ InOk ⟨x.ctx, x.tables⟩
theorem t_plainS (x : QState) : Says (Sh.trace_plainState x) (PlainS x) := by
  unfold Sh.trace_plainState PlainS InOk
  simp only [within_eq, Option.bind_some]
  by_cases c1 : 0 ≤ x.at_ ∧ x.at_ ≤ 4095
  · by_cases c2 : 0 ≤ x.steps ∧ x.steps ≤ 4294967296
    · rw [decide_eq_true c1, decide_eq_true c2]
      simp only [cond_true]
      by_cases c3 : x.ctx.length ≤ 65535
      · have d3 : decide ((65535 : Int) < (x.ctx.length : Int)) = false := decide_eq_false (by omega)
        by_cases c4 : x.tables.length ≤ 8
        · have d4 : decide ((x.tables.length : Int) ≤ 8) = true := decide_eq_true (by omega)
          simp only [d3, seq_l, Sh.trace_plainState_c4, Bool.not_false, cond_true, d4]
          obtain ⟨g, e1, e2⟩ := count_rule (body := fun (v : Int) => Sh.trace_plainState_l8 x v) x.tables.length (fun k (a : Unit) => (k : Int)) (fun k a => ∀ j, j < k → ∀ h : j < x.tables.length, (x.tables[j]).length ≤ 65535)
            (fun g => (g = Sum.inl () ∧ ∀ t ∈ x.tables, t.length ≤ 65535) ∨ (∃ k : Nat, g = Sum.inr (Sum.inl (k : Int))) ∧ ¬ ∀ t ∈ x.tables, t.length ≤ 65535)
            (fun k a hk hI => by
              simp only [Sh.trace_plainState_l8, lt_dec, hk, decide_true, cond_true, get_at hk, Option.bind_some, seq_l, Sh.trace_plainState_c9]
              by_cases c3 : (x.tables[k]).length ≤ 65535
              · left
                have d3 : decide ((65535 : Int) < ((x.tables[k]).length : Int)) = false := decide_eq_false (by omega)
                refine ⟨(), by rw [d3, cond_false, next64 hk (by omega)], fun j hj h => ?_⟩
                by_cases e : j = k
                · subst e; exact c3
                · exact hI j (by omega) h
              · right
                have d3 : decide ((65535 : Int) < ((x.tables[k]).length : Int)) = true := decide_eq_true (by omega)
                exact ⟨_, by rw [d3, cond_true], .inr ⟨⟨k, rfl⟩, fun h => c3 (h _ (List.getElem_mem hk))⟩⟩)
            (fun a hI => ⟨Sum.inl (), by simp [Sh.trace_plainState_l8], .inl ⟨rfl, all_at.1 hI⟩⟩) x.tables.length 0 () (by omega) (fun j hj => by omega)
          rw [show Fx.loop (fun v11504 => Sh.trace_plainState_l8 x v11504) 0 = some g from e1]
          rcases e2 with ⟨rfl, ha⟩ | ⟨⟨k, rfl⟩, ha⟩
          · exact ⟨true, rfl, by simp only [true_iff]; exact ⟨c1, c2, c3, c4, ha⟩⟩
          · refine ⟨false, ?_, by simp only [Bool.false_eq_true, false_iff]; exact fun h => ha h.2.2.2.2⟩
            have dk : decide (0 ≤ (k : Int)) = true := decide_eq_true (by omega)
            simp only [seq_r, seq_l, Sh.trace_plainState_c6, dk, Sh.trace_plainState_c5, Sh.trace_plainState_j3, Sh.trace_plainState_c2, Sh.trace_plainState_j1, Bool.not_true]
        · have d4 : decide ((x.tables.length : Int) ≤ 8) = false := decide_eq_false (by omega)
          exact ⟨false, by simp only [d3, seq_l, Sh.trace_plainState_c4, Bool.not_false, cond_true, d4, cond_false, Sh.trace_plainState_j3, Sh.trace_plainState_c2, Sh.trace_plainState_j1], by simp only [Bool.false_eq_true, false_iff]; exact fun h => c4 h.2.2.2.1⟩
      · have d3 : decide ((65535 : Int) < (x.ctx.length : Int)) = true := decide_eq_true (by omega)
        exact ⟨false, by simp only [d3, seq_l, Sh.trace_plainState_c4, Bool.not_true, cond_false, Sh.trace_plainState_j3, Sh.trace_plainState_c2, Sh.trace_plainState_j1], by simp only [Bool.false_eq_true, false_iff]; exact fun h => c3 h.2.2.1⟩
    · rw [decide_eq_true c1, decide_eq_false c2]
      exact ⟨false, rfl, by simp only [Bool.false_eq_true, false_iff]; exact fun h => c2 h.2.1⟩
  · rw [decide_eq_false c1]
    exact ⟨false, rfl, by simp only [Bool.false_eq_true, false_iff]; exact fun h => c1 h.1⟩
theorem r_plainS (x : QState) : Says (Sh.ref23_statePlain x) (PlainS x) := by
  unfold Sh.ref23_statePlain PlainS
  simp only [rwithin_eq, Option.bind_some]
  by_cases c1 : 0 ≤ x.at_ ∧ x.at_ ≤ 4095
  · by_cases c2 : 0 ≤ x.steps ∧ x.steps ≤ 4294967296
    · rw [decide_eq_true c1, decide_eq_true c2]
      obtain ⟨t, ht, hi⟩ := r_goodIn ⟨x.ctx, x.tables⟩
      simp only [cond_true, ht, Option.bind_some, seq_l, Sh.ref23_statePlain_j1]
      exact ⟨t, rfl, hi.trans ⟨fun h => ⟨c1, c2, h⟩, fun h => h.2.2⟩⟩
    · rw [decide_eq_true c1, decide_eq_false c2]
      exact ⟨false, rfl, by simp only [Bool.false_eq_true, false_iff]; exact fun h => c2 h.2.1⟩
  · rw [decide_eq_false c1]
    exact ⟨false, rfl, by simp only [Bool.false_eq_true, false_iff]; exact fun h => c1 h.1⟩
def SameLens (x y : QState) : Prop := ∀ i, i < x.tables.length → ∀ (h : i < x.tables.length) (k : i < y.tables.length), (x.tables[i]).length = (y.tables[i]).length
def Sent0 (x y : QState) : Prop := ∀ i, i < x.sent.length → ∀ (h : i < x.sent.length) (k : i < y.sent.length), x.sent[i] = y.sent[i]
structure Beh (x y : QState) : Prop where
  notDone : x.done = false
  steps : y.steps = IntKind.i64.wrap (x.steps + 1)
  ctx : x.ctx.length = y.ctx.length
  tables : x.tables.length = y.tables.length
  lens : SameLens x y
  sent1 : x.sent.length ≤ y.sent.length
  sent2 : y.sent.length ≤ x.sent.length + 1
  sent : Sent0 x y
theorem t_behind (x y : QState) (hx : SmallS x) (hy : SmallS y) : Says (Sh.trace_behind x y) (Beh x y) := by
  have no : ∀ P : Prop, (P → False) → Says (some false) P := fun P h => ⟨false, rfl, by simp only [Bool.false_eq_true, false_iff]; exact h⟩
  unfold Sh.trace_behind
  cases c1 : x.done
  case true => exact no _ fun h => by have := h.notDone; rw [c1] at this; cases this
  simp only [cond_false]
  by_cases c2 : y.steps = IntKind.i64.wrap (x.steps + 1)
  case neg => rw [decide_eq_false c2]; exact no _ fun h => c2 h.steps
  rw [decide_eq_true c2]
  simp only [Bool.not_true, cond_false]
  by_cases c3 : x.ctx.length = y.ctx.length
  case neg => rw [decide_eq_false (by omega)]; exact no _ fun h => c3 h.ctx
  rw [decide_eq_true (by omega)]
  simp only [Bool.not_true, cond_false]
  by_cases c4 : x.tables.length = y.tables.length
  case neg => rw [decide_eq_false (by omega)]; exact no _ fun h => c4 h.tables
  rw [decide_eq_true (by omega)]
  simp only [Bool.not_true, seq_l, Sh.trace_behind_j1, cond_false]
  have hxt := hx.tables
  have hxs := hx.sent
  have hys := hy.sent
  obtain ⟨g, e1, e2⟩ := scan (body := fun (v : Int) => Sh.trace_behind_l3 x y v) (ok := Sum.inl ()) (bad := Sum.inr false) x.tables.length (fun i => ∀ (h : i < x.tables.length) (k : i < y.tables.length), (x.tables[i]).length = (y.tables[i]).length) (by omega) (fun i hi => by
    have hj : i < y.tables.length := by omega
    simp only [Sh.trace_behind_l3, lt_dec, hi, decide_true, cond_true, get_at hi, get_at hj, Option.bind_some]
    by_cases c : (x.tables[i]).length = (y.tables[i]).length
    · exact .inl ⟨fun _ _ => c, by rw [decide_eq_true (by omega)]; rfl⟩
    · exact .inr ⟨fun h => c (h trivial hj), by rw [decide_eq_false (by omega)]; rfl⟩) (by simp [Sh.trace_behind_l3])
  rw [show Fx.loop (fun v988 => Sh.trace_behind_l3 x y v988) 0 = some g from e1]
  rcases e2 with ⟨rfl, c5⟩ | ⟨rfl, c5⟩
  case inr => exact no _ fun h => c5 h.lens
  simp only [seq_l, Sh.trace_behind_j2, within_eq, Option.bind_some]
  have ew : IntKind.i64.wrap ((y.sent.length : Int) - (x.sent.length : Int)) = (y.sent.length : Int) - (x.sent.length : Int) := w64 (by omega)
  rw [ew]
  by_cases c6 : x.sent.length ≤ y.sent.length ∧ y.sent.length ≤ x.sent.length + 1
  case neg => rw [decide_eq_false (by omega)]; exact no _ fun h => c6 ⟨h.sent1, h.sent2⟩
  rw [decide_eq_true (by omega)]
  have es : Fx.slc y.sent 0 (x.sent.length : Int) = some (y.sent.take x.sent.length) := by
    unfold Fx.slc
    rw [if_pos (by omega)]
    simp
  have el : ((y.sent.take x.sent.length).length : Int) = (x.sent.length : Int) := by simp; omega
  simp only [cond_true, es, Option.bind_some, el, decide_true, Bool.not_true, cond_false]
  obtain ⟨g, e1, e2⟩ := scan (body := fun (v : Int) => Sh.trace_behind_l7 x (y.sent.take x.sent.length) v) (ok := Sum.inl ()) (bad := Sum.inr (Sum.inl false)) x.sent.length (fun i => ∀ (h : i < x.sent.length) (k : i < y.sent.length), x.sent[i] = y.sent[i]) (by omega) (fun i hi => by
    have hj : i < y.sent.length := by omega
    have hk : i < (y.sent.take x.sent.length).length := by omega
    simp only [Sh.trace_behind_l7, lt_dec, hi, decide_true, cond_true, get_at hi, get_at hk, Option.bind_some, List.getElem_take]
    by_cases c : x.sent[i] = y.sent[i]
    · exact .inl ⟨fun _ _ => c, by rw [decide_eq_true c]; rfl⟩
    · exact .inr ⟨fun h => c (h trivial hj), by rw [decide_eq_false c]; rfl⟩) (by simp [Sh.trace_behind_l7])
  rw [show Fx.loop (fun v1700 => Sh.trace_behind_l7 x (y.sent.take x.sent.length) v1700) 0 = some g from e1]
  rcases e2 with ⟨rfl, c7⟩ | ⟨rfl, c7⟩
  · exact ⟨true, rfl, by simp only [true_iff]; exact ⟨c1, c2, c3, c4, c5, c6.1, c6.2, c7⟩⟩
  · exact no _ fun h => c7 h.sent
def turnD (i : Nat) (a b : LVal) (T : List LTurn) : List LTurn := T ++ [⟨(i : Int), a, b⟩]
def cellD (i : Nat) (a b : LSlot) (T : List LCell) : List LCell := T ++ [⟨(i : Int), a, b⟩]
theorem scan_len {X Y : Type} [DecidableEq X] {f : Nat → X → X → List Y → List Y} (hf : ∀ i a b T, (f i a b T).length ≤ T.length + 1) {a b : List X} (h : a.length = b.length) : ∀ n, n ≤ a.length → (scanD f a b [] n).length ≤ n := by
  intro n
  induction n with
  | zero => intro _; exact Nat.le_refl _
  | succ n ih =>
    intro hn
    rw [scanD_at f (by omega) (by omega)]
    have := ih (by omega)
    split
    · omega
    · exact Nat.le_trans (hf _ _ _ _) (by omega)
theorem dt_regs (x y : QState) : Fx.loop (fun (v : List LTurn × Int) => Sh.trace_Diff_l3 x y (diffs x.regs.l y.regs.l x.regs.l.length) v.1 v.2) ([], 0) = some (.inl (scanD turnD x.regs.l y.regs.l [] 11)) := by
  have h : x.regs.l.length = y.regs.l.length := by rw [x.regs.len, y.regs.len]
  have h11 := x.regs.len
  have hD := diffs_len h x.regs.l.length (Nat.le_refl _)
  have hK := fun k hk => diffs_at_k h (k := k) hk
  have hF := fold_diffs turnD [] h x.regs.l.length (Nat.le_refl _)
  generalize hd : diffs x.regs.l y.regs.l x.regs.l.length = D at hD hK hF
  obtain ⟨g, hg, e⟩ := count_rule (body := fun (v : List LTurn × Int) => Sh.trace_Diff_l3 x y D v.1 v.2) D.length (fun k T => (T, (k : Int))) (fun k T => T = foldD turnD x.regs.l y.regs.l (D.take k) [] ∧ T.length ≤ k) (fun g => g = .inl (scanD turnD x.regs.l y.regs.l [] x.regs.l.length))
    (by
      intro k T hk ⟨hT, hl⟩
      obtain ⟨j, ej, ja, jb⟩ := hK k hk
      refine .inl ⟨turnD j x.regs.l[j] y.regs.l[j] T, ?_, by rw [hT, fold_step turnD [] hk ej ja jb], by simp [turnD]; omega⟩
      simp only [Sh.trace_Diff_l3, lt_dec, hk, decide_true, cond_true, get_at hk, Option.bind_some, ej, get_at ja, get_at jb, app_ok (l := T) (m := [LTurn.mk (j : Int) x.regs.l[j] y.regs.l[j]]) (bytes := 72) (by simp; omega) (by simp; omega), next64 hk (by omega), turnD])
    (by
      intro T ⟨hT, hl⟩
      rw [List.take_length, hF] at hT
      exact ⟨.inl T, by simp [Sh.trace_Diff_l3], by rw [hT]⟩) D.length 0 [] (by omega) ⟨by simp [foldD], Nat.le_refl _⟩
  subst e
  rw [h11] at hg
  exact hg
theorem dr_regs (x y : QState) : Fx.loop (fun (v : List LTurn × Int) => Sh.ref23_Diff_l8 x y v.1 v.2) ([], 0) = some (.inl (scanD turnD x.regs.l y.regs.l [] 11)) := by
  have ha := x.regs.len
  have hb := y.regs.len
  obtain ⟨g, hg, e⟩ := count_rule (body := fun (v : List LTurn × Int) => Sh.ref23_Diff_l8 x y v.1 v.2) 11 (fun i T => (T, (i : Int))) (fun i T => T = scanD turnD x.regs.l y.regs.l [] i) (fun g => g = .inl (scanD turnD x.regs.l y.regs.l [] 11))
    (by
      intro i T hi hT
      have ia : i < x.regs.l.length := by omega
      have ib : i < y.regs.l.length := by omega
      refine .inl ⟨_, ?_, rfl⟩
      have hl := scan_len (f := turnD) (fun _ _ _ _ => by simp [turnD]) (ha.trans hb.symm) i (by omega)
      rw [← hT] at hl
      have d : decide ((i : Int) < 11) = true := decide_eq_true (by omega)
      rw [scanD_at turnD ia ib, ← hT]
      simp only [Sh.ref23_Diff_l8, d, cond_true, get_at ia, get_at ib, Option.bind_some]
      by_cases c : x.regs.l[i] = y.regs.l[i]
      · simp only [c, decide_true, Bool.not_true, cond_false, seq_l, Sh.ref23_Diff_j9, next64 hi (by omega), if_true]
      · simp only [c, decide_false, Bool.not_false, cond_true, app_ok (l := T) (m := [LTurn.mk (i : Int) x.regs.l[i] y.regs.l[i]]) (bytes := 72) (by simp; omega) (by simp; omega), Option.bind_some, seq_l, Sh.ref23_Diff_j9, next64 hi (by omega), if_false, turnD])
    (by
      intro T hT
      exact ⟨.inl T, by simp [Sh.ref23_Diff_l8], by rw [hT]⟩) 11 0 [] (by omega) rfl
  subst e
  exact hg
theorem dt_cells (x y : QState) (T : List LTurn) : Fx.loop (fun (v : List LTurn × List LCell × Int) => Sh.trace_Diff_l5 x y (diffs x.stack.l y.stack.l x.stack.l.length) v.1 v.2.1 v.2.2) (T, [], 0) = some (.inl (T, scanD cellD x.stack.l y.stack.l [] 32)) := by
  have h : x.stack.l.length = y.stack.l.length := by rw [x.stack.len, y.stack.len]
  have h11 := x.stack.len
  have hD := diffs_len h x.stack.l.length (Nat.le_refl _)
  have hK := fun k hk => diffs_at_k h (k := k) hk
  have hF := fold_diffs cellD [] h x.stack.l.length (Nat.le_refl _)
  generalize hd : diffs x.stack.l y.stack.l x.stack.l.length = D at hD hK hF
  obtain ⟨g, hg, e⟩ := count_rule (body := fun (v : List LTurn × List LCell × Int) => Sh.trace_Diff_l5 x y D v.1 v.2.1 v.2.2) D.length (fun k C => (T, C, (k : Int))) (fun k C => C = foldD cellD x.stack.l y.stack.l (D.take k) [] ∧ C.length ≤ k) (fun g => g = .inl (T, scanD cellD x.stack.l y.stack.l [] x.stack.l.length))
    (by
      intro k C hk ⟨hT, hl⟩
      obtain ⟨j, ej, ja, jb⟩ := hK k hk
      refine .inl ⟨cellD j x.stack.l[j] y.stack.l[j] C, ?_, by rw [hT, fold_step cellD [] hk ej ja jb], by simp [cellD]; omega⟩
      simp only [Sh.trace_Diff_l5, lt_dec, hk, decide_true, cond_true, get_at hk, Option.bind_some, ej, get_at ja, get_at jb, app_ok (l := C) (m := [LCell.mk (j : Int) x.stack.l[j] y.stack.l[j]]) (bytes := 104) (by simp; omega) (by simp; omega), next64 hk (by omega), cellD])
    (by
      intro C ⟨hT, hl⟩
      rw [List.take_length, hF] at hT
      exact ⟨.inl (T, C), by simp [Sh.trace_Diff_l5], by rw [hT]⟩) D.length 0 [] (by omega) ⟨by simp [foldD], Nat.le_refl _⟩
  subst e
  rw [h11] at hg
  exact hg
theorem dr_cells (x y : QState) (T : List LTurn) : Fx.loop (fun (v : List LTurn × List LCell × Int) => Sh.ref23_Diff_l11 x y v.1 v.2.1 v.2.2) (T, [], 0) = some (.inl (T, scanD cellD x.stack.l y.stack.l [] 32)) := by
  have ha := x.stack.len
  have hb := y.stack.len
  obtain ⟨g, hg, e⟩ := count_rule (body := fun (v : List LTurn × List LCell × Int) => Sh.ref23_Diff_l11 x y v.1 v.2.1 v.2.2) 32 (fun i C => (T, C, (i : Int))) (fun i C => C = scanD cellD x.stack.l y.stack.l [] i) (fun g => g = .inl (T, scanD cellD x.stack.l y.stack.l [] 32))
    (by
      intro i C hi hT
      have ia : i < x.stack.l.length := by omega
      have ib : i < y.stack.l.length := by omega
      refine .inl ⟨_, ?_, rfl⟩
      have hl := scan_len (f := cellD) (fun _ _ _ _ => by simp [cellD]) (ha.trans hb.symm) i (by omega)
      rw [← hT] at hl
      have d : decide ((i : Int) < 32) = true := decide_eq_true (by omega)
      rw [scanD_at cellD ia ib, ← hT]
      simp only [Sh.ref23_Diff_l11, d, cond_true, get_at ia, get_at ib, Option.bind_some]
      by_cases c : x.stack.l[i] = y.stack.l[i]
      · simp only [c, decide_true, Bool.not_true, cond_false, seq_l, Sh.ref23_Diff_j12, next64 hi (by omega), if_true]
      · simp only [c, decide_false, Bool.not_false, cond_true, app_ok (l := C) (m := [LCell.mk (i : Int) x.stack.l[i] y.stack.l[i]]) (bytes := 104) (by simp; omega) (by simp; omega), Option.bind_some, seq_l, Sh.ref23_Diff_j12, next64 hi (by omega), if_false, cellD])
    (by
      intro C hT
      exact ⟨.inl (T, C), by simp [Sh.ref23_Diff_l11], by rw [hT]⟩) 32 0 [] (by omega) rfl
  subst e
  exact hg
def tabs (A B : List (List UInt8)) (P : List QPiece) : Nat → List QPiece
  | 0 => P
  | k + 1 => match A[k]?, B[k]? with
    | some a, some b => tabs A B P k ++ grow (k : Int) a b a.length
    | _, _ => tabs A B P k
theorem tabs_at {A B : List (List UInt8)} (P : List QPiece) {k : Nat} (ha : k < A.length) (hb : k < B.length) : tabs A B P (k + 1) = tabs A B P k ++ grow (k : Int) A[k] B[k] (A[k]).length := by
  simp only [tabs, List.getElem?_eq_getElem ha, List.getElem?_eq_getElem hb]
theorem tabs_len {A B : List (List UInt8)} {P : List QPiece} (hl : A.length = B.length) (he : ∀ i (h : i < A.length) (k : i < B.length), (A[i]).length = (B[i]).length) (hA : ∀ t ∈ A, t.length ≤ 65535) : ∀ k, k ≤ A.length → (tabs A B P k).length ≤ P.length + 65535 * k := by
  intro k
  induction k with
  | zero => intro _; simp [tabs]
  | succ k ih =>
    intro hk
    have ha : k < A.length := by omega
    have hb : k < B.length := by omega
    rw [tabs_at P ha hb, List.length_append]
    have h1 := ih (by omega)
    have h2 := (grow_lie (k : Int) (he k ha hb) (A[k]).length (Nat.le_refl _)).few
    have h3 := hA _ (List.getElem_mem ha)
    omega
section
variable {x y : QState} (hl : x.tables.length = y.tables.length) (he : SameLens x y) (hi : InOk ⟨x.ctx, x.tables⟩) {P : List QPiece} (hP : P.length ≤ 65535)
include hl he hi hP
theorem dt_tabs (T : List LTurn) (C : List LCell) : Fx.loop (fun (v : List LTurn × List LCell × List QPiece × Int) => Sh.trace_Diff_l7 x y v.1 v.2.1 v.2.2.1 v.2.2.2) (T, C, P, 0) = some (.inl (T, C, tabs x.tables y.tables P x.tables.length)) := by
  obtain ⟨h1, h2, h3⟩ := hi
  simp only at h1 h2 h3
  have hb := tabs_len (P := P) hl (fun i h k => he i h h k) h3
  obtain ⟨g, hg, e⟩ := count_rule (body := fun (v : List LTurn × List LCell × List QPiece × Int) => Sh.trace_Diff_l7 x y v.1 v.2.1 v.2.2.1 v.2.2.2) x.tables.length (fun i P' => (T, C, P', (i : Int))) (fun i P' => P' = tabs x.tables y.tables P i) (fun g => g = .inl (T, C, tabs x.tables y.tables P x.tables.length))
    (by
      intro i P' ia hT
      have ib : i < y.tables.length := by omega
      refine .inl ⟨_, ?_, rfl⟩
      have hl := hb i (by omega)
      rw [← hT] at hl
      have hA := h3 _ (List.getElem_mem ia)
      have hg := (grow_lie (i : Int) (he i ia ia ib) (x.tables[i]).length (Nat.le_refl _)).few
      rw [tabs_at P ia ib, ← hT]
      simp only [Sh.trace_Diff_l7, lt_dec, ia, decide_true, cond_true, get_at ia, get_at ib, Option.bind_some, dpieces_ok (i : Int) (he i ia ia ib) (by omega), app_ok (l := P') (m := grow (i : Int) x.tables[i] y.tables[i] (x.tables[i]).length) (bytes := 64) (by omega) (by omega), next64 ia (by omega)])
    (by
      intro P' hT
      exact ⟨.inl (T, C, P'), by simp [Sh.trace_Diff_l7], by rw [hT]⟩) x.tables.length 0 P (by omega) rfl
  subst e
  exact hg
theorem dr_tabs (T : List LTurn) (C : List LCell) : Fx.loop (fun (v : List LTurn × List LCell × List QPiece × Int) => Sh.ref23_Diff_l14 x y v.1 v.2.1 v.2.2.1 v.2.2.2) (T, C, P, 0) = some (.inl (T, C, tabs x.tables y.tables P x.tables.length)) := by
  obtain ⟨h1, h2, h3⟩ := hi
  simp only at h1 h2 h3
  have hb := tabs_len (P := P) hl (fun i h k => he i h h k) h3
  obtain ⟨g, hg, e⟩ := count_rule (body := fun (v : List LTurn × List LCell × List QPiece × Int) => Sh.ref23_Diff_l14 x y v.1 v.2.1 v.2.2.1 v.2.2.2) x.tables.length (fun i P' => (T, C, P', (i : Int))) (fun i P' => P' = tabs x.tables y.tables P i) (fun g => g = .inl (T, C, tabs x.tables y.tables P x.tables.length))
    (by
      intro i P' ia hT
      have ib : i < y.tables.length := by omega
      refine .inl ⟨_, ?_, rfl⟩
      have hl := hb i (by omega)
      rw [← hT] at hl
      have hA := h3 _ (List.getElem_mem ia)
      rw [tabs_at P ia ib, ← hT]
      simp only [Sh.ref23_Diff_l14, lt_dec, ia, decide_true, cond_true, get_at ia, get_at ib, Option.bind_some, dunlike_ok P' (i : Int) (he i ia ia ib) (by omega) (by omega), next64 ia (by omega)])
    (by
      intro P' hT
      exact ⟨.inl (T, C, P'), by simp [Sh.ref23_Diff_l14], by rw [hT]⟩) x.tables.length 0 P (by omega) rfl
  subst e
  exact hg
end
def diffOf (x y : QState) : QMark := ⟨x.at_, y.at_, y.done, scanD turnD x.regs.l y.regs.l [] 11, scanD cellD x.stack.l y.stack.l [] 32, tabs x.tables y.tables (grow (-1) x.ctx y.ctx x.ctx.length) x.tables.length, y.sent.drop x.sent.length⟩
def noMark : QMark := ⟨0, 0, false, [], [], [], []⟩
theorem sent_new {x y : QState} (h1 : x.sent.length ≤ y.sent.length) (h2 : y.sent.length ≤ x.sent.length + 1) : (Fx.slc y.sent (x.sent.length : Int) (y.sent.length : Int)).bind (fun z => Fx.app 8 [] z) = some (y.sent.drop x.sent.length) := by
  unfold Fx.slc
  rw [if_pos (by omega)]
  simp only [Option.bind_some, Int.toNat_natCast]
  rw [List.take_of_length_le (by simp), app_ok (by simp; omega) (by simp; omega)]
  rfl
theorem t_diff {x y : QState} (hx : SmallS x) (hy : SmallS y) : (PlainS x → PlainS y → Beh x y → Sh.trace_Diff x y = some (diffOf x y, 0)) ∧ (PlainS x → PlainS y → ¬ Beh x y → Sh.trace_Diff x y = some (noMark, 231)) ∧ (¬ (PlainS x ∧ PlainS y) → Sh.trace_Diff x y = some (noMark, 1)) := by
  refine ⟨fun p q hb => ?_, fun p q hb => ?_, fun h => ?_⟩
  · unfold Sh.trace_Diff
    simp only [(t_plainS x).true p, (t_plainS y).true q, Option.bind_some, Bool.not_true, cond_false, seq_l, Sh.trace_Diff_j1, (t_behind x y hx hy).true hb]
    have hr : x.regs.l.length = y.regs.l.length := by rw [x.regs.len, y.regs.len]
    have hs : x.stack.l.length = y.stack.l.length := by rw [x.stack.len, y.stack.len]
    rw [changedV hr (by rw [x.regs.len]; decide), Option.bind_some, show Fx.loop (fun (v : List LTurn × Int) => match v with | (v1105, v1108) => Sh.trace_Diff_l3 x y (diffs x.regs.l y.regs.l x.regs.l.length) v1105 v1108) ([], 0) = _ from dt_regs x y]
    simp only [seq_l, Sh.trace_Diff_j2]
    rw [changedS hs (by rw [x.stack.len]; decide), Option.bind_some, show Fx.loop (fun (v : List LTurn × List LCell × Int) => match v with | (v1309, v1312, v1315) => Sh.trace_Diff_l5 x y (diffs x.stack.l y.stack.l x.stack.l.length) v1309 v1312 v1315) (scanD turnD x.regs.l y.regs.l [] 11, [], 0) = _ from dt_cells x y _]
    simp only [seq_l, Sh.trace_Diff_j4]
    have hc := p.2.2.1
    simp only at hc
    have hg := (grow_lie (-1) hb.ctx x.ctx.length (Nat.le_refl _)).few
    rw [dpieces_ok (-1) hb.ctx hx.ctx, Option.bind_some, show Fx.loop (fun (v : List LTurn × List LCell × List QPiece × Int) => match v with | (v1688, v1691, v1694, v1700) => Sh.trace_Diff_l7 x y v1688 v1691 v1694 v1700) (scanD turnD x.regs.l y.regs.l [] 11, scanD cellD x.stack.l y.stack.l [] 32, grow (-1) x.ctx y.ctx x.ctx.length, 0) = _ from dt_tabs hb.tables hb.lens p.2.2 (Nat.le_trans hg hc) _ _]
    simp only [seq_l, Sh.trace_Diff_j6]
    obtain ⟨z, hz, e⟩ := Option.bind_eq_some_iff.1 (sent_new hb.sent1 hb.sent2)
    rw [hz, Option.bind_some, e, Option.bind_some]
    rfl
  · unfold Sh.trace_Diff
    simp only [(t_plainS x).true p, (t_plainS y).true q, Option.bind_some, Bool.not_true, cond_false, seq_l, Sh.trace_Diff_j1, (t_behind x y hx hy).false hb, Bool.not_false, cond_true]
    rfl
  · unfold Sh.trace_Diff
    by_cases p : PlainS x
    · have q : ¬ PlainS y := fun q => h ⟨p, q⟩
      simp only [(t_plainS x).true p, (t_plainS y).false q, Option.bind_some, Bool.not_true, Bool.not_false, cond_false, cond_true, seq_l, Sh.trace_Diff_j1]
      rfl
    · simp only [(t_plainS x).false p, Option.bind_some, Bool.not_false, cond_true, seq_l, Sh.trace_Diff_j1]
      rfl
theorem r_diff {x y : QState} (hx : SmallS x) (hy : SmallS y) : (PlainS x → PlainS y → Beh x y → Sh.ref23_Diff x y = some (diffOf x y, 0)) ∧ (PlainS x → PlainS y → ¬ Beh x y → Sh.ref23_Diff x y = some (noMark, 231)) ∧ (¬ (PlainS x ∧ PlainS y) → Sh.ref23_Diff x y = some (noMark, 1)) := by
  have hxt := hx.tables
  have hxs := hx.sent
  have hys := hy.sent
  have main : PlainS x → PlainS y → (Beh x y → Sh.ref23_Diff_j1 x y false = some (diffOf x y, 0)) ∧ (¬ Beh x y → Sh.ref23_Diff_j1 x y false = some (noMark, 231)) := by
    intro p q
    unfold Sh.ref23_Diff_j1
    simp only [cond_false]
    have no : ∀ {o : Option (QMark × Int)}, (Beh x y → False) → o = some (noMark, 231) → (Beh x y → o = some (diffOf x y, 0)) ∧ (¬ Beh x y → o = some (noMark, 231)) := fun h1 h2 => ⟨fun h => (h1 h).elim, fun _ => h2⟩
    cases c1 : x.done
    case true => exact no (fun h => by have := h.notDone; rw [c1] at this; cases this) rfl
    simp only [cond_false]
    by_cases c2 : y.steps = IntKind.i64.wrap (x.steps + 1)
    case neg => rw [decide_eq_false c2]; exact no (fun h => c2 h.steps) rfl
    rw [decide_eq_true c2]
    simp only [Bool.not_true, cond_false]
    by_cases c3 : x.ctx.length = y.ctx.length
    case neg => rw [decide_eq_false (by omega)]; exact no (fun h => c3 h.ctx) rfl
    rw [decide_eq_true (by omega)]
    simp only [Bool.not_true, cond_false]
    by_cases c4 : x.tables.length = y.tables.length
    case neg => rw [decide_eq_false (by omega)]; exact no (fun h => c4 h.tables) rfl
    rw [decide_eq_true (by omega)]
    simp only [Bool.not_true, cond_false]
    by_cases c5 : x.sent.length ≤ y.sent.length
    case neg => rw [decide_eq_true (by omega)]; exact no (fun h => c5 h.sent1) rfl
    rw [decide_eq_false (by omega)]
    simp only [cond_false]
    have ew : IntKind.i64.wrap ((x.sent.length : Int) + 1) = (x.sent.length : Int) + 1 := w64 (by omega)
    rw [ew]
    by_cases c6 : y.sent.length ≤ x.sent.length + 1
    case neg => rw [decide_eq_true (by omega)]; exact no (fun h => c6 h.sent2) rfl
    rw [decide_eq_false (by omega)]
    simp only [seq_l, Sh.ref23_Diff_j2, cond_false]
    obtain ⟨g, e1, e2⟩ := scan (body := fun (v : Int) => Sh.ref23_Diff_l4 x y v) (ok := Sum.inl ()) (bad := Sum.inr (noMark, 231)) x.tables.length (fun i => ∀ (h : i < x.tables.length) (k : i < y.tables.length), (x.tables[i]).length = (y.tables[i]).length) (by omega) (fun i hi => by
      have hj : i < y.tables.length := by omega
      simp only [Sh.ref23_Diff_l4, lt_dec, hi, decide_true, cond_true, get_at hi, get_at hj, Option.bind_some]
      by_cases c : (x.tables[i]).length = (y.tables[i]).length
      · exact .inl ⟨fun _ _ => c, by rw [decide_eq_true (by omega)]; rfl⟩
      · exact .inr ⟨fun h => c (h trivial hj), by rw [decide_eq_false (by omega)]; rfl⟩) (by simp [Sh.ref23_Diff_l4])
    rw [show Fx.loop (fun v1638 => Sh.ref23_Diff_l4 x y v1638) 0 = some g from e1]
    rcases e2 with ⟨rfl, c7⟩ | ⟨rfl, c7⟩
    case inr => exact no (fun h => c7 h.lens) rfl
    simp only [seq_l, Sh.ref23_Diff_j3]
    obtain ⟨g, e1, e2⟩ := scan (body := fun (v : Int) => Sh.ref23_Diff_l6 x y v) (ok := Sum.inl ()) (bad := Sum.inr (noMark, 231)) x.sent.length (fun i => ∀ (h : i < x.sent.length) (k : i < y.sent.length), x.sent[i] = y.sent[i]) (by omega) (fun i hi => by
      have hj : i < y.sent.length := by omega
      simp only [Sh.ref23_Diff_l6, lt_dec, hi, decide_true, cond_true, get_at hi, get_at hj, Option.bind_some]
      by_cases c : x.sent[i] = y.sent[i]
      · exact .inl ⟨fun _ _ => c, by rw [decide_eq_true c]; rfl⟩
      · exact .inr ⟨fun h => c (h trivial hj), by rw [decide_eq_false c]; rfl⟩) (by simp [Sh.ref23_Diff_l6])
    rw [show Fx.loop (fun v1776 => Sh.ref23_Diff_l6 x y v1776) 0 = some g from e1]
    rcases e2 with ⟨rfl, c8⟩ | ⟨rfl, c8⟩
    case inr => exact no (fun h => c8 h.sent) rfl
    have hb : Beh x y := ⟨c1, c2, c3, c4, c7, c5, c6, c8⟩
    refine ⟨fun _ => ?_, fun h => absurd hb h⟩
    simp only [seq_l, Sh.ref23_Diff_j5]
    rw [show Fx.loop (fun (v : List LTurn × Int) => match v with | (v2115, v2118) => Sh.ref23_Diff_l8 x y v2115 v2118) ([], 0) = _ from dr_regs x y]
    simp only [seq_l, Sh.ref23_Diff_j7]
    rw [show Fx.loop (fun (v : List LTurn × List LCell × Int) => match v with | (v2514, v2517, v2520) => Sh.ref23_Diff_l11 x y v2514 v2517 v2520) (scanD turnD x.regs.l y.regs.l [] 11, [], 0) = _ from dr_cells x y _]
    simp only [seq_l, Sh.ref23_Diff_j10]
    have hc := p.2.2.1
    simp only at hc
    have hg := (grow_lie (-1) hb.ctx x.ctx.length (Nat.le_refl _)).few
    rw [dunlike_ok [] (-1) hb.ctx hx.ctx (by simp), Option.bind_some, List.nil_append, show Fx.loop (fun (v : List LTurn × List LCell × List QPiece × Int) => match v with | (v2824, v2827, v2830, v2836) => Sh.ref23_Diff_l14 x y v2824 v2827 v2830 v2836) (scanD turnD x.regs.l y.regs.l [] 11, scanD cellD x.stack.l y.stack.l [] 32, grow (-1) x.ctx y.ctx x.ctx.length, 0) = _ from dr_tabs hb.tables hb.lens p.2.2 (Nat.le_trans hg hc) _ _]
    simp only [seq_l, Sh.ref23_Diff_j13]
    obtain ⟨z, hz, e⟩ := Option.bind_eq_some_iff.1 (sent_new hb.sent1 hb.sent2)
    rw [hz, Option.bind_some, e, Option.bind_some]
    rfl
  refine ⟨fun p q hb => ?_, fun p q hb => ?_, fun h => ?_⟩
  · unfold Sh.ref23_Diff
    simp only [(r_plainS x).true p, (r_plainS y).true q, Option.bind_some, Bool.not_true, cond_false, seq_l]
    exact (main p q).1 hb
  · unfold Sh.ref23_Diff
    simp only [(r_plainS x).true p, (r_plainS y).true q, Option.bind_some, Bool.not_true, cond_false, seq_l]
    exact (main p q).2 hb
  · unfold Sh.ref23_Diff
    by_cases p : PlainS x
    · have q : ¬ PlainS y := fun q => h ⟨p, q⟩
      simp only [(r_plainS x).true p, (r_plainS y).false q, Option.bind_some, Bool.not_true, Bool.not_false, cond_false, cond_true, seq_l, Sh.ref23_Diff_j1]
      rfl
    · simp only [(r_plainS x).false p, Option.bind_some, Bool.not_false, cond_true, seq_l, Sh.ref23_Diff_j1]
      rfl
end Go.Sp
end
section
namespace Go.Sp
open Go Go.Fw Go.Fx Go.Proofs
set_option linter.unusedVariables false
set_option linter.unusedSimpArgs false
theorem sameState_refl {x : QState} (h : SmallS x) : Sh.law00_SameState x x = some true := by
  unfold Sh.law00_SameState
  simp only [decide_true, cond_true, Sh.law00_SameBytes, Option.bind_some, sameRows_refl h.tables, sameInts_refl h.sent, seq_l, Sh.law00_SameState_j1]
theorem copyBytes_ok {l : List UInt8} (h : l.length ≤ 1099511627776) : Sh.law00_CopyBytes l = some l := by
  unfold Sh.law00_CopyBytes
  rw [app_ok (by simp; omega) (by simp; omega)]; rfl
theorem copyInts_ok {l : List Int} (h : l.length ≤ 1099511627776) : Sh.law00_CopyInts l = some l := by
  unfold Sh.law00_CopyInts
  rw [app_ok (by simp; omega) (by simp; omega)]; rfl
theorem copyRows_ok {l : List (List UInt8)} (h : l.length ≤ 1099511627776) (he : ∀ t ∈ l, t.length ≤ 1099511627776) : Sh.law00_CopyRows l = some l := by
  obtain ⟨g, hg, e⟩ := count_rule (body := fun (v : List (List UInt8) × Int) => Sh.law00_CopyRows_l2 l v.1 v.2) l.length (fun i T => (T, (i : Int))) (fun i T => T = l.take i) (fun g => g = .inl l)
    (by
      intro i T hi hT
      refine .inl ⟨T ++ [l[i]], ?_, by rw [hT, List.take_add_one, List.getElem?_eq_getElem hi]; rfl⟩
      have hl : T.length ≤ i := by rw [hT]; simp; omega
      simp only [Sh.law00_CopyRows_l2, lt_dec, hi, decide_true, cond_true, get_at hi, Option.bind_some, copyBytes_ok (he _ (List.getElem_mem hi)), app_ok (l := T) (m := [l[i]]) (bytes := 24) (by simp; omega) (by simp; omega), next64 hi (by omega)])
    (by
      intro T hT
      rw [List.take_length] at hT
      exact ⟨.inl T, by simp [Sh.law00_CopyRows_l2], by rw [hT]⟩) l.length 0 [] (by omega) rfl
  subst e
  unfold Sh.law00_CopyRows
  exact seq_eq hg rfl
theorem copyState_ok {x : QState} (h : SmallS x) : Sh.law23_copyState x = some x := by
  unfold Sh.law23_copyState
  rw [copyBytes_ok h.ctx, Option.bind_some, copyRows_ok h.tables h.each, Option.bind_some, copyInts_ok h.sent, Option.bind_some]
theorem bump_l4 {x : QState} (h : x.ctx.length ≤ 1099511627776) : ∃ y, Fx.loop (fun (v : QState × Int) => Sh.law23_TraceDiffs_l4 v.1 v.2) (x, 0) = some (.inl y) := by
  obtain ⟨g, hg, y, e⟩ := count_rule (body := fun (v : QState × Int) => Sh.law23_TraceDiffs_l4 v.1 v.2) x.ctx.length (fun i s => (s, (i : Int))) (fun i s => s.ctx.length = x.ctx.length) (fun g => ∃ y, g = .inl y)
    (by
      intro i s hi hs
      have hj : i < s.ctx.length := by omega
      refine .inl ⟨⟨s.regs, s.stack, s.ctx.set i (Fw.byteOf ((s.ctx[i].toNat : Int) + 1)), s.tables, s.sent, s.at_, s.steps, s.done⟩, ?_, by simp [hs]⟩
      simp only [Sh.law23_TraceDiffs_l4, lt_dec, hj, decide_true, cond_true, get_at hj, Option.bind_some, next64 hj (by omega), Int.toNat_natCast])
    (by
      intro s hs
      exact ⟨.inl s, by simp [Sh.law23_TraceDiffs_l4, hs], s, rfl⟩) x.ctx.length 0 x (by omega) rfl
  subst e
  exact ⟨y, hg⟩
theorem bump_l6 {x : QState} (h : x.ctx.length ≤ 1099511627776) : ∃ y, Fx.loop (fun (v : QState × Int) => Sh.law23_TraceDiffs_l6 v.1 v.2) (x, 0) = some (.inl y) := by
  obtain ⟨g, hg, y, e⟩ := count_rule (body := fun (v : QState × Int) => Sh.law23_TraceDiffs_l6 v.1 v.2) x.ctx.length (fun i s => (s, (i : Int))) (fun i s => s.ctx.length = x.ctx.length) (fun g => ∃ y, g = .inl y)
    (by
      intro i s hi hs
      have hj : i < s.ctx.length := by omega
      refine .inl ⟨⟨s.regs, s.stack, s.ctx.set i (Fw.byteOf ((s.ctx[i].toNat : Int) + 1)), s.tables, s.sent, s.at_, s.steps, s.done⟩, ?_, by simp [hs]⟩
      simp only [Sh.law23_TraceDiffs_l6, lt_dec, hj, decide_true, cond_true, get_at hj, Option.bind_some, next64 hj (by omega), Int.toNat_natCast])
    (by
      intro s hs
      exact ⟨.inl s, by simp [Sh.law23_TraceDiffs_l6, hs], s, rfl⟩) x.ctx.length 0 x (by omega) rfl
  subst e
  exact ⟨y, hg⟩
theorem small_diff {x y : QState} (hx : SmallS x) (p : PlainS x) (hb : Beh x y) : SmallM (diffOf x y) := by
  have hr := scan_len (f := turnD) (fun _ _ _ _ => by simp [turnD]) (show x.regs.l.length = y.regs.l.length by rw [x.regs.len, y.regs.len]) 11 (by rw [x.regs.len]; exact Nat.le_refl _)
  have hs := scan_len (f := cellD) (fun _ _ _ _ => by simp [cellD]) (show x.stack.l.length = y.stack.l.length by rw [x.stack.len, y.stack.len]) 32 (by rw [x.stack.len]; exact Nat.le_refl _)
  obtain ⟨h1, h2, h3⟩ := p.2.2
  simp only at h1 h2 h3
  have hg := (grow_lie (-1) hb.ctx x.ctx.length (Nat.le_refl _)).few
  have ht := tabs_len (P := grow (-1) x.ctx y.ctx x.ctx.length) hb.tables (fun i h k => hb.lens i h h k) h3 x.tables.length (Nat.le_refl _)
  have hn := hb.sent2
  refine ⟨?_, ?_, ?_, ?_⟩
  · show (scanD turnD x.regs.l y.regs.l [] 11).length ≤ _; omega
  · show (scanD cellD x.stack.l y.stack.l [] 32).length ≤ _; omega
  · show (tabs x.tables y.tables (grow (-1) x.ctx y.ctx x.ctx.length) x.tables.length).length ≤ _; omega
  · show (y.sent.drop x.sent.length).length ≤ _; simp; omega
theorem both_diff {x y : QState} (hx : SmallS x) (hy : SmallS y) : ∃ m e, Sh.trace_Diff x y = some (m, e) ∧ Sh.ref23_Diff x y = some (m, e) ∧ SmallM m := by
  obtain ⟨t1, t2, t3⟩ := t_diff hx hy
  obtain ⟨r1, r2, r3⟩ := r_diff hx hy
  by_cases h : PlainS x ∧ PlainS y
  · by_cases hb : Beh x y
    · exact ⟨_, _, t1 h.1 h.2 hb, r1 h.1 h.2 hb, small_diff hx h.1 hb⟩
    · exact ⟨_, _, t2 h.1 h.2 hb, r2 h.1 h.2 hb, by simp [SmallM, noMark]⟩
  · exact ⟨_, _, t3 h, r3 h, by simp [SmallM, noMark]⟩
theorem diffs_law {x y : QState} (hx : SmallS x) (hy : SmallS y) : Sh.law23_TraceDiffs x y = some true := by
  obtain ⟨m, e, ht, hr, hm⟩ := both_diff hx hy
  obtain ⟨x', b1⟩ := bump_l4 hx.ctx
  obtain ⟨y', b2⟩ := bump_l6 hy.ctx
  unfold Sh.law23_TraceDiffs
  simp only [Sh.law23_known, Option.bind_some, Bool.not_true, cond_false, copyState_ok hx, copyState_ok hy, seq_l, Sh.law23_TraceDiffs_j1, ht, hr, decide_true, sameMark_refl hm, sameState_refl hx, sameState_refl hy, Sh.law23_TraceDiffs_j2]
  rw [show Fx.loop (fun (v : QState × Int) => match v with | (v873, v883) => Sh.law23_TraceDiffs_l4 v873 v883) (x, 0) = _ from b1]
  simp only [seq_l, Sh.law23_TraceDiffs_j3]
  rw [show Fx.loop (fun (v : QState × Int) => match v with | (v1078, v1088) => Sh.law23_TraceDiffs_l6 v1078 v1088) (y, 0) = _ from b2]
  simp only [seq_l, Sh.law23_TraceDiffs_j5, sameMark_refl hm, Option.bind_some]
end Go.Sp
end
