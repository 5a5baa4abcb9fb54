/- Ground for this claim: The call of TraceBytes returns true, and what is read reads as before. Condition: what is read is of bulk at most 1048576. -/
import Derived.Laws.MakeOwn
import Derived.Test.YtmgnkohlfbjjnaaGreatRTb4
section
namespace Go.Fx
open Go Go.Fw
set_option linter.unusedVariables false
set_option linter.unusedSimpArgs false
def mk {X:Type} (bytes:Nat) (z:X) (n:Int):Option (List X):=if 0 ≤ n ∧ (bytes:Int) * n ≤ 281474976710656 ∧ n ≤ 4611686018427387904 then some (List.replicate n.toNat z) else none
section
variable {P:Program} {n:Nat} {F:List (Nat × Value)} {a:Act} {dd:List Deferred} {w:World} {o:Oper} {J:Value → World → Prop}
end
end Go.Fx
end
section
namespace Go.Proofs
open Go Go.Fw Go.Fx
set_option maxRecDepth 10000
set_option linter.unusedVariables false
set_option linter.unusedSimpArgs false
noncomputable def Sh.gW (c0:Bool):Option ((Unit ⊕ Bool)) :=
 (bif c0 then (some (Sum.inr false)) else (some (Sum.inl ())))
noncomputable def Sh.iQ (c0:Bool):Option Bool :=
 (some c0)
noncomputable def Sh.gX (x3:List UInt8) (c0:(List UInt8 × Int)) (c2:Bool):Option Bool :=
 (bif c2 then (some true) else ((Sh.dL c0.1).bind fun c5=>((Fx.app 1 c5 x3).bind fun c4=>((Sh.bB c4).bind fun c1=>(Fx.seq (bif (decide (c1.2.2 = 236)) then (some (Sum.inl (decide (c1.2.1 = (c0.1.length:Int))))) else (some (Sum.inl false))) fun c3=>Sh.iQ c3)))))
noncomputable def Sh.gV (x3:List UInt8) (c0:(List UInt8 × Int)):Option Bool :=
 (Fx.seq (bif (decide ((x3.length:Int) = 0)) then (some (Sum.inl true)) else (some (Sum.inl (decide (16777216 < (IntKind.i64.wrap ((c0.1.length:Int) + (x3.length:Int)))))))) fun c1=>Sh.gX x3 c0 c1)
noncomputable def Sh.iP (x0:QRecord) (x2:UInt8) (x3:List UInt8) (c2:(List UInt8 × Int)) (c0:Int) (c4:Bool):Option Bool :=
 (bif c4 then (some false) else (Fx.seq (bif (!decide ((x2.toNat:Int) = 0)) then ((Sh.dL c2.1).bind fun c1=>((Fx.get c1 c0).bind fun c6=>((Fx.get c1 c0).bind fun c8=>((Sh.bB (c1.set (c0:Int).toNat (Fw.byteOf ((c6.toNat:Int) + (x2.toNat:Int))))).bind fun c3=>(Fx.seq (bif (decide (c3.2.2 = 0)) then ((Sh.cQ c3.1 x0).bind fun c7=>(some (Sum.inl c7))) else (some (Sum.inl false))) fun c5=>Sh.gW c5))))) else (some (Sum.inl ()))) fun _=>Sh.gV x3 c2))
noncomputable def Sh.iO (x0:QRecord) (x1:Int) (x2:UInt8) (x3:List UInt8) (c0:(List UInt8 × Int)) (c3:Bool):Option Bool :=
 (bif c3 then (some false) else ((Sh.lQ x1 (c0.1.length:Int)).bind fun c1=>((Fx.slc c0.1 0 c1).bind fun c5=>((Sh.bB c5).bind fun c2=>(Fx.seq (bif (!decide (c2.2.2 = 236)) then (some (Sum.inl true)) else (some (Sum.inl (!decide (c2.2.1 = c1))))) fun c4=>Sh.iP x0 x2 x3 c0 c1 c4)))))
noncomputable def Sh.iJ (x0:QRecord) (x1:Int) (x2:UInt8) (x3:List UInt8):Option Bool :=
 ((Sh.lP).bind fun c3=>(bif (!c3) then (some false) else ((Sh.gH x0).bind fun c0=>((Sh.kR x0).bind fun c4=>(bif (!decide (c0.2 = c4.2)) then (some false) else (bif (!decide (c0.2 = 0)) then (some (decide ((c0.1.length:Int) = 0))) else ((Sh.bB c0.1).bind fun c1=>(Fx.seq (bif (!decide (c1.2.2 = 0)) then (some (Sum.inl true)) else (bif (!decide (c1.2.1 = 0)) then (some (Sum.inl true)) else ((Sh.cQ c1.1 x0).bind fun c5=>(bif (!c5) then (some (Sum.inl true)) else (some (Sum.inl (decide ((c0.1.length:Int) < 12)))))))) fun c2=>Sh.iO x0 x1 x2 x3 c0 c2))))))))
end Go.Proofs
end
section
namespace Go.Sp
open Go Go.Fw Go.Fx
set_option linter.unusedVariables false
set_option linter.unusedSimpArgs false
theorem w64 {x:Int} (h : -9223372036854775808 ≤ x ∧ x ≤ 9223372036854775807):IntKind.i64.wrap x = x:=iR h
def lows:Nat → Int → List UInt8
  | 0,_=>[]
  | n + 1,x=>Fw.byteOf x :: lows n (x.fdiv 256)
theorem bJ (n:Nat) (x:Int):(lows n x).length = n:=by
  induction n generalizing x with
  | zero=>rfl
  | succ n ih=>simp [lows,ih]
def num:List UInt8 → Nat
  | []=>0
  | b :: l=>b.toNat + 256 * num l
theorem tX (l:List UInt8):num l < 256 ^ l.length:=by
  induction l with
  | nil=>simp [num]
  | cons b l ih =>
    simp only [num,List.length_cons,Nat.pow_succ]
    have:=b.toNat_lt
    omega
theorem xV (l:List UInt8) (b:UInt8):num (l ++ [b]) = num l + 256 ^ l.length * b.toNat:=by
  induction l with
  | nil=>simp [num]
  | cons a l ih =>
    simp only [List.cons_append,num,ih,List.length_cons,Nat.pow_succ,Nat.mul_add]
    rw [Nat.mul_comm (256 ^ l.length) 256,Nat.mul_assoc]
    omega
theorem vC (x:Int):∃ k:Int,IntKind.i64.wrap x = x + 18446744073709551616 * k:=by
  unfold IntKind.wrap
  simp only [IntKind.signed,IntKind.bits,Bool.true_and,decide_eq_true_eq]
  have h:=Int.emod_add_mul_ediv x (2 ^ 64)
  split
  · exact ⟨-(x / 2 ^ 64) - 1,by omega⟩
  · exact ⟨-(x / 2 ^ 64),by omega⟩
theorem tI (x y:Int) (h:x % 256 = y % 256):Fw.byteOf x = Fw.byteOf y:=by unfold Fw.byteOf; rw [h]
theorem xQ (n:Nat):∀ (x k:Int),lows n (x + 256 ^ n * k) = lows n x:=by
  induction n with
  | zero=>intro x k; rfl
  | succ n ih =>
    intro x k
    have e:x + 256 ^ (n + 1) * k = x + 256 * (256 ^ n * k):=by rw [Int.pow_succ,Int.mul_comm (256 ^ n) 256,Int.mul_assoc]
    simp only [lows]
    rw [e]
    congr 1
    · exact tI _ _ (by omega)
    · rw [Int.fdiv_eq_ediv_of_nonneg _ (by decide),Int.fdiv_eq_ediv_of_nonneg _ (by decide),Int.add_mul_ediv_left _ _ (by decide)]
      exact ih _ _
theorem mB (b:UInt8) (k:Nat):Fw.byteOf ((b.toNat + 256 * k:Nat):Int) = b:=by
  unfold Fw.byteOf
  have:=b.toNat_lt
  have e:((((b.toNat + 256 * k:Nat):Int) % 256).toNat) = b.toNat:=by omega
  rw [e]; exact UInt8.ofNat_toNat
theorem vW (l:List UInt8):lows l.length (num l:Nat) = l:=by
  induction l with
  | nil=>rfl
  | cons b l ih =>
    simp only [List.length_cons,lows,num]
    congr 1
    · exact mB b _
    · rw [Int.fdiv_eq_ediv_of_nonneg _ (by decide)]
      have:=b.toNat_lt
      have e:(((b.toNat + 256 * num l:Nat):Int) / 256) = (num l:Nat):=by omega
      rw [e]; exact ih
theorem xR (l:List UInt8) (h:l.length ≤ 8):lows l.length (IntKind.i64.wrap (num l:Nat)) = l:=by
  obtain ⟨k,hk⟩:=vC (num l:Nat)
  rw [hk]
  have e:(18446744073709551616:Int) * k = 256 ^ l.length * (256 ^ (8 - l.length) * k):=by
    rw [← Int.mul_assoc,← Int.pow_add]
    have:l.length + (8 - l.length) = 8:=by omega
    rw [this]; rfl
  rw [e,xQ,vW]
theorem pF (x:Int):BitVec.ofInt 64 (IntKind.i64.wrap x) = BitVec.ofInt 64 x:=by
  obtain ⟨k,hk⟩:=vC x
  rw [hk]
  apply BitVec.eq_of_toInt_eq
  simp only [BitVec.toInt_ofInt]
  rw [show (18446744073709551616:Int) = ((2 ^ 64:Nat):Int) by rfl,Int.add_mul_bmod_self_left]
theorem wT {N b m:Nat} (hN:N < 2 ^ m) (hb:2 ^ m * b + N < 2 ^ 64):bor .i64 (IntKind.i64.wrap (N:Nat)) (IntKind.i64.wrap ((2 ^ m * b:Nat):Int)) = IntKind.i64.wrap ((N + 2 ^ m * b:Nat):Int):=by
  have e0:∀ x y,bor .i64 x y = IntKind.i64.wrap ((BitVec.ofInt 64 x ||| BitVec.ofInt 64 y).toNat:Int):=fun _ _=>rfl
  rw [e0,pF,pF,BitVec.toNat_or,BitVec.ofInt_natCast,BitVec.ofInt_natCast,BitVec.toNat_ofNat,BitVec.toNat_ofNat,Nat.mod_eq_of_lt (by omega),Nat.mod_eq_of_lt (by omega),Nat.or_comm,
    ← Nat.two_pow_add_eq_or_of_lt hN,Nat.add_comm]
end Go.Sp
end
section
namespace Go.Sp
open Go Go.Fw Go.Fx Go.Proofs
set_option linter.unusedVariables false
set_option linter.unusedSimpArgs false
structure Wf (b:List UInt8) (r:QReader):Prop where
  b_eq:r.b = b
  at0:0 ≤ r.at_
  at1:r.at_ ≤ b.length
  p0:0 ≤ r.place
  p1:r.place ≤ b.length
def Rd (b:List UInt8) (r r':QReader) (enc:List UInt8) (good:Prop):Prop :=
  Wf b r' ∧ (r'.e = 0 → r.e = 0 ∧ good ∧ b.drop r.at_.toNat = enc ++ b.drop r'.at_.toNat)
section
variable {b:List UInt8} {r r1 r2:QReader}
theorem Rd.trans {e1 e2:List UInt8} {g1 g2:Prop} (h:Rd b r r1 e1 g1) (k:Rd b r1 r2 e2 g2):Rd b r r2 (e1 ++ e2) (g1 ∧ g2) :=
  ⟨k.1,fun he=>by
    obtain ⟨h1,h2,h3⟩:=k.2 he
    obtain ⟨h4,h5,h6⟩:=h.2 h1
    exact ⟨h4,⟨h5,h2⟩,by rw [h6,h3,List.append_assoc]⟩⟩
theorem Rd.refl (h:Wf b r):Rd b r r [] True:=⟨h,fun he=>⟨he,trivial,rfl⟩⟩
theorem Rd.imp {e e':List UInt8} {g g':Prop} (h:Rd b r r1 e g) (k:g → e = e' ∧ g'):Rd b r r1 e' g' :=
  ⟨h.1,fun he=>by obtain ⟨h1,h2,h3⟩:=h.2 he; obtain ⟨h4,h5⟩:=k h2; subst h4; exact ⟨h1,h5,h3⟩⟩
theorem Rd.bad (h:Wf b r1) (he:r1.e ≠ 0) {e:List UInt8} {g:Prop}:Rd b r r1 e g:=⟨h,fun k=>absurd k he⟩
theorem iV (hw:Wf b r) {p e:Int} (hp:r.e = 0 → 0 ≤ p ∧ p ≤ b.length) (he:e ≠ 0):∃ r',Sh.aB r p e = some r' ∧ Wf b r' ∧ r'.e ≠ 0 ∧ r'.at_ = r.at_:=by
  unfold Sh.aB
  by_cases h:r.e = 0
  · exact ⟨QReader.mk r.b r.at_ p e,by simp [h],⟨hw.b_eq,hw.at0,hw.at1,(hp h).1,(hp h).2⟩,he,rfl⟩
  · exact ⟨r,by simp [h],hw,h,rfl⟩
theorem fG (hb:b.length ≤ 16777216) (hw:Wf b r) {n:Int} (hn:0 ≤ n ∧ n ≤ 4294967296):∃ x r',Sh.aT r n = some (x,r') ∧ Rd b r r' x ((x.length:Int) = n) ∧ (x.length:Int) ≤ n:=by
  obtain ⟨h1,h2,h3,h4,h5⟩:=hw
  unfold Sh.aT
  have e1:IntKind.i64.wrap ((r.b.length:Int) - r.at_) = (b.length:Int) - r.at_:=by rw [h1]; exact w64 (by omega)
  rw [e1]
  by_cases hlt:(b.length:Int) - r.at_ < n
  · obtain ⟨r',hf,hw',he,_⟩:=iV (b:=b) (r:=r) (p:=(r.b.length:Int)) (e:=236) ⟨h1,h2,h3,h4,h5⟩ (fun _=>by rw [h1]; omega) (by decide)
    refine ⟨[],r',?_,Rd.bad hw' he,by simp; omega⟩
    simp [hlt,hf,Fx.seq,Fx.fin,Sh.cA,he]
  · simp only [hlt,decide_false,cond_false,Fx.seq,Fx.fin,Sh.cA]
    by_cases he:r.e = 0
    · have e2:IntKind.i64.wrap (r.at_ + n) = r.at_ + n:=w64 (by omega)
      have e3:IntKind.i64.wrap (r.at_ + n - n) = r.at_:=by rw [w64 (by omega)]; omega
      simp only [he,decide_true,Bool.not_true,cond_false,e2,e3,Fx.slc]
      rw [if_pos (by rw [h1]; omega)]
      refine ⟨_,_,rfl,⟨⟨h1,by simp; omega,by simp; omega,h4,h5⟩,fun _=>⟨he,?_,?_⟩⟩,?_⟩
      · rw [h1]; simp; omega
      · rw [h1]
        have e4:(r.at_ + n).toNat = r.at_.toNat + ((r.at_ + n).toNat - r.at_.toNat):=by omega
        generalize (r.at_ + n).toNat - r.at_.toNat = m at e4 ⊢
        show _ = _ ++ List.drop (r.at_ + n).toNat b
        rw [e4,← List.drop_drop,List.take_append_drop]
      · rw [h1]; simp; omega
    · exact ⟨[],r,by simp [he],Rd.bad ⟨h1,h2,h3,h4,h5⟩ he,by simp; omega⟩
theorem nS (y:List UInt8 × QReader) (hl:y.1.length ≤ 8):∀ (m k:Nat),m + k = y.1.length →
    Fx.loop (fun (v:Int × Int)=>match v with | (v1,v2)=>Sh.dT y v1 v2) ((k:Int),IntKind.i64.wrap (num (y.1.take k):Nat)) = some (Sum.inl (y.2,IntKind.i64.wrap (num y.1:Nat))):=by
  intro m
  induction m with
  | zero =>
    intro k hk
    rw [Fx.loop_eq]
    have h:¬ ((k:Int) < (y.1.length:Int)):=by omega
    simp [Sh.dT,h,List.take_of_length_le (show y.1.length ≤ k by omega)]
  | succ m ih =>
    intro k hk
    rw [Fx.loop_eq]
    have h:((k:Int) < (y.1.length:Int)):=by omega
    have hkl:k < y.1.length:=by omega
    have e1:IntKind.i64.wrap (8 * (k:Int)) = 8 * (k:Int):=w64 (by omega)
    have e2:IntKind.i64.wrap ((k:Int) + 1) = ((k + 1:Nat):Int):=by rw [w64 (by omega)]; rfl
    have hg:Fx.get y.1 (k:Int) = some y.1[k]:=by simp [Fx.get,List.getElem?_eq_getElem hkl]
    have e3:(8 * (k:Int)).toNat = 8 * k:=by omega
    have e4:shl .i64 (y.1[k].toNat:Int) (8 * k) = IntKind.i64.wrap ((2 ^ (8 * k) * y.1[k].toNat:Nat):Int):=by
      unfold shl
      rw [Nat.min_eq_left (by simp [IntKind.bits]; omega),Int.mul_comm]
      congr 1
    have hN:=tX (y.1.take k)
    rw [List.length_take,Nat.min_eq_left (by omega)] at hN
    have e256:(256:Nat) ^ k = 2 ^ (8 * k):=by rw [Nat.pow_mul]
    have hb:=y.1[k].toNat_lt
    have hb2:2 ^ (8 * k) * y.1[k].toNat + num (y.1.take k) < 2 ^ 64:=by
      have h1:2 ^ (8 * k) * y.1[k].toNat ≤ 2 ^ (8 * k) * 255:=Nat.mul_le_mul_left _ (by omega)
      have h2:2 ^ (8 * k) * 256 ≤ 2 ^ 64:=by
        rw [show (256:Nat) = 2 ^ 8 by rfl,← Nat.pow_add]; exact Nat.pow_le_pow_right (by decide) (by omega)
      rw [← e256] at h1 h2 ⊢
      omega
    have e5:num (y.1.take (k + 1)) = num (y.1.take k) + 2 ^ (8 * k) * y.1[k].toNat:=by
      rw [List.take_add_one,List.getElem?_eq_getElem hkl,Option.toList_some,xV,List.length_take,Nat.min_eq_left (by omega),e256]
    have:=ih (k + 1) (by omega)
    simp only [Sh.dT,h,decide_true,cond_true,hg,Option.bind_some,e1,e2,Fx.must,show (0 ≤ 8 * (k:Int)) by omega,e3,e4,wT (by rw [← e256]; exact hN) hb2]
    rw [← e5]
    exact this
theorem lK (hb:b.length ≤ 16777216) (hw:Wf b r) {n:Nat} (hn:n ≤ 8):∃ v r',Sh.aA r (n:Nat) = some (v,r') ∧ Rd b r r' (lows n v) True ∧ (n ≤ 4 → 0 ≤ v ∧ v < 256 ^ n):=by
  obtain ⟨x,r',ht,hR,hx⟩:=fG hb hw (n:=(n:Nat)) (by omega)
  have hxl:x.length ≤ 8:=by omega
  have hl:=nS (x,r') hxl x.length 0 (by simp)
  refine ⟨IntKind.i64.wrap (num x:Nat),r',?_,hR.imp fun g=>⟨?_,trivial⟩,fun h4=>?_⟩
  · unfold Sh.aA
    have e0:IntKind.i64.wrap ((num (x.take 0):Nat):Int) = 0:=by simp [num]; rfl
    rw [e0] at hl
    simp only [ht,Option.bind_some]
    have:((0:Nat):Int) = 0:=rfl
    rw [this] at hl
    rw [hl]
    rfl
  · have hxn:x.length = n:=by omega
    have:=xR x hxl
    rw [hxn] at this; exact this.symm
  · have h1:=tX x
    have h2:(256:Nat) ^ x.length ≤ 256 ^ n:=Nat.pow_le_pow_right (by decide) (by omega)
    have h3:(256:Nat) ^ n ≤ 256 ^ 4:=Nat.pow_le_pow_right (by decide) h4
    have h3':(256:Nat) ^ 4 = 4294967296:=rfl
    rw [w64 (by omega)]
    refine ⟨by omega,?_⟩
    have:((256:Int) ^ n) = ((256 ^ n:Nat):Int):=by simp
    rw [this]; omega
end
end Go.Sp
end
section
namespace Go.Sp
open Go Go.Fw Go.Fx
set_option linter.unusedVariables false
set_option linter.unusedSimpArgs false
section
variable {σ γ X:Type} {body:σ → Option (σ ⊕ γ)}
theorem eB {s s':σ} {o:Option γ} (h:body s = some (.inl s')) (k:loop body s' = o):loop body s = o:=by rw [loop_eq,h]; exact k
theorem dF {s:σ} {g:γ} (h:body s = some (.inr g)):loop body s = some g:=by rw [loop_eq,h]
theorem dA {α:Type} (n:Nat) (st:Nat → α → σ) (I:Nat → α → Prop) (Q:γ → Prop)
    (h:∀ i a,i < n → I i a → (∃ a',body (st i a) = some (.inl (st (i + 1) a')) ∧ I (i + 1) a') ∨ ∃ g,body (st i a) = some (.inr g) ∧ Q g)
    (h':∀ a,I n a → ∃ g,body (st n a) = some (.inr g) ∧ Q g):∀ m i a,m + i = n → I i a → ∃ g,loop body (st i a) = some g ∧ Q g:=by
  intro m
  induction m with
  | zero =>
    intro i a e hI
    obtain rfl:i = n:=by omega
    obtain ⟨g,hg,hq⟩:=h' a hI
    exact ⟨g,dF hg,hq⟩
  | succ m ih =>
    intro i a e hI
    rcases h i a (by omega) hI with ⟨a',hb,hI'⟩ | ⟨g,hg,hq⟩
    · obtain ⟨g,hg,hq⟩:=ih (i + 1) a' (by omega) hI'
      exact ⟨g,eB hb hg,hq⟩
    · exact ⟨g,dF hg,hq⟩
end
theorem aU {τ γ:Type} {x:τ} {k:τ → Option γ}:Fx.seq (some (Sum.inl x)) k = k x:=rfl
theorem jA {τ γ:Type} {x:γ} {k:τ → Option γ}:Fx.seq (some (Sum.inr x)) k = some x:=rfl
theorem cC {τ γ:Type} {t:Option (τ ⊕ γ)} {o:τ ⊕ γ} {k:τ → Option γ} {u:Option γ} (h:t = some o) (h':Fx.fin k o = u):Fx.seq t k = u:=by rw [h]; exact h'
theorem next64 {i n:Nat} (h:i < n) (hn:n ≤ 4611686018427387904):IntKind.i64.wrap ((i:Int) + 1) = ((i + 1:Nat):Int):=by rw [w64 (by omega)]; rfl
theorem bT {X:Type} {l:List X} {i:Nat} (h:i < l.length):Fx.get l (i:Int) = some l[i]:=by simp [Fx.get,List.getElem?_eq_getElem h]
theorem cS {i n:Nat}:decide ((i:Int) < (n:Int)) = decide (i < n):=by simp
theorem dW {X:Type} {bytes:Nat} {l m:List X} (h:(l.length + m.length) * bytes ≤ 140737488355328) (k:l.length + m.length ≤ 4611686018427387904):Fx.app bytes l m = some (l ++ m):=if_pos ⟨h,k⟩
end Go.Sp
end
section
namespace Go.Sp
open Go Go.Fw Go.Fx Go.Proofs
set_option linter.unusedVariables false
set_option linter.unusedSimpArgs false
def encRest (v:LVal):List UInt8:=(if v.kind = 5 then [Fw.byteOf v.table,Fw.byteOf v.row] else []) ++ (if v.kind = 0 then [] else lows 8 v.x)
def encVal (v:LVal):List UInt8:=Fw.byteOf v.kind :: encRest v
def GoodV (v:LVal):Prop:=(v.kind = 5 ∧ (0 ≤ v.table ∧ v.table ≤ 7) ∧ 0 ≤ v.row ∧ v.row ≤ 63) ∨ v = LVal.zero ∨ ((1 ≤ v.kind ∧ v.kind ≤ 4) ∧ v.table = 0 ∧ v.row = 0)
section
variable {b:List UInt8} {r r1 r2:QReader}
theorem Rd.at_ {e:List UInt8} {g:Prop} (hw:Wf b r) (h:Rd b r r1 e g) (he:r1.e = 0):r1.at_ = r.at_ + e.length:=by
  have h1:=congrArg List.length (h.2 he).2.2
  simp only [List.length_append,List.length_drop] at h1
  have:=hw.at1; have:=h.1.at1; have:=hw.at0; have:=h.1.at0
  omega
theorem dH (hb:b.length ≤ 16777216) (hw:Wf b r):∃ v r',Sh.aA r 1 = some (v,r') ∧ Rd b r r' [Fw.byteOf v] True ∧ 0 ≤ v ∧ v < 256:=by
  obtain ⟨v,r',h1,h2,h3⟩:=lK hb hw (n:=1) (by omega)
  exact ⟨v,r',h1,h2,h3 (by omega)⟩
theorem fL (hb:b.length ≤ 16777216) (hw:Wf b r):∃ v r',Sh.aA r 2 = some (v,r') ∧ Rd b r r' (lows 2 v) True ∧ 0 ≤ v ∧ v < 65536:=by
  obtain ⟨v,r',h1,h2,h3⟩:=lK hb hw (n:=2) (by omega)
  exact ⟨v,r',h1,h2,h3 (by omega)⟩
theorem lH (hb:b.length ≤ 16777216) (hw:Wf b r):∃ v r',Sh.aA r 4 = some (v,r') ∧ Rd b r r' (lows 4 v) True ∧ 0 ≤ v ∧ v < 4294967296:=by
  obtain ⟨v,r',h1,h2,h3⟩:=lK hb hw (n:=4) (by omega)
  exact ⟨v,r',h1,h2,h3 (by omega)⟩
theorem gQ (hb:b.length ≤ 16777216) (hw:Wf b r):∃ v r',Sh.aA r 8 = some (v,r') ∧ Rd b r r' (lows 8 v) True:=by
  obtain ⟨v,r',h1,h2,h3⟩:=lK hb hw (n:=8) (by omega)
  exact ⟨v,r',h1,h2⟩
theorem mK (hb:b.length ≤ 16777216) (hw:Wf b r) {v:Int} (h:Rd b r r1 [Fw.byteOf v] True):∃ r',Sh.aB r1 (IntKind.i64.wrap (r1.at_ - 1)) 236 = some r' ∧ Wf b r' ∧ r'.e ≠ 0:=by
  have h0:=h.1.at0; have h1:=h.1.at1
  obtain ⟨r2,h2,h3,h4,_⟩:=iV h.1 (p:=IntKind.i64.wrap (r1.at_ - 1)) (e:=236) (fun he=>by
    have:=Rd.at_ hw h he
    simp only [List.length_singleton] at this
    have:=hw.at0
    rw [w64 (by omega)]
    omega) (by decide)
  exact ⟨r2,h2,h3,h4⟩
theorem eM (hb:b.length ≤ 16777216) (hw:Wf b r) {n:Int} (hn:0 ≤ n):∃ v r',Sh.aN r n = some (v,r') ∧ Rd b r r' [Fw.byteOf v] True ∧ 0 ≤ v ∧ v ≤ n:=by
  obtain ⟨v,r1,h1,h2,h3⟩:=dH hb hw
  by_cases h:n < v
  · obtain ⟨r2,h4,h5,h6⟩:=mK hb hw h2
    exact ⟨0,r2,by simp [Sh.aN,h1,h,h4],Rd.bad h5 h6,by omega,by omega⟩
  · exact ⟨v,r1,by simp [Sh.aN,h1,h],h2,by omega,by omega⟩
theorem lQ (hb:b.length ≤ 16777216) (hw:Wf b r) {k:Int} (hk:0 ≤ k ∧ k ≤ 5):∃ v r',Sh.aO r k = some (v,r') ∧ Rd b r r' (encRest v) (GoodV v) ∧ v.kind = k:=by
  by_cases h5:k = 5
  · subst h5
    obtain ⟨t,r1,a1,a2,a3,a4⟩:=eM hb hw (n:=7) (by omega)
    obtain ⟨q,r2,b1,b2,b3,b4⟩:=eM hb a2.1 (n:=63) (by omega)
    obtain ⟨x,r3,c1,c2⟩:=gQ hb b2.1
    exact ⟨LVal.mk 5 t q x,r3,by simp [Sh.aO,Sh.aR,Sh.aS,a1,b1,c1,Fx.seq,Fx.fin],
      ((a2.trans b2).trans c2).imp fun _=>⟨by simp [encRest],.inl ⟨rfl,⟨a3,a4⟩,b3,b4⟩⟩,rfl⟩
  · by_cases h0:k = 0
    · subst h0
      exact ⟨LVal.mk 0 0 0 0,r,by simp [Sh.aO,Sh.aR,Sh.aS,Fx.seq,Fx.fin],
        (Rd.refl hw).imp fun _=>⟨by simp [encRest],.inr (.inl rfl)⟩,rfl⟩
    · obtain ⟨x,r3,c1,c2⟩:=gQ hb hw
      exact ⟨LVal.mk k 0 0 x,r3,by simp [Sh.aO,Sh.aR,Sh.aS,c1,h5,h0,Fx.seq,Fx.fin],
        c2.imp fun _=>⟨by simp [encRest,h5,h0],.inr (.inr ⟨⟨by simp; omega,by simp; omega⟩,rfl,rfl⟩)⟩,rfl⟩
theorem jZ (hb:b.length ≤ 16777216) (hw:Wf b r):∃ v r',Sh.cC r = some (v,r') ∧ Rd b r r' (encVal v) (GoodV v):=by
  obtain ⟨k,r1,a1,a2,a3,a4⟩:=eM hb hw (n:=5) (by omega)
  obtain ⟨v,r2,b1,b2,b3⟩:=lQ hb a2.1 ⟨a3,a4⟩
  exact ⟨v,r2,by simp [Sh.cC,a1,b1],(a2.trans b2).imp fun g=>⟨by simp [encVal,b3],g.2⟩⟩
def bit (m:Int) (i:Nat):Bool:=decide (band .i64 (shr .i64 m i) 1 = 1)
def encBytes (l:List UInt8) (m:Int):Nat → Nat → List UInt8
  | _,0=>[]
  | i,n + 1=>(if bit m i then [l.getD i 0] else []) ++ encBytes l m (i + 1) n
theorem lZ (l:List UInt8) (m:Int) (n:Nat):∀ i,encBytes l m i (n + 1) = encBytes l m i n ++ (if bit m (i + n) then [l.getD (i + n) 0] else []):=by
  induction n with
  | zero=>intro i; simp [encBytes]
  | succ n ih=>intro i; rw [encBytes,ih,encBytes,List.append_assoc,show i + 1 + n = i + (n + 1) by omega]
theorem qV (l:List UInt8) (m:Int) (n:Nat):∀ i j x,i + n ≤ j → encBytes (l.set j x) m i n = encBytes l m i n:=by
  induction n with
  | zero=>intro i j x h; rfl
  | succ n ih =>
    intro i j x h
    rw [encBytes,encBytes,ih _ _ _ (by omega)]
    have:(l.set j x).getD i 0 = l.getD i 0:=by simp [List.getD,List.getElem?_set,show ¬ j = i by omega]
    rw [this]
def encSlot (s:LSlot):List UInt8:=if s.ptr.kind = 0 then 0 :: Fw.byteOf s.mask :: encBytes s.bytes.l s.mask 0 8 else encVal s.ptr
def GoodS (s:LSlot):Prop:=(s.ptr = LVal.zero ∧ (0 ≤ s.mask ∧ s.mask < 256) ∧ ∀ i,i < 8 → bit s.mask i = false → s.bytes.l.getD i 0 = 0) ∨
  (s.ptr.kind ≠ 0 ∧ s.ptr.kind ≠ 1 ∧ GoodV s.ptr ∧ s = LSlot.mk s.ptr ⟨List.replicate 8 0,rfl⟩ 0)
theorem qK (hb:b.length ≤ 16777216) (r0:QReader) (m:Int):∀ (n i:Nat),n + i = 8 → ∀ (v:Vec UInt8 8) (r:QReader),Wf b r →
    Rd b r0 r (encBytes v.l m 0 i) True → (∀ j,j < 8 → (i ≤ j ∨ bit m j = false) → v.l.getD j 0 = 0) →
    ∃ v' r',Fx.loop (fun (x:LSlot × QReader × Int)=>match x with | (v1,v2,v3)=>Sh.aM v1 v2 v3) (LSlot.mk LVal.zero v m,r,(i:Int)) = some (Sum.inl (LSlot.mk LVal.zero v' m,r')) ∧
      Rd b r0 r' (encBytes v'.l m 0 8) True ∧ (∀ j,j < 8 → bit m j = false → v'.l.getD j 0 = 0):=by
  intro n
  induction n with
  | zero =>
    intro i hi v r hw hR hz
    obtain rfl:i = 8:=by omega
    exact ⟨v,r,dF (by simp [Sh.aM]),hR,fun j hj h=>hz j hj (.inr h)⟩
  | succ n ih =>
    intro i hi v r hw hR hz
    have hlt:(i:Int) < 8:=by omega
    have e1:IntKind.i64.wrap ((i:Int) + 1) = ((i + 1:Nat):Int):=next64 (n:=8) (by omega) (by omega)
    by_cases hbit:bit m i = true
    · obtain ⟨x,r1,a1,a2,a3⟩:=dH hb hw
      have hvl:=v.len
      have hR':Rd b r0 r1 (encBytes (v.set i (Fw.byteOf x)).l m 0 (i + 1)) True:=(hR.trans a2).imp fun _=>⟨by
        rw [lZ,Vec.set,qV _ _ _ _ _ _ (by omega)]
        simp [hbit,List.getD,List.getElem?_set,hvl,show i < 8 by omega],trivial⟩
      obtain ⟨v',r',c1,c2⟩:=ih (i + 1) (by omega) (v.set i (Fw.byteOf x)) r1 a2.1 hR' (fun j hj h=>by
        have hij:i ≠ j:=by rintro rfl; rcases h with h | h; omega; rw [h] at hbit; cases hbit
        have:=hz j hj (h.imp (fun h=>by omega) id)
        simpa [Vec.set,List.getD,List.getElem?_set,hij] using this)
      refine ⟨v',r',eB ?_ c1,c2⟩
      have hb1:band .i64 (shr .i64 m i) 1 = 1:=by simpa [bit] using hbit
      have hg:Fx.get v.l (i:Int) = some (v.l[i]'(by omega)):=bT (by omega)
      simp [Sh.aM,Sh.bZ,hlt,Fx.must,hb1,a1,hg,Fx.seq,Fx.fin,e1]
    · have hR':Rd b r0 r (encBytes v.l m 0 (i + 1)) True:=hR.imp fun _=>⟨by rw [lZ]; simp [hbit],trivial⟩
      obtain ⟨v',r',c1,c2⟩:=ih (i + 1) (by omega) v r hw hR' (fun j hj h=>hz j hj (by
        rcases h with h | h
        · exact .inl (by omega)
        · exact .inr h))
      refine ⟨v',r',eB ?_ c1,c2⟩
      have hb1:¬ band .i64 (shr .i64 m i) 1 = 1:=by simpa [bit] using hbit
      simp [Sh.aM,Sh.bZ,hlt,Fx.must,hb1,Fx.seq,Fx.fin,e1]
theorem zr8:∀ j,j < 8 → (List.replicate 8 (0:UInt8)).getD j 0 = 0:=by decide
theorem lV (hb:b.length ≤ 16777216) (hw:Wf b r):∃ s r',Sh.aP r = some (s,r') ∧ Rd b r r' (encSlot s) (GoodS s):=by
  obtain ⟨k,r1,a1,a2,a3,a4⟩:=eM hb hw (n:=5) (by omega)
  by_cases h0:k = 0
  · subst h0
    obtain ⟨m,r2,b1,b2,b3,b4⟩:=dH hb a2.1
    obtain ⟨v',r',c1,c2,c3⟩:=qK hb r2 m 8 0 rfl ⟨List.replicate 8 0,rfl⟩ r2 b2.1 (Rd.refl b2.1) (fun j hj _=>zr8 j hj)
    refine ⟨LSlot.mk LVal.zero v' m,r',?_,((a2.trans b2).trans c2).imp fun g=>⟨?_,.inl ⟨rfl,⟨b3,b4⟩,c3⟩⟩⟩
    · simp only [Sh.aP,a1,b1,Option.bind_some,decide_true,cond_true]
      exact (congrArg (fun t=>Fx.seq t _) c1).trans rfl
    · simp [encSlot,LVal.zero]; rfl
  · by_cases h1:k = 1
    · subst h1
      obtain ⟨r2,b1,b2,b3⟩:=mK hb hw a2
      exact ⟨LSlot.zero,r2,by simp [Sh.aP,a1,b1],Rd.bad b2 b3⟩
    · obtain ⟨v,r2,b1,b2,b3⟩:=lQ hb a2.1 ⟨a3,a4⟩
      exact ⟨LSlot.mk v ⟨List.replicate 8 0,rfl⟩ 0,r2,by simp [Sh.aP,a1,b1,h0,h1],(a2.trans b2).imp fun g=>⟨by simp [encSlot,b3,h0,encVal],.inr ⟨by simpa [b3] using h0,by simpa [b3] using h1,g.2,rfl⟩⟩⟩
end
end Go.Sp
end
section
namespace Go.Sp
open Go Go.Fw Go.Fx Go.Proofs
set_option linter.unusedVariables false
set_option linter.unusedSimpArgs false
theorem dS (x lo hi:Int):Sh.bT x lo hi = some (decide (lo ≤ x ∧ x ≤ hi)):=by
  unfold Sh.bT
  by_cases h:lo ≤ x <;> simp [h,Fx.seq,Fx.fin,Sh.kP]
theorem oC {x y:List UInt8} (h:y.length = x.length) (hx:x.length ≤ 1099511627776):∃ l,Sh.eM x y = some l ∧ l.length ≤ x.length:=by
  unfold Sh.eM
  obtain ⟨g,h1,l,h2,h3⟩:=dA (body:=fun (v:List Int × Int)=>match v with | (v1,v2)=>Sh.bC x y v1 v2) x.length (fun i (a:List Int)=>(a,(i:Int))) (fun i a=>a.length ≤ i) (fun g=>∃ l,g = Sum.inl l ∧ l.length ≤ x.length)
    (fun i a hi ha=>.inl (by
      by_cases hc:((x[i]).toNat:Int) = ((y[i]'(by omega)).toNat:Int)
      · exact ⟨a,by simp [Sh.bC,Sh.dH,hi,bT hi,bT (show i < y.length by omega),hc,Fx.seq,Fx.fin,next64 hi (by omega)],by omega⟩
      · exact ⟨a ++ [(i:Int)],by simp [Sh.bC,Sh.dH,hi,bT hi,bT (show i < y.length by omega),hc,Fx.seq,Fx.fin,next64 hi (by omega),dW (bytes:=8) (l:=a) (m:=[(i:Int)]) (by simp; omega) (by simp; omega)],by simp; omega⟩))
    (fun a ha=>⟨Sum.inl a,by simp [Sh.bC],a,rfl,ha⟩) x.length 0 [] (by omega) (by simp)
  subst h2
  exact ⟨l,(congrArg (fun t=>Fx.seq t _) h1).trans rfl,h3⟩
theorem pG {ps:List QPiece} (hn:ps.length ≤ 1099511627776):∃ t,Sh.dX ps = some t:=by
  unfold Sh.dX
  obtain ⟨g,h1,h2⟩:=dA (body:=fun (v:Int × Int × Int)=>match v with | (v1,v2,v3)=>Sh.aL ps v1 v2 v3) ps.length (fun i (a:Int × Int)=>((i:Int),a.1,a.2)) (fun i a=>True) (fun g=>∃ t,Fx.fin (fun _=>Sh.iB) g = some t)
    (fun i a hi _=>by
      obtain ⟨t,f⟩:=a
      generalize hp:ps[i] = p
      have key:∀ t f,(∃ a',Sh.bY (i:Int) p t f = some (Sum.inl (((i + 1:Nat):Int),a'))) ∨ Sh.bY (i:Int) p t f = some (Sum.inr (Sum.inr false)):=by
        intro t f
        unfold Sh.bY
        by_cases c1:(p.old.length:Int) = 0
        · right; simp [c1,Fx.seq,Fx.fin,Sh.aU]
        by_cases c2:(p.new.length:Int) = (p.old.length:Int)
        · by_cases c3:65535 < (p.old.length:Int)
          · right; simp [c1,c2,c3,Fx.seq,Fx.fin,Sh.aU]
          · simp only [c1,c2,c3,decide_false,decide_true,cond_false,Bool.not_true,dS,Option.bind_some]
            by_cases c4:f ≤ p.from_ ∧ p.from_ ≤ IntKind.i64.wrap (65535 - (p.old.length:Int))
            · obtain ⟨l,hl,_⟩:=oC (x:=p.old) (y:=p.new) (by omega) (by omega)
              simp only [c4,decide_true,Bool.not_true,cond_false,and_self,hl,Option.bind_some,Fx.seq,Fx.fin,Sh.aU]
              by_cases c5:(l.length:Int) < (p.old.length:Int)
              · right; simp [c5]
              · left; exact ⟨_,by simp only [c5,decide_false,cond_false,next64 hi (show ps.length ≤ _ by omega)]; rfl⟩
            · right; simp [c4,Fx.seq,Fx.fin,Sh.aU]
        · right; simp [c1,c2,Fx.seq,Fx.fin,Sh.aU]
      have hb:∀ (u:Int × Int),Sh.aL ps (i:Int) u.1 u.2 = Sh.aL ps (i:Int) u.1 u.2:=fun _=>rfl
      show (∃ a',Sh.aL ps (i:Int) t f = _ ∧ _) ∨ ∃ g,Sh.aL ps (i:Int) t f = _ ∧ _
      simp only [Sh.aL,cS,hi,decide_true,cond_true,bT hi,hp,Option.bind_some,dS]
      by_cases c:t ≤ p.table ∧ p.table ≤ 7
      · simp only [c,and_self,decide_true,Bool.not_true,cond_false]
        by_cases c':t < p.table
        · simp only [c',decide_true,cond_true,Fx.seq,Fx.fin]
          rcases key p.table 0 with ⟨a',h⟩ | h
          · exact .inl ⟨a',by rw [h],trivial⟩
          · exact .inr ⟨_,h,false,rfl⟩
        · simp only [c',decide_false,cond_false,Fx.seq,Fx.fin]
          rcases key t f with ⟨a',h⟩ | h
          · exact .inl ⟨a',by rw [h],trivial⟩
          · exact .inr ⟨_,h,false,rfl⟩
      · simp only [c,decide_false,Bool.not_false,cond_true,Fx.seq,Fx.fin]
        exact .inr ⟨_,rfl,false,rfl⟩)
    (fun a _=>⟨Sum.inl (),by simp [Sh.aL],true,rfl⟩) ps.length 0 (-1,0) (by omega) trivial
  obtain ⟨t,h2⟩:=h2
  exact ⟨t,(congrArg (fun t=>Fx.seq t _) h1).trans h2⟩
theorem kZ {m:QMark} (h1:m.regs.length ≤ 1099511627776) (h2:m.slots.length ≤ 1099511627776) (h3:m.pieces.length ≤ 1099511627776):∃ t,Sh.dN m = some t:=by
  have k5:∃ t,Sh.dK m = some t:=by
    obtain ⟨t,ht⟩:=pG h3
    exact ⟨t,by simp [Sh.dK,ht]⟩
  have k2:∃ t,Sh.dJ m = some t:=by
    unfold Sh.dJ
    obtain ⟨g,e1,t,e2⟩:=dA (body:=fun (v:Int × Int)=>match v with | (v1,v2)=>Sh.bK m v1 v2) m.slots.length (fun i (a:Int)=>(a,(i:Int))) (fun i a=>True) (fun g=>∃ t,Fx.fin (fun _=>Sh.dK m) g = some t)
      (fun i a hi _=>by
        show (∃ a',Sh.bK m a (i:Int) = _ ∧ _) ∨ ∃ g,Sh.bK m a (i:Int) = _ ∧ _
        simp only [Sh.bK,cS,hi,decide_true,cond_true,bT hi,Option.bind_some,dS,Sh.jS]
        generalize m.slots[i] = p
        by_cases c:IntKind.i64.wrap (a + 1) ≤ p.slot ∧ p.slot ≤ 31
        · simp only [c,and_self,decide_true,Bool.not_true,cond_false,Fx.seq,Fx.fin]
          by_cases c':p.old = p.new
          · simp only [c',decide_true,cond_true]; exact .inr ⟨_,rfl,false,rfl⟩
          · simp only [c',decide_false,cond_false,next64 hi (show m.slots.length ≤ _ by omega)]; exact .inl ⟨_,rfl,trivial⟩
        · simp only [c,decide_false,Bool.not_false,cond_true,Fx.seq,Fx.fin]; exact .inr ⟨_,rfl,false,rfl⟩)
      (fun a _=>⟨Sum.inl (),by simp [Sh.bK],k5⟩) m.slots.length 0 (-1) (by omega) trivial
    exact ⟨t,(congrArg (fun t=>Fx.seq t _) e1).trans e2⟩
  have k1:∀ v,∃ t,Sh.dI m v = some t:=by
    intro v
    unfold Sh.dI
    cases v
    · simp only [cond_false]
      obtain ⟨g,e1,t,e2⟩:=dA (body:=fun (v:Int × Int)=>match v with | (v1,v2)=>Sh.bJ m v1 v2) m.regs.length (fun i (a:Int)=>((i:Int),a)) (fun i a=>True) (fun g=>∃ t,Fx.fin (fun _=>Sh.dJ m) g = some t)
        (fun i a hi _=>by
          show (∃ a',Sh.bJ m (i:Int) a = _ ∧ _) ∨ ∃ g,Sh.bJ m (i:Int) a = _ ∧ _
          simp only [Sh.bJ,cS,hi,decide_true,cond_true,bT hi,Option.bind_some,dS,Sh.jR]
          generalize m.regs[i] = p
          by_cases c:IntKind.i64.wrap (a + 1) ≤ p.reg ∧ p.reg ≤ 10
          · simp only [c,and_self,decide_true,Bool.not_true,cond_false,Fx.seq,Fx.fin]
            by_cases c':p.old = p.new
            · simp only [c',decide_true,cond_true]; exact .inr ⟨_,rfl,false,rfl⟩
            · simp only [c',decide_false,cond_false,next64 hi (show m.regs.length ≤ _ by omega)]; exact .inl ⟨_,rfl,trivial⟩
          · simp only [c,decide_false,Bool.not_false,cond_true,Fx.seq,Fx.fin]; exact .inr ⟨_,rfl,false,rfl⟩)
        (fun a _=>⟨Sum.inl (),by simp [Sh.bJ],k2⟩) m.regs.length 0 (-1) (by omega) trivial
      exact ⟨t,(congrArg (fun t=>Fx.seq t _) e1).trans e2⟩
    · exact ⟨false,rfl⟩
  unfold Sh.dN
  simp only [dS,Option.bind_some]
  by_cases c:0 ≤ m.at_ ∧ m.at_ ≤ 4095
  · by_cases c':0 ≤ m.next ∧ m.next ≤ 4095
    · simp only [c,c',and_self,decide_true,Bool.not_true,cond_false,Fx.seq,Fx.fin]; exact k1 _
    · simp only [c,c',and_self,decide_true,decide_false,Bool.not_false,cond_true,Bool.not_true,cond_false,Fx.seq,Fx.fin]; exact k1 _
  · simp only [c,decide_false,Bool.not_false,cond_true,Fx.seq,Fx.fin]; exact k1 _
end Go.Sp
end
section
namespace Go.Sp
open Go Go.Fw Go.Fx Go.Proofs
set_option linter.unusedVariables false
set_option linter.unusedSimpArgs false
def encTurn (t:LTurn):List UInt8:=[Fw.byteOf t.reg] ++ encVal t.old ++ encVal t.new
def encCell (t:LCell):List UInt8:=[Fw.byteOf t.slot] ++ encSlot t.old ++ encSlot t.new
def encPiece (p:QPiece):List UInt8:=[Fw.byteOf (IntKind.i64.wrap (p.table + 1))] ++ lows 2 p.from_ ++ lows 2 (p.old.length:Int) ++ p.old ++ p.new
def encMark (m:QMark):List UInt8:=lows 2 m.at_ ++ lows 2 m.next ++ [if m.done then 1 else 0] ++ [Fw.byteOf (m.regs.length:Int)] ++ m.regs.flatMap encTurn ++
  [Fw.byteOf (m.slots.length:Int)] ++ m.slots.flatMap encCell ++ lows 4 (m.pieces.length:Int) ++ m.pieces.flatMap encPiece ++ [Fw.byteOf (m.sent.length:Int)] ++ m.sent.flatMap (lows 8)
def encRow (t:List UInt8):List UInt8:=lows 2 (t.length:Int) ++ t
def encRecord (p:QRecord):List UInt8:=[84,82,67,49] ++ lows 2 (p.in_.ctx.length:Int) ++ p.in_.ctx ++ [Fw.byteOf (p.in_.tables.length:Int)] ++ p.in_.tables.flatMap encRow ++
  [Fw.byteOf p.end_] ++ lows 4 (p.marks.length:Int) ++ p.marks.flatMap encMark
def GoodM (m:QMark):Prop:=(∀ t ∈ m.regs,GoodV t.old ∧ GoodV t.new) ∧ (∀ t ∈ m.slots,GoodS t.old ∧ GoodS t.new) ∧ Sh.dN m = some true ∧ m.regs.length ≤ 255 ∧ m.slots.length ≤ 255 ∧ m.pieces.length ≤ 4294967296
def GoodR (p:QRecord):Prop:=p.in_.ctx.length ≤ 65535 ∧ p.in_.tables.length ≤ 8 ∧ (∀ t ∈ p.in_.tables,t.length ≤ 65535) ∧ (p.end_ = 0 ∨ (80 ≤ p.end_ ∧ p.end_ ≤ 89)) ∧ ∀ m ∈ p.marks,GoodM m
section
variable {b:List UInt8} {r r1 r2:QReader}
theorem times {σ γ X:Type} (N:Nat) {body:σ → Option (σ ⊕ γ)} (st:List X → QReader → Int → σ) (out:List X → QReader → γ) (enc:X → List UInt8) (Good:X → Prop)
    (hend:∀ xs r n,(n = 0 ∨ r.e ≠ 0) → body (st xs r n) = some (.inr (out xs r)))
    (hstep:∀ xs r (m:Nat),Wf b r → r.e = 0 → m < N → xs.length < N → ∃ x r',body (st xs r ((m + 1:Nat):Int)) = some (.inl (st (xs ++ [x]) r' (m:Int))) ∧ Rd b r r' (enc x) (Good x)) :
    ∀ (m:Nat) xs r,Wf b r → xs.length + m ≤ N → ∃ ys r',loop body (st xs r (m:Int)) = some (out (xs ++ ys) r') ∧ Rd b r r' (ys.flatMap enc) (ys.length = m ∧ ∀ y ∈ ys,Good y) ∧ ys.length ≤ m:=by
  intro m
  induction m with
  | zero=>intro xs r hw _; exact ⟨[],r,by rw [List.append_nil]; exact dF (hend _ _ _ (.inl rfl)),(Rd.refl hw).imp fun _=>⟨rfl,rfl,by simp⟩,Nat.le_refl _⟩
  | succ m ih =>
    intro xs r hw hN
    by_cases he:r.e = 0
    · obtain ⟨x,r1,h1,h2⟩:=hstep xs r m hw he (by omega) (by omega)
      obtain ⟨ys,r2,h3,h4,h5⟩:=ih (xs ++ [x]) r1 h2.1 (by simp; omega)
      refine ⟨x :: ys,r2,eB h1 (by rw [h3]; simp),(h2.trans h4).imp fun g=>⟨by simp,by simp [g.2.1],fun y hy=>?_⟩,by simp; omega⟩
      rcases List.mem_cons.1 hy with rfl | hy
      · exact g.1
      · exact g.2.2 y hy
    · exact ⟨[],r,by rw [List.append_nil]; exact dF (hend _ _ _ (.inr he)),Rd.bad hw he,Nat.zero_le _⟩
theorem down64 {m:Nat} (h:m < 4611686018427387904):IntKind.i64.wrap (((m + 1:Nat):Int) - 1) = (m:Int):=by rw [w64 (by omega)]; omega
theorem eO {m:Nat}:decide ((0:Int) < ((m + 1:Nat):Int)) = true:=by simp
theorem eX {x:List UInt8} {n:Int} (h:(x.length:Int) ≤ n) (hn:n ≤ 4294967296):Sh.iF x = some x:=by
  unfold Sh.iF; rw [dW (by simp; omega) (by simp; omega)]; rfl
theorem pS (hb:b.length ≤ 16777216) (hw:Wf b r) {n:Int} (hn:0 ≤ n ∧ n < 256):∃ ys r',Fx.loop (fun (v:List LTurn × QReader × Int)=>match v with | (v1,v2,v3)=>Sh.aF v1 v2 v3) ([],r,n) = some (Sum.inl (ys,r')) ∧
    Rd b r r' (ys.flatMap encTurn) ((ys.length:Int) = n ∧ ∀ y ∈ ys,GoodV y.old ∧ GoodV y.new) ∧ (ys.length:Int) ≤ n:=by
  obtain ⟨m,rfl⟩ : ∃ m:Nat,n = m:=⟨n.toNat,by omega⟩
  obtain ⟨ys,r',h1,h2,h3⟩:=times (b:=b) 255 (body:=fun (v:List LTurn × QReader × Int)=>match v with | (v1,v2,v3)=>Sh.aF v1 v2 v3) (fun xs r n=>(xs,r,n)) (fun xs r=>Sum.inl (xs,r)) encTurn (fun y=>GoodV y.old ∧ GoodV y.new)
    (fun xs r n h=>by
      show Sh.aF xs r n = _
      by_cases hp:0 < n
      · rcases h with h | h
        · omega
        · simp [Sh.aF,Sh.aY,hp,h,Fx.seq,Fx.fin]
      · simp [Sh.aF,Sh.aY,hp,Fx.seq,Fx.fin])
    (fun xs r m hw he hm hx=>by
      obtain ⟨k,r1,a1,a2,a3⟩:=dH hb hw
      obtain ⟨v,r2,b1,b2⟩:=jZ hb a2.1
      obtain ⟨u,r3,c1,c2⟩:=jZ hb b2.1
      refine ⟨LTurn.mk k v u,r3,?_,((a2.trans b2).trans c2).imp fun g=>⟨rfl,g.1.2,g.2⟩⟩
      show Sh.aF xs r _ = _
      simp only [Sh.aF,Sh.aY,Sh.eY,eO,cond_true,he,decide_true,Fx.seq,Fx.fin,a1,b1,c1,Option.bind_some,dW (bytes:=72) (l:=xs) (m:=[LTurn.mk k v u]) (by simp; omega) (by simp; omega),down64 (show m < _ by omega)])
    m [] r hw (by simp; omega)
  exact ⟨ys,r',h1,h2.imp fun g=>⟨rfl,by rw [g.1],g.2⟩,by omega⟩
theorem oR (hb:b.length ≤ 16777216) (hw:Wf b r) (ts:List LTurn) {n:Int} (hn:0 ≤ n ∧ n < 256):∃ ys r',Fx.loop (fun (v:List LTurn × List LCell × QReader × Int)=>match v with | (v0,v1,v2,v3)=>Sh.aG v0 v1 v2 v3) (ts,[],r,n) = some (Sum.inl (ts,ys,r')) ∧
    Rd b r r' (ys.flatMap encCell) ((ys.length:Int) = n ∧ ∀ y ∈ ys,GoodS y.old ∧ GoodS y.new) ∧ (ys.length:Int) ≤ n:=by
  obtain ⟨m,rfl⟩ : ∃ m:Nat,n = m:=⟨n.toNat,by omega⟩
  obtain ⟨ys,r',h1,h2,h3⟩:=times (b:=b) 255 (body:=fun (v:List LTurn × List LCell × QReader × Int)=>match v with | (v0,v1,v2,v3)=>Sh.aG v0 v1 v2 v3) (fun xs r n=>(ts,xs,r,n)) (fun xs r=>Sum.inl (ts,xs,r)) encCell (fun y=>GoodS y.old ∧ GoodS y.new)
    (fun xs r n h=>by
      show Sh.aG ts xs r n = _
      by_cases hp:0 < n
      · rcases h with h | h
        · omega
        · simp [Sh.aG,Sh.aZ,hp,h,Fx.seq,Fx.fin]
      · simp [Sh.aG,Sh.aZ,hp,Fx.seq,Fx.fin])
    (fun xs r m hw he hm hx=>by
      obtain ⟨k,r1,a1,a2,a3⟩:=dH hb hw
      obtain ⟨v,r2,b1,b2⟩:=lV hb a2.1
      obtain ⟨u,r3,c1,c2⟩:=lV hb b2.1
      refine ⟨LCell.mk k v u,r3,?_,((a2.trans b2).trans c2).imp fun g=>⟨rfl,g.1.2,g.2⟩⟩
      show Sh.aG ts xs r _ = _
      simp only [Sh.aG,Sh.aZ,Sh.fA,eO,cond_true,he,decide_true,Fx.seq,Fx.fin,a1,b1,c1,Option.bind_some,dW (bytes:=104) (l:=xs) (m:=[LCell.mk k v u]) (by simp; omega) (by simp; omega),down64 (show m < _ by omega)])
    m [] r hw (by simp; omega)
  exact ⟨ys,r',h1,h2.imp fun g=>⟨rfl,by rw [g.1],g.2⟩,by omega⟩
theorem nF (hb:b.length ≤ 16777216) (hw:Wf b r) (ts:List LTurn) (cs:List LCell) {n:Int} (hn:0 ≤ n ∧ n < 4294967296):∃ ys r',Fx.loop (fun (v:List LTurn × List LCell × List QPiece × QReader × Int)=>match v with | (v0,v4,v1,v2,v3)=>Sh.aD v0 v4 v1 v2 v3) (ts,cs,[],r,n) = some (Sum.inl (ts,cs,ys,r')) ∧
    Rd b r r' (ys.flatMap encPiece) ((ys.length:Int) = n ∧ ∀ y ∈ ys,y.old.length ≤ 65535) ∧ (ys.length:Int) ≤ n:=by
  obtain ⟨m,rfl⟩ : ∃ m:Nat,n = m:=⟨n.toNat,by omega⟩
  obtain ⟨ys,r',h1,h2,h3⟩:=times (b:=b) 4294967296 (body:=fun (v:List LTurn × List LCell × List QPiece × QReader × Int)=>match v with | (v0,v4,v1,v2,v3)=>Sh.aD v0 v4 v1 v2 v3) (fun xs r n=>(ts,cs,xs,r,n)) (fun xs r=>Sum.inl (ts,cs,xs,r)) encPiece (fun y=>y.old.length ≤ 65535)
    (fun xs r n h=>by
      show Sh.aD ts cs xs r n = _
      by_cases hp:0 < n
      · rcases h with h | h
        · omega
        · simp [Sh.aD,Sh.aV,hp,h,Fx.seq,Fx.fin]
      · simp [Sh.aD,Sh.aV,hp,Fx.seq,Fx.fin])
    (fun xs r m hw he hm hx=>by
      obtain ⟨k,r1,a1,a2,a3⟩:=dH hb hw
      obtain ⟨v,r2,b1,b2,b3⟩:=fL hb a2.1
      obtain ⟨u,r3,c1,c2,c3⟩:=fL hb b2.1
      obtain ⟨x,r4,d1,d2,d3⟩:=fG hb c2.1 (n:=u) (by omega)
      obtain ⟨y,r5,e1,e2,e3⟩:=fG hb d2.1 (n:=u) (by omega)
      refine ⟨QPiece.mk (IntKind.i64.wrap (k - 1)) v x y,r5,?_,((((a2.trans b2).trans c2).trans d2).trans e2).imp fun g=>⟨?_,by have:=g.1.2; simp only; omega⟩⟩
      · show Sh.aD ts cs xs r _ = _
        simp only [Sh.aD,Sh.aV,Sh.eF,Sh.eH,eO,cond_true,he,decide_true,Fx.seq,Fx.fin,a1,b1,c1,d1,e1,eX d3 (by omega),eX e3 (by omega),Option.bind_some,dW (bytes:=64) (l:=xs) (m:=[QPiece.mk (IntKind.i64.wrap (k - 1)) v x y]) (by simp; omega) (by simp; omega),down64 (show m < _ by omega)]
      · have e:IntKind.i64.wrap (IntKind.i64.wrap (k - 1) + 1) = k:=by rw [w64 (x:=k - 1) (by omega),w64 (by omega)]; omega
        simp only [encPiece,e,g.1.2,List.append_assoc])
    m [] r hw (by simp; omega)
  exact ⟨ys,r',h1,h2.imp fun g=>⟨rfl,by rw [g.1],g.2⟩,by omega⟩
theorem pN (hb:b.length ≤ 16777216) (hw:Wf b r) (a t:Int) (d:Bool) (ts:List LTurn) (cs:List LCell) (ps:List QPiece) {n:Int} (hn:0 ≤ n ∧ n < 256):∃ ys r',Fx.loop (fun (v:QMark × QReader × Int)=>match v with | (v1,v2,v3)=>Sh.aE v1 v2 v3) (QMark.mk a t d ts cs ps [],r,n) = some (Sum.inl (QMark.mk a t d ts cs ps ys,r')) ∧
    Rd b r r' (ys.flatMap (lows 8)) ((ys.length:Int) = n) ∧ (ys.length:Int) ≤ n:=by
  obtain ⟨m,rfl⟩ : ∃ m:Nat,n = m:=⟨n.toNat,by omega⟩
  obtain ⟨ys,r',h1,h2,h3⟩:=times (b:=b) 255 (body:=fun (v:QMark × QReader × Int)=>match v with | (v1,v2,v3)=>Sh.aE v1 v2 v3) (fun xs r n=>(QMark.mk a t d ts cs ps xs,r,n)) (fun xs r=>Sum.inl (QMark.mk a t d ts cs ps xs,r)) (lows 8) (fun y=>True)
    (fun xs r n h=>by
      show Sh.aE _ r n = _
      by_cases hp:0 < n
      · rcases h with h | h
        · omega
        · simp [Sh.aE,Sh.aW,hp,h,Fx.seq,Fx.fin]
      · simp [Sh.aE,Sh.aW,hp,Fx.seq,Fx.fin])
    (fun xs r m hw he hm hx=>by
      obtain ⟨k,r1,a1,a2⟩:=gQ hb hw
      refine ⟨k,r1,?_,a2⟩
      show Sh.aE _ r _ = _
      simp only [Sh.aE,Sh.aW,Sh.eG,eO,cond_true,he,decide_true,Fx.seq,Fx.fin,a1,Option.bind_some,dW (bytes:=8) (l:=xs) (m:=[k]) (by simp; omega) (by simp; omega),down64 (show m < _ by omega)])
    m [] r hw (by simp; omega)
  exact ⟨ys,r',h1,h2.imp fun g=>⟨rfl,by rw [g.1]⟩,by omega⟩
theorem vM {v:Int} (h:0 ≤ v ∧ v ≤ 1):Fw.byteOf v = if decide (v = 1) then 1 else 0:=by
  have:v = 0 ∨ v = 1:=by omega
  rcases this with rfl | rfl <;> rfl
theorem aAb (hb:b.length ≤ 16777216) (hw:Wf b r):∃ m r',Sh.bM r = some (m,r') ∧ Rd b r r' (encMark m) (GoodM m):=by
  obtain ⟨a,r1,a1,a2,a3⟩:=fL hb hw
  obtain ⟨t,r2,b1,b2,b3⟩:=fL hb a2.1
  obtain ⟨d,r3,c1,c2,c3⟩:=eM hb b2.1 (n:=1) (by omega)
  obtain ⟨n1,r4,d1,d2,d3⟩:=dH hb c2.1
  obtain ⟨ts,r5,e1,e2,e3⟩:=pS hb d2.1 d3
  obtain ⟨n2,r6,f1,f2,f3⟩:=dH hb e2.1
  obtain ⟨cs,r7,g1,g2,g3⟩:=oR hb f2.1 ts f3
  obtain ⟨n3,r8,h1,h2,h3⟩:=lH hb g2.1
  obtain ⟨ps,r9,i1,i2,i3⟩:=nF hb h2.1 ts cs h3
  obtain ⟨n4,r10,j1,j2,j3⟩:=dH hb i2.1
  obtain ⟨ss,r11,k1,k2,k3⟩:=pN hb j2.1 a t (decide (d = 1)) ts cs ps j3
  have hR:=((((((((((a2.trans b2).trans c2).trans d2).trans e2).trans f2).trans g2).trans h2).trans i2).trans j2).trans k2)
  obtain ⟨q,hq⟩:=kZ (m:=QMark.mk a t (decide (d = 1)) ts cs ps ss) (by simp; omega) (by simp; omega) (by simp; omega)
  have step:Sh.bM r = Fx.seq ((Sh.dN (QMark.mk a t (decide (d = 1)) ts cs ps ss)).bind fun y16827=>(bif (!y16827) then ((Sh.aB r11 r.at_ 230).bind fun y16830=>(some (Sum.inl y16830))) else (some (Sum.inl r11)))) fun v16823=>Sh.aQ (QMark.mk a t (decide (d = 1)) ts cs ps ss) v16823:=by
    simp only [Sh.bM,a1,b1,c1,Option.bind_some,aU,Sh.fB,d1]
    refine cC e1 ?_
    simp only [Fx.fin,Sh.eX,f1,Option.bind_some]
    refine cC g1 ?_
    simp only [Fx.fin,Sh.eZ,h1,Option.bind_some]
    refine cC i1 ?_
    simp only [Fx.fin,Sh.eE,j1,Option.bind_some]
    exact cC k1 rfl
  rw [step,hq]
  have hw11:=k2.1
  cases q
  · have:=hw.at0; have:=hw.at1
    obtain ⟨r12,l1,l2,l3,_⟩:=iV hw11 (p:=r.at_) (e:=230) (fun _=>by omega) (by decide)
    exact ⟨_,r12,by simp only [Option.bind_some,Bool.not_false,cond_true,l1,Fx.seq,Fx.fin,Sh.aQ]; rfl,Rd.bad l2 l3⟩
  · refine ⟨_,r11,by simp only [Option.bind_some,Bool.not_true,cond_false,Fx.seq,Fx.fin,Sh.aQ]; rfl,hR.imp fun g=>?_⟩
    obtain ⟨⟨⟨⟨⟨⟨⟨_,ge⟩,_⟩,gg⟩,_⟩,gi⟩,_⟩,gk⟩:=g
    refine ⟨?_,ge.2,gg.2,hq,by simp; omega,by simp; omega,by simp; omega⟩
    simp only [encMark,vM c3,gk,gi.1,gg.1,ge.1]
theorem rK (hb:b.length ≤ 16777216) (hw:Wf b r) (c:List UInt8) {n:Int} (hn:0 ≤ n ∧ n ≤ 8):∃ ys r',Fx.loop (fun (v:QReader × QInput × Int)=>match v with | (v1,v2,v3)=>Sh.aI v1 v2 v3) (r,QInput.mk c [],n) = some (Sum.inl (r',QInput.mk c ys)) ∧
    Rd b r r' (ys.flatMap encRow) ((ys.length:Int) = n ∧ ∀ y ∈ ys,y.length ≤ 65535) ∧ (ys.length:Int) ≤ n:=by
  obtain ⟨m,rfl⟩ : ∃ m:Nat,n = m:=⟨n.toNat,by omega⟩
  obtain ⟨ys,r',h1,h2,h3⟩:=times (b:=b) 255 (body:=fun (v:QReader × QInput × Int)=>match v with | (v1,v2,v3)=>Sh.aI v1 v2 v3) (fun xs r n=>(r,QInput.mk c xs,n)) (fun xs r=>Sum.inl (r,QInput.mk c xs)) encRow (fun y=>y.length ≤ 65535)
    (fun xs r n h=>by
      show Sh.aI r _ n = _
      by_cases hp:0 < n
      · rcases h with h | h
        · omega
        · simp [Sh.aI,Sh.bU,hp,h,Fx.seq,Fx.fin]
      · simp [Sh.aI,Sh.bU,hp,Fx.seq,Fx.fin])
    (fun xs r m hw he hm hx=>by
      obtain ⟨u,r1,c1,c2,c3⟩:=fL hb hw
      obtain ⟨x,r2,d1,d2,d3⟩:=fG hb c2.1 (n:=u) (by omega)
      refine ⟨x,r2,?_,(c2.trans d2).imp fun g=>⟨by simp only [encRow,g.2],by omega⟩⟩
      show Sh.aI r _ _ = _
      simp only [Sh.aI,Sh.bU,Sh.hL,eO,cond_true,he,decide_true,Fx.seq,Fx.fin,c1,d1,eX d3 (by omega),Option.bind_some,dW (bytes:=24) (l:=xs) (m:=[x]) (by simp; omega) (by simp; omega),down64 (show m < _ by omega)])
    m [] r hw (by simp; omega)
  exact ⟨ys,r',h1,h2.imp fun g=>⟨rfl,by rw [g.1],g.2⟩,by omega⟩
theorem pC (hb:b.length ≤ 16777216) (hw:Wf b r) (i:QInput) (e:Int) {n:Int} (hn:0 ≤ n ∧ n < 4294967296):∃ ys r',Fx.loop (fun (v:QReader × QRecord × Int)=>match v with | (v1,v2,v3)=>Sh.aJ v1 v2 v3) (r,QRecord.mk i [] e,n) = some (Sum.inl (r',QRecord.mk i ys e)) ∧
    Rd b r r' (ys.flatMap encMark) ((ys.length:Int) = n ∧ ∀ y ∈ ys,GoodM y) ∧ (ys.length:Int) ≤ n:=by
  obtain ⟨m,rfl⟩ : ∃ m:Nat,n = m:=⟨n.toNat,by omega⟩
  obtain ⟨ys,r',h1,h2,h3⟩:=times (b:=b) 4294967296 (body:=fun (v:QReader × QRecord × Int)=>match v with | (v1,v2,v3)=>Sh.aJ v1 v2 v3) (fun xs r n=>(r,QRecord.mk i xs e,n)) (fun xs r=>Sum.inl (r,QRecord.mk i xs e)) encMark GoodM
    (fun xs r n h=>by
      show Sh.aJ r _ n = _
      by_cases hp:0 < n
      · rcases h with h | h
        · omega
        · simp [Sh.aJ,Sh.bW,hp,h,Fx.seq,Fx.fin]
      · simp [Sh.aJ,Sh.bW,hp,Fx.seq,Fx.fin])
    (fun xs r m hw he hm hx=>by
      obtain ⟨u,r1,c1,c2⟩:=aAb hb hw
      refine ⟨u,r1,?_,c2⟩
      show Sh.aJ r _ _ = _
      simp only [Sh.aJ,Sh.bW,Sh.gZ,eO,cond_true,he,decide_true,Fx.seq,Fx.fin,c1,Option.bind_some,dW (bytes:=120) (l:=xs) (m:=[u]) (by simp; omega) (by simp; omega),down64 (show m < _ by omega)])
    m [] r hw (by simp; omega)
  exact ⟨ys,r',h1,h2.imp fun g=>⟨rfl,by rw [g.1],g.2⟩,by omega⟩
theorem eV (x:Int):Sh.eP x = some (decide (x = 0 ∨ (80 ≤ x ∧ x ≤ 89))):=by
  unfold Sh.eP
  by_cases h:x = 0
  · simp [h,Fx.seq,Fx.fin,Sh.iN]
  · by_cases h':80 ≤ x <;> simp [h,h',Fx.seq,Fx.fin,Sh.iN]
theorem nD (b:List UInt8):∃ p place e,Sh.bB b = some (p,place,e) ∧
    ((e ≠ 0 ∧ (0 ≤ place ∧ place ≤ b.length) ∧ p = QRecord.mk (QInput.mk [] []) [] 0) ∨ (e = 0 ∧ place = 0 ∧ b.length ≤ 16777216 ∧ b = encRecord p ∧ GoodR p)):=by
  by_cases hb:b.length ≤ 16777216
  · have h0:¬ (16777216:Int) < (b.length:Int):=by omega
    have hw0:Wf b (QReader.mk b 0 0 0):=⟨rfl,by simp,by simp,by simp,by simp⟩
    obtain ⟨x,r1,a1,a2,a3⟩:=fG hb hw0 (n:=4) (by omega)
    have hm:∃ r2,Fx.seq ((Sh.aT (QReader.mk b 0 0 0) 4).bind fun y4147=>(bif (!(decide (y4147.1 = [84,82,67,49]))) then ((Sh.aB y4147.2 0 236).bind fun y4154=>(some (Sum.inl y4154))) else (some (Sum.inl y4147.2)))) (fun v4143=>Sh.bH b v4143) = Sh.bH b r2 ∧ Rd b (QReader.mk b 0 0 0) r2 [84,82,67,49] True:=by
      simp only [a1,Option.bind_some]
      by_cases hx:x = [84,82,67,49]
      · exact ⟨r1,by simp [hx,Fx.seq,Fx.fin],a2.imp fun _=>⟨hx,trivial⟩⟩
      · obtain ⟨r2,l1,l2,l3,_⟩:=iV a2.1 (p:=0) (e:=236) (fun _=>by omega) (by decide)
        exact ⟨r2,by simp [hx,l1,Fx.seq,Fx.fin],Rd.bad l2 l3⟩
    obtain ⟨r2,b1,b2⟩:=hm
    obtain ⟨n1,r3,c1,c2,c3⟩:=fL hb b2.1
    obtain ⟨ctx,r4,d1,d2,d3⟩:=fG hb c2.1 (n:=n1) (by omega)
    obtain ⟨n2,r5,e1,e2,e3⟩:=eM hb d2.1 (n:=8) (by omega)
    obtain ⟨ys,r6,f1,f2,f3⟩:=rK hb e2.1 ctx e3
    obtain ⟨en,r7,g1,g2,g3⟩:=dH hb f2.1
    have hend:∃ r8,Fx.seq ((Sh.aA r6 1).bind fun y5802=>((Sh.eP y5802.1).bind fun y5807=>(bif (!y5807) then ((Sh.aB y5802.2 (IntKind.i64.wrap (y5802.2.at_ - 1)) 236).bind fun y5810=>(some (Sum.inl (y5810,QInput.mk ctx ys,y5802.1)))) else (some (Sum.inl (y5802.2,QInput.mk ctx ys,y5802.1)))))) (fun (v5789,v5792,v5800)=>Sh.bV b v5789 v5792 v5800) = Sh.bV b r8 (QInput.mk ctx ys) en ∧ Rd b r6 r8 [Fw.byteOf en] (en = 0 ∨ (80 ≤ en ∧ en ≤ 89)):=by
      simp only [g1,Option.bind_some,eV]
      by_cases hx:en = 0 ∨ (80 ≤ en ∧ en ≤ 89)
      · exact ⟨r7,by simp [hx,Fx.seq,Fx.fin],g2.imp fun _=>⟨rfl,hx⟩⟩
      · obtain ⟨r8,l1,l2,l3⟩:=mK hb f2.1 g2
        exact ⟨r8,by simp [hx,l1,Fx.seq,Fx.fin],Rd.bad l2 l3⟩
    obtain ⟨r8,h1,h2⟩:=hend
    obtain ⟨n3,r9,i1,i2,i3⟩:=lH hb h2.1
    obtain ⟨ms,r10,j1,j2,j3⟩:=pC hb i2.1 (QInput.mk ctx ys) en i3
    have hR:=(((((((b2.trans c2).trans d2).trans e2).trans f2).trans h2).trans i2).trans j2)
    have step:Sh.bB b = Sh.bD b r10 (QRecord.mk (QInput.mk ctx ys) ms en):=by
      simp only [Sh.bB,h0,decide_false,cond_false]
      rw [b1]
      simp only [Sh.bH,c1,d1,eX d3 (by omega),e1,Option.bind_some]
      refine cC f1 ?_
      simp only [Fx.fin,Sh.gG]
      refine h1.trans ?_
      simp only [Sh.bV,i1,Option.bind_some]
      exact cC j1 rfl
    rw [step]
    have hw:=j2.1
    have q0:=hw.at0; have q1:=hw.at1; have q2:=hw.p0; have q3:=hw.p1
    by_cases hlt:r10.at_ < (b.length:Int)
    · obtain ⟨r11,l1,l2,l3,_⟩:=iV hw (p:=r10.at_) (e:=236) (fun _=>by omega) (by decide)
      refine ⟨_,r11.place,r11.e,by simp [Sh.bD,hlt,l1,Fx.seq,Fx.fin,Sh.aX,l3],.inl ⟨l3,⟨l2.p0,l2.p1⟩,rfl⟩⟩
    · by_cases he:r10.e = 0
      · refine ⟨QRecord.mk (QInput.mk ctx ys) ms en,0,0,by simp [Sh.bD,hlt,Fx.seq,Fx.fin,Sh.aX,he],.inr ⟨rfl,rfl,hb,?_,?_⟩⟩
        · obtain ⟨-,g,hd⟩:=hR.2 he
          obtain ⟨⟨⟨⟨⟨⟨_,gd⟩,_⟩,gf⟩,gh⟩,_⟩,gj⟩:=g
          have:r10.at_.toNat = b.length:=by omega
          rw [this,List.drop_length,List.append_nil] at hd
          simp only [encRecord,gd,gf.1,gj.1]
          simpa using hd
        · obtain ⟨-,⟨⟨⟨⟨⟨⟨_,gd⟩,_⟩,gf⟩,gh⟩,_⟩,gj⟩,-⟩:=hR.2 he
          exact ⟨by simp; omega,by simp; omega,gf.2,gh,gj.2⟩
      · exact ⟨_,r10.place,r10.e,by simp [Sh.bD,hlt,Fx.seq,Fx.fin,Sh.aX,he],.inl ⟨he,⟨q2,q3⟩,rfl⟩⟩
  · have h0:(16777216:Int) < (b.length:Int):=by omega
    exact ⟨_,0,2,by simp [Sh.bB,h0],.inl ⟨by decide,by omega,rfl⟩⟩
end
end Go.Sp
end
section
namespace Go.Sp
open Go Go.Fw Go.Fx Go.Proofs
set_option linter.unusedVariables false
set_option linter.unusedSimpArgs false
def cur (r:QReader):QCursor:=QCursor.mk r.b r.at_ r.place r.e
def tk (r:QReader) (n:Int):List UInt8 × QReader :=
  if r.e = 0 then (if r.at_ + n ≤ r.b.length then ((r.b.drop r.at_.toNat).take n.toNat,QReader.mk r.b (r.at_ + n) r.place r.e) else ([],QReader.mk r.b r.at_ r.b.length 236)) else ([],r)
section
variable {b:List UInt8} {r r1 r2:QReader}
theorem mX (hb:b.length ≤ 16777216) (hw:Wf b r) {n:Int} (hn:0 ≤ n ∧ n ≤ 4294967296):Sh.aT r n = some (tk r n):=by
  obtain ⟨h1,h2,h3,h4,h5⟩:=hw
  unfold Sh.aT tk
  have e1:IntKind.i64.wrap ((r.b.length:Int) - r.at_) = (b.length:Int) - r.at_:=by rw [h1]; exact w64 (by omega)
  rw [e1]
  have e2:IntKind.i64.wrap (r.at_ + n) = r.at_ + n:=w64 (by omega)
  have e3:IntKind.i64.wrap (r.at_ + n - n) = r.at_:=by rw [w64 (by omega)]; omega
  by_cases he:r.e = 0
  · by_cases hlt:(b.length:Int) - r.at_ < n
    · have h6:¬ r.at_ + n ≤ (r.b.length:Int):=by rw [h1]; omega
      simp [hlt,he,h6,Sh.aB,aU,Sh.cA]
    · have h6:r.at_ + n ≤ (r.b.length:Int):=by rw [h1]; omega
      have e4:(r.at_ + n).toNat - r.at_.toNat = n.toNat:=by omega
      simp only [hlt,decide_false,cond_false,aU,Sh.cA,he,decide_true,Bool.not_true,e2,e3,if_true,h6,Fx.slc]
      have h7:0 ≤ r.at_ ∧ r.at_ ≤ r.at_ + n ∧ True:=⟨h2,by omega,trivial⟩
      rw [if_pos h7,e4]; rfl
  · by_cases hlt:(b.length:Int) - r.at_ < n
    · simp [hlt,he,Sh.aB,aU,Sh.cA]
    · simp [hlt,he,aU,Sh.cA]
theorem aCp (hw:Wf b r) {n:Int} (hn:0 ≤ n):Wf b (tk r n).2:=by
  obtain ⟨h1,h2,h3,h4,h5⟩:=hw
  unfold tk
  split
  · split
    · exact ⟨h1,by simp; omega,by simp; rw [← h1]; omega,h4,h5⟩
    · exact ⟨h1,h2,h3,by simp,by simp [h1]⟩
  · exact ⟨h1,h2,h3,h4,h5⟩
theorem jQ (hb:b.length ≤ 16777216) (hw:Wf b r) {n:Nat} (hn:n ≤ 8):Sh.aA r (n:Nat) = some (IntKind.i64.wrap (num (tk r n).1:Nat),(tk r n).2):=by
  have ht:=mX hb hw (n:=(n:Nat)) (by omega)
  have hxl:(tk r n).1.length ≤ 8:=by unfold tk; split <;> (try split) <;> simp <;> omega
  have hl:=nS (tk r n) hxl (tk r n).1.length 0 (by simp)
  have e0:IntKind.i64.wrap ((num ((tk r n).1.take 0):Nat):Int) = 0:=by simp [num]; rfl
  rw [e0] at hl
  unfold Sh.aA
  simp only [ht,Option.bind_some]
  exact cC hl rfl
theorem sP (x:List UInt8) (i:Nat) (h:i < x.length):num (x.drop i) = x[i].toNat + 256 * num (x.drop (i + 1)):=by
  rw [List.drop_eq_getElem_cons h]; rfl
theorem wu64 {x:Int} (h:0 ≤ x ∧ x < 18446744073709551616):IntKind.u64.wrap x = x:=by
  simp [IntKind.wrap,IntKind.signed,IntKind.bits]; omega
theorem pV (c:QCursor) (x:List UInt8) (h0:0 ≤ c.at_) (hc:c.at_ ≤ 16777216) (hx:x.length ≤ 8) (hg:∀ i (h:i < x.length),Fx.get c.b (c.at_ + (i:Int)) = some x[i]):∀ (m:Nat),m ≤ x.length →
    Fx.loop (fun (v:Int × Int)=>match v with | (v1,v2)=>Sh.dS c v1 v2) ((num (x.drop m):Nat),(m:Int) - 1) = some (Sum.inl ((num x:Nat):Int)):=by
  intro m
  induction m with
  | zero=>intro _; exact dF (by simp [Sh.dS])
  | succ m ih =>
    intro hm
    have hlt:=tX (x.drop m)
    rw [List.length_drop] at hlt
    have h8:256 ^ (x.length - m) ≤ 256 ^ 8:=Nat.pow_le_pow_right (by decide) (by omega)
    have h8':256 ^ 8 = 18446744073709551616:=by decide
    rw [sP x m (by omega)] at hlt
    have e1:((m + 1:Nat):Int) - 1 = (m:Int):=by omega
    refine eB ?_ (ih (by omega))
    rw [e1]
    have h1:(0:Int) ≤ (m:Int):=by omega
    have e2:IntKind.i64.wrap (c.at_ + (m:Int)) = c.at_ + (m:Int):=w64 (by omega)
    have e3:IntKind.i64.wrap ((m:Int) - 1) = (m:Int) - 1:=w64 (by omega)
    have e4:IntKind.u64.wrap (IntKind.u64.wrap (((num (x.drop (m + 1)):Nat):Int) * 256) + ((x[m]'(by omega)).toNat:Int)) = ((num (x.drop m):Nat):Int):=by
      rw [sP x m (by omega)]
      rw [wu64 (x:=((num (x.drop (m + 1)):Nat):Int) * 256) (by omega),wu64 (by omega)]
      omega
    simp only [Sh.dS,h1,decide_true,cond_true,e2,hg m (by omega),Option.bind_some,e3,e4]
theorem sC (hb:b.length ≤ 16777216) (hw:Wf b r) {n:Nat} (hn:n ≤ 8):Sh.aC (cur r) (n:Nat) = some (IntKind.i64.wrap (num (tk r n).1:Nat),cur (tk r n).2):=by
  obtain ⟨h1,h2,h3,h4,h5⟩:=hw
  have e2:IntKind.i64.wrap (r.at_ + (n:Int)) = r.at_ + n:=w64 (by omega)
  unfold Sh.aC tk
  by_cases he:r.e = 0
  · by_cases hlt:r.at_ + (n:Int) ≤ (r.b.length:Int)
    · have h6:¬ (r.b.length:Int) < r.at_ + (n:Int):=by omega
      simp only [cur,he,decide_true,cond_true,e2,h6,decide_false,aU,Sh.cS,cond_false,Sh.cR,Bool.not_true,if_true,hlt]
      have hlen:((r.b.drop r.at_.toNat).take (n:Int).toNat).length = n:=by simp; omega
      have:=pV (QCursor.mk r.b r.at_ r.place 0) ((r.b.drop r.at_.toNat).take (n:Int).toNat) h2 (by simp; omega) (by omega) (fun i h=>by
        have hi:r.at_.toNat + i < r.b.length:=by rw [hlen] at h; omega
        have e:(r.at_ + (i:Int)).toNat = r.at_.toNat + i:=by omega
        simp only [Fx.get]
        rw [if_pos (by omega),e,List.getElem?_eq_getElem hi]
        simp) n (by omega)
      rw [List.drop_of_length_le (by omega)] at this
      have e5:IntKind.i64.wrap ((n:Int) - 1) = (n:Int) - 1:=w64 (by omega)
      rw [e5]
      exact cC this (by simp only [Fx.fin,Sh.hB,e2,cur])
    · have h6:(r.b.length:Int) < r.at_ + (n:Int):=by omega
      simp [cur,he,e2,h6,aU,Sh.cS,Sh.cR,hlt,Sh.aK,num]
      rfl
  · simp [cur,he,aU,Sh.cS,Sh.cR,num]
    rfl
end
end Go.Sp
end
section
namespace Go.Sp
open Go Go.Fw Go.Fx Go.Proofs
set_option linter.unusedVariables false
set_option linter.unusedSimpArgs false
section
variable {b:List UInt8} {r r1 r2:QReader}
theorem fO (hb:b.length ≤ 16777216) (hw:Wf b r) (n:Nat) (hn:n ≤ 8) {v:Int} (h:Sh.aA r (n:Nat) = some (v,r1)):Sh.aC (cur r) (n:Nat) = some (v,cur r1) ∧ (r1.e ≠ 0 → v = 0):=by
  rw [jQ hb hw hn] at h
  have h1:=congrArg Prod.fst (Option.some.inj h)
  have h2:=congrArg Prod.snd (Option.some.inj h)
  simp only at h1 h2
  subst h1 h2
  refine ⟨sC hb hw hn,fun he=>?_⟩
  have:(tk r n).1 = []:=by
    unfold tk at he ⊢
    split
    · rename_i h0
      rw [if_pos h0] at he
      split
      · rename_i h1; rw [if_pos h1] at he; exact absurd h0 he
      · rfl
    · rfl
  rw [this]; simp [num]; rfl
theorem fB {e:List UInt8} {g:Prop} (h:Rd b r r1 e g) (k:r1.e = 0):r.e = 0:=(h.2 k).1
theorem sY (hb:b.length ≤ 16777216) (hw:Wf b r) (he:r.e ≠ 0) {k:Int} (hk:0 ≤ k ∧ k ≤ 5):∃ v,Sh.aO r k = some (v,r):=by
  have hn:∀ n:Nat,n ≤ 8 → Sh.aA r (n:Nat) = some (0,r):=by
    intro n hn
    rw [jQ hb hw hn]
    simp [tk,he,num]; rfl
  have h8:Sh.aA r 8 = some (0,r):=hn 8 (by omega)
  have h1:Sh.aA r 1 = some (0,r):=hn 1 (by omega)
  have hm:∀ n,0 ≤ n → Sh.aN r n = some (0,r):=by
    intro n hn
    have:¬ n < 0:=by omega
    simp [Sh.aN,h1,this]
  by_cases h5:k = 5
  · subst h5; exact ⟨_,by simp [Sh.aO,Sh.aR,Sh.aS,hm,h8,aU]; rfl⟩
  · by_cases h0:k = 0
    · subst h0; exact ⟨_,by simp [Sh.aO,Sh.aR,Sh.aS,aU]; rfl⟩
    · exact ⟨_,by simp [Sh.aO,Sh.aR,Sh.aS,h8,h5,h0,aU]; rfl⟩
end
end Go.Sp
end
section
namespace Go.Sp
open Go Go.Fw Go.Fx Go.Proofs
set_option linter.unusedVariables false
set_option linter.unusedSimpArgs false
theorem fW (x lo hi:Int):Sh.bR x lo hi = some (decide (lo ≤ x ∧ x ≤ hi)):=by
  unfold Sh.bR
  by_cases h:lo ≤ x <;> simp [h,Fx.seq,Fx.fin,Sh.kN]
theorem prev64 {i:Nat} (h:0 < i) (hn:i ≤ 4611686018427387904):IntKind.i64.wrap ((i:Int) - 1) = ((i - 1:Nat):Int):=by rw [w64 (by omega)]; omega
structure OkAt {X:Type} (key:X → Int) (bad:X → Prop) (top:Int) (l:List X) (i:Nat) (h:i < l.length):Prop where
  lo:0 ≤ key l[i]
  hi:key l[i] ≤ top
  un:¬ bad l[i]
  up:∀ (k:0 < i),key (l[i - 1]'(by omega)) < key l[i]
def AllOk {X:Type} (key:X → Int) (bad:X → Prop) (top:Int) (l:List X) (n:Nat):Prop:=∀ i (h:i < l.length),i < n → OkAt key bad top l i h
def AllReg (m:QMark) (n:Nat):Prop:=AllOk (fun t:LTurn=>t.reg) (fun t=>t.old = t.new) 10 m.regs n
def AllSlot (m:QMark) (n:Nat):Prop:=AllOk (fun t:LCell=>t.slot) (fun t=>t.old = t.new) 31 m.slots n
theorem AllOk.succ {X:Type} {key:X → Int} {bad:X → Prop} {top:Int} {l:List X} {n:Nat} (h:AllOk key bad top l n) (hn:n < l.length) (k:OkAt key bad top l n hn):AllOk key bad top l (n + 1):=by
  intro i hi hin
  by_cases e:i = n
  · subst e; exact k
  · exact h i hi (by omega)
theorem yO {m:QMark} (hm:m.regs.length ≤ 1099511627776):∃ g,Fx.loop (fun (v:Int × Int)=>match v with | (v1,v2)=>Sh.bJ m v1 v2) (0,-1) = some g ∧ ((g = Sum.inl () ∧ AllReg m m.regs.length) ∨ (g = Sum.inr false ∧ ¬ AllReg m m.regs.length)):=by
  refine dA (body:=fun (v:Int × Int)=>match v with | (v1,v2)=>Sh.bJ m v1 v2) m.regs.length (fun i (a:Int)=>((i:Int),a)) (fun i a=>AllReg m i ∧ ((i = 0 ∧ a = -1) ∨ ∃ h:i - 1 < m.regs.length,0 < i ∧ a = (m.regs[i - 1]).reg)) _
    (fun i a hi hI=>?_) (fun a hI=>⟨Sum.inl (),by simp [Sh.bJ],.inl ⟨rfl,hI.1⟩⟩) m.regs.length 0 (-1) (by omega) ⟨fun _ _ h=>by omega,.inl ⟨rfl,rfl⟩⟩
  show (∃ a',Sh.bJ m (i:Int) a = _ ∧ _) ∨ ∃ g,Sh.bJ m (i:Int) a = _ ∧ _
  obtain ⟨hA,ha⟩:=hI
  have hrange : -1 ≤ a ∧ a ≤ 10:=by
    rcases ha with ⟨_,rfl⟩ | ⟨h,h0,rfl⟩
    · omega
    · have:=hA (i - 1) h (by omega); have h1:=this.lo; have h2:=this.hi; omega
  have e1:IntKind.i64.wrap (a + 1) = a + 1:=w64 (by omega)
  have hup:∀ q:Int,(∀ (k:0 < i),(m.regs[i - 1]'(by omega)).reg < q) ∧ 0 ≤ q ↔ a + 1 ≤ q:=by
    intro q
    rcases ha with ⟨h0,rfl⟩ | ⟨h,h0,rfl⟩
    · subst h0; constructor
      · rintro ⟨_,h⟩; omega
      · intro h; exact ⟨fun k=>by omega,by omega⟩
    · have:=(hA (i - 1) h (by omega)).lo
      constructor
      · rintro ⟨h1,_⟩; have:=h1 h0; omega
      · intro h1; exact ⟨fun _=>by omega,by omega⟩
  simp only [Sh.bJ,cS,hi,decide_true,cond_true,bT hi,Option.bind_some,dS,Sh.jR,e1]
  by_cases c:a + 1 ≤ (m.regs[i]).reg ∧ (m.regs[i]).reg ≤ 10
  · by_cases c':(m.regs[i]).old = (m.regs[i]).new
    · right
      refine ⟨Sum.inr false,by simp [c,c',aU],.inr ⟨rfl,fun h=>(h i hi hi).un c'⟩⟩
    · left
      refine ⟨(m.regs[i]).reg,by simp [c,c',aU,next64 hi (show m.regs.length ≤ _ by omega)],hA.succ hi ⟨((hup _).2 c.1).2,c.2,c',((hup _).2 c.1).1⟩,.inr ⟨by omega,by omega,rfl⟩⟩
  · right
    refine ⟨Sum.inr false,by simp [c,aU],.inr ⟨rfl,fun h=>c ⟨(hup _).1 ⟨(h i hi hi).up,(h i hi hi).lo⟩,(h i hi hi).hi⟩⟩⟩
theorem aBq {m:QMark} (hm:m.regs.length ≤ 1099511627776):∃ g,Fx.loop (fun (v:Int)=>Sh.eQ m v) 0 = some g ∧ ((g = Sum.inl () ∧ AllReg m m.regs.length) ∨ (g = Sum.inr false ∧ ¬ AllReg m m.regs.length)):=by
  refine dA (body:=fun (v:Int)=>Sh.eQ m v) m.regs.length (fun i (a:Unit)=>(i:Int)) (fun i a=>AllReg m i) _
    (fun i a hi hA=>?_) (fun a hI=>⟨Sum.inl (),by simp [Sh.eQ],.inl ⟨rfl,hI⟩⟩) m.regs.length 0 () (by omega) (fun _ _ h=>by omega)
  show (∃ a',Sh.eQ m (i:Int) = _ ∧ _) ∨ ∃ g,Sh.eQ m (i:Int) = _ ∧ _
  simp only [Sh.eQ,cS,hi,decide_true,cond_true,bT hi,Option.bind_some,fW,Sh.kW]
  by_cases c:0 ≤ (m.regs[i]).reg ∧ (m.regs[i]).reg ≤ 10
  · by_cases c':(m.regs[i]).old = (m.regs[i]).new
    · right
      refine ⟨Sum.inr false,by simp [c,c',aU],.inr ⟨rfl,fun h=>(h i hi hi).un c'⟩⟩
    · by_cases h0:0 < i
      · have h0':(0:Int) < (i:Int):=by omega
        have hp:i - 1 < m.regs.length:=by omega
        by_cases c2:(m.regs[i]).reg ≤ (m.regs[i - 1]).reg
        · right
          refine ⟨Sum.inr false,by simp [c,c',h0,prev64 h0 (by omega),bT hp,c2,aU],.inr ⟨rfl,fun h=>?_⟩⟩
          have:=(h i hi hi).up h0
          omega
        · left
          refine ⟨(),by simp [c,c',h0,prev64 h0 (by omega),bT hp,c2,aU,next64 hi (show m.regs.length ≤ _ by omega)],AllOk.succ hA hi ⟨c.1,c.2,c',fun _=>by omega⟩⟩
      · left
        have h0':¬ (0:Int) < (i:Int):=by omega
        refine ⟨(),by simp [c,c',h0,aU,next64 hi (show m.regs.length ≤ _ by omega)],AllOk.succ hA hi ⟨c.1,c.2,c',fun k=>absurd k h0⟩⟩
  · right
    refine ⟨Sum.inr false,by simp [c,aU],.inr ⟨rfl,fun h=>c ⟨(h i hi hi).lo,(h i hi hi).hi⟩⟩⟩
theorem uY {m:QMark} (hm:m.slots.length ≤ 1099511627776):∃ g,Fx.loop (fun (v:Int × Int)=>match v with | (v1,v2)=>Sh.bK m v1 v2) (-1,0) = some g ∧ ((g = Sum.inl () ∧ AllSlot m m.slots.length) ∨ (g = Sum.inr false ∧ ¬ AllSlot m m.slots.length)):=by
  refine dA (body:=fun (v:Int × Int)=>match v with | (v1,v2)=>Sh.bK m v1 v2) m.slots.length (fun i (a:Int)=>(a,(i:Int))) (fun i a=>AllSlot m i ∧ ((i = 0 ∧ a = -1) ∨ ∃ h:i - 1 < m.slots.length,0 < i ∧ a = (m.slots[i - 1]).slot)) _
    (fun i a hi hI=>?_) (fun a hI=>⟨Sum.inl (),by simp [Sh.bK],.inl ⟨rfl,hI.1⟩⟩) m.slots.length 0 (-1) (by omega) ⟨fun _ _ h=>by omega,.inl ⟨rfl,rfl⟩⟩
  show (∃ a',Sh.bK m a (i:Int) = _ ∧ _) ∨ ∃ g,Sh.bK m a (i:Int) = _ ∧ _
  obtain ⟨hA,ha⟩:=hI
  have hrange : -1 ≤ a ∧ a ≤ 31:=by
    rcases ha with ⟨_,rfl⟩ | ⟨h,h0,rfl⟩
    · omega
    · have:=hA (i - 1) h (by omega); have h1:=this.lo; have h2:=this.hi; omega
  have e1:IntKind.i64.wrap (a + 1) = a + 1:=w64 (by omega)
  have hup:∀ q:Int,(∀ (k:0 < i),(m.slots[i - 1]'(by omega)).slot < q) ∧ 0 ≤ q ↔ a + 1 ≤ q:=by
    intro q
    rcases ha with ⟨h0,rfl⟩ | ⟨h,h0,rfl⟩
    · subst h0; constructor
      · rintro ⟨_,h⟩; omega
      · intro h; exact ⟨fun k=>by omega,by omega⟩
    · have:=(hA (i - 1) h (by omega)).lo
      constructor
      · rintro ⟨h1,_⟩; have:=h1 h0; omega
      · intro h1; exact ⟨fun _=>by omega,by omega⟩
  simp only [Sh.bK,cS,hi,decide_true,cond_true,bT hi,Option.bind_some,dS,Sh.jS,e1]
  by_cases c:a + 1 ≤ (m.slots[i]).slot ∧ (m.slots[i]).slot ≤ 31
  · by_cases c':(m.slots[i]).old = (m.slots[i]).new
    · right
      refine ⟨Sum.inr false,by simp [c,c',aU],.inr ⟨rfl,fun h=>(h i hi hi).un c'⟩⟩
    · left
      refine ⟨(m.slots[i]).slot,by simp [c,c',aU,next64 hi (show m.slots.length ≤ _ by omega)],hA.succ hi ⟨((hup _).2 c.1).2,c.2,c',((hup _).2 c.1).1⟩,.inr ⟨by omega,by omega,rfl⟩⟩
  · right
    refine ⟨Sum.inr false,by simp [c,aU],.inr ⟨rfl,fun h=>c ⟨(hup _).1 ⟨(h i hi hi).up,(h i hi hi).lo⟩,(h i hi hi).hi⟩⟩⟩
theorem aAl {m:QMark} (hm:m.slots.length ≤ 1099511627776):∃ g,Fx.loop (fun (v:Int)=>Sh.eR m v) 0 = some g ∧ ((g = Sum.inl () ∧ AllSlot m m.slots.length) ∨ (g = Sum.inr false ∧ ¬ AllSlot m m.slots.length)):=by
  refine dA (body:=fun (v:Int)=>Sh.eR m v) m.slots.length (fun i (a:Unit)=>(i:Int)) (fun i a=>AllSlot m i) _
    (fun i a hi hA=>?_) (fun a hI=>⟨Sum.inl (),by simp [Sh.eR],.inl ⟨rfl,hI⟩⟩) m.slots.length 0 () (by omega) (fun _ _ h=>by omega)
  show (∃ a',Sh.eR m (i:Int) = _ ∧ _) ∨ ∃ g,Sh.eR m (i:Int) = _ ∧ _
  simp only [Sh.eR,cS,hi,decide_true,cond_true,bT hi,Option.bind_some,fW,Sh.kX]
  by_cases c:0 ≤ (m.slots[i]).slot ∧ (m.slots[i]).slot ≤ 31
  · by_cases c':(m.slots[i]).old = (m.slots[i]).new
    · right
      refine ⟨Sum.inr false,by simp [c,c',aU],.inr ⟨rfl,fun h=>(h i hi hi).un c'⟩⟩
    · by_cases h0:0 < i
      · have h0':(0:Int) < (i:Int):=by omega
        have hp:i - 1 < m.slots.length:=by omega
        by_cases c2:(m.slots[i]).slot ≤ (m.slots[i - 1]).slot
        · right
          refine ⟨Sum.inr false,by simp [c,c',h0,prev64 h0 (by omega),bT hp,c2,aU],.inr ⟨rfl,fun h=>?_⟩⟩
          have:=(h i hi hi).up h0
          omega
        · left
          refine ⟨(),by simp [c,c',h0,prev64 h0 (by omega),bT hp,c2,aU,next64 hi (show m.slots.length ≤ _ by omega)],AllOk.succ hA hi ⟨c.1,c.2,c',fun _=>by omega⟩⟩
      · left
        have h0':¬ (0:Int) < (i:Int):=by omega
        refine ⟨(),by simp [c,c',h0,aU,next64 hi (show m.slots.length ≤ _ by omega)],AllOk.succ hA hi ⟨c.1,c.2,c',fun k=>absurd k h0⟩⟩
  · right
    refine ⟨Sum.inr false,by simp [c,aU],.inr ⟨rfl,fun h=>c ⟨(h i hi hi).lo,(h i hi hi).hi⟩⟩⟩
def Differ (x y:List UInt8):Prop:=∀ i,i < x.length → x.getD i 0 ≠ y.getD i 0
structure OkP (l:List QPiece) (i:Nat) (h:i < l.length):Prop where
  lo : -1 ≤ (l[i]).table
  hi:(l[i]).table ≤ 7
  from0:0 ≤ (l[i]).from_
  ne:(l[i]).old.length ≠ 0
  eq:(l[i]).new.length = (l[i]).old.length
  top:(l[i]).from_ + ((l[i]).old.length:Int) ≤ 65535
  df:Differ (l[i]).old (l[i]).new
  up:∀ (k:0 < i),(l[i - 1]'(by omega)).table < (l[i]).table ∨ ((l[i - 1]'(by omega)).table = (l[i]).table ∧ (l[i - 1]'(by omega)).from_ + ((l[i - 1]'(by omega)).old.length:Int) < (l[i]).from_)
def AllP (l:List QPiece) (n:Nat):Prop:=∀ i (h:i < l.length),i < n → OkP l i h
theorem AllP.succ {l:List QPiece} {n:Nat} (h:AllP l n) (hn:n < l.length) (k:OkP l n hn):AllP l (n + 1):=by
  intro i hi hin
  by_cases e:i = n
  · subst e; exact k
  · exact h i hi (by omega)
theorem sE {x y:List UInt8} (h:y.length = x.length) (hx:x.length ≤ 1099511627776):∃ l,Sh.eM x y = some l ∧ l.length ≤ x.length ∧ (l.length = x.length ↔ Differ x y):=by
  unfold Sh.eM
  obtain ⟨g,h1,l,h2,h3,h4⟩:=dA (body:=fun (v:List Int × Int)=>match v with | (v1,v2)=>Sh.bC x y v1 v2) x.length (fun i (a:List Int)=>(a,(i:Int))) (fun i a=>a.length ≤ i ∧ (a.length = i ↔ ∀ j,j < i → x.getD j 0 ≠ y.getD j 0)) (fun g=>∃ l,g = Sum.inl l ∧ l.length ≤ x.length ∧ (l.length = x.length ↔ Differ x y))
    (fun i a hi ha=>.inl (by
      have ex:x.getD i 0 = x[i]:=by simp [List.getD,List.getElem?_eq_getElem hi]
      have ey:y.getD i 0 = y[i]'(by omega):=by simp [List.getD,List.getElem?_eq_getElem (show i < y.length by omega)]
      by_cases hc:x[i] = y[i]'(by omega)
      · refine ⟨a,by simp [Sh.bC,Sh.dH,hi,bT hi,bT (show i < y.length by omega),hc,aU,next64 hi (by omega)],by omega,?_⟩
        constructor
        · intro e; omega
        · intro e; exact absurd (by rw [ex,ey,hc]) (e i (by omega))
      · have hc':¬ ((x[i]).toNat:Int) = ((y[i]'(by omega)).toNat:Int):=fun e=>hc (UInt8.toNat_inj.1 (by omega))
        refine ⟨a ++ [(i:Int)],by simp [Sh.bC,Sh.dH,hi,bT hi,bT (show i < y.length by omega),hc',aU,next64 hi (by omega),dW (bytes:=8) (l:=a) (m:=[(i:Int)]) (by simp; omega) (by simp; omega)],by simp; omega,?_⟩
        simp only [List.length_append,List.length_singleton]
        constructor
        · intro e j hj
          by_cases hji:j = i
          · subst hji; rw [ex,ey]; exact hc
          · exact ha.2.1 (by omega) j (by omega)
        · intro e
          have:=ha.2.2 (fun j hj=>e j (by omega))
          omega))
    (fun a ha=>⟨Sum.inl a,by simp [Sh.bC],a,rfl,ha.1,ha.2⟩) x.length 0 [] (by omega) (by simp)
  subst h2
  exact ⟨l,cC h1 rfl,h3,h4⟩
end Go.Sp
end
section
namespace Go.Sp
open Go Go.Fw Go.Fx Go.Proofs
set_option linter.unusedVariables false
set_option linter.unusedSimpArgs false
theorem sT {l:List QPiece} (hl:l.length ≤ 1099511627776):∃ g,Fx.loop (fun (v:Int × Int × Int)=>match v with | (v1,v2,v3)=>Sh.aL l v1 v2 v3) (0,-1,0) = some g ∧ ((g = Sum.inl () ∧ AllP l l.length) ∨ (g = Sum.inr false ∧ ¬ AllP l l.length)):=by
  refine dA (body:=fun (v:Int × Int × Int)=>match v with | (v1,v2,v3)=>Sh.aL l v1 v2 v3) l.length (fun i (a:Int × Int)=>((i:Int),a.1,a.2)) (fun i a=>AllP l i ∧ ((i = 0 ∧ a = (-1,0)) ∨ ∃ h:i - 1 < l.length,0 < i ∧ a = ((l[i - 1]).table,(l[i - 1]).from_ + ((l[i - 1]).old.length:Int) + 1))) _
    (fun i a hi hI=>?_) (fun a hI=>⟨Sum.inl (),by simp [Sh.aL],.inl ⟨rfl,hI.1⟩⟩) l.length 0 (-1,0) (by omega) ⟨fun _ _ h=>by omega,.inl ⟨rfl,rfl⟩⟩
  obtain ⟨t,f⟩:=a
  obtain ⟨hA,ha⟩:=hI
  show (∃ a',Sh.aL l (i:Int) t f = _ ∧ _) ∨ ∃ g,Sh.aL l (i:Int) t f = _ ∧ _
  generalize hp:l[i] = p
  have ht : -1 ≤ t ∧ t ≤ 7 ∧ 0 ≤ f ∧ f ≤ 65536:=by
    rcases ha with ⟨_,e⟩ | ⟨h,h0,e⟩
    · cases e; omega
    · have:=hA (i - 1) h (by omega)
      have h1:=this.lo; have h2:=this.hi; have h3:=this.from0; have h4:=this.top
      cases e; omega
  have bad:(∀ h:OkP l i hi,False) → ∃ g,(some (Sum.inr (Sum.inr false)):Option ((Int × Int × Int) ⊕ (Unit ⊕ Bool))) = some (Sum.inr g) ∧ ((g = Sum.inl () ∧ AllP l l.length) ∨ (g = Sum.inr false ∧ ¬ AllP l l.length)) :=
    fun h=>⟨_,rfl,.inr ⟨rfl,fun k=>h (k i hi hi)⟩⟩
  -- what the place must be,said of the state (t,f)
  have hup:∀ h:OkP l i hi,t ≤ p.table ∧ (p.table = t → f ≤ p.from_):=by
    intro h
    rcases ha with ⟨h0,e⟩ | ⟨h',h0,e⟩
    · cases e; have:=h.lo; have:=h.from0; rw [hp] at *; exact ⟨by omega,fun _=>by omega⟩
    · cases e
      have:=h.up h0
      rw [hp] at this
      rcases this with h1 | ⟨h1,h2⟩
      · exact ⟨by omega,fun e=>by omega⟩
      · exact ⟨by omega,fun e=>by omega⟩
  have hdown:∀ q:Int,t ≤ p.table → 0 ≤ p.from_ → (p.table = t → f ≤ p.from_) → ∀ (k:0 < i),(l[i - 1]'(by omega)).table < p.table ∨ ((l[i - 1]'(by omega)).table = p.table ∧ (l[i - 1]'(by omega)).from_ + ((l[i - 1]'(by omega)).old.length:Int) < p.from_):=by
    intro q h1 h2 h3 k
    rcases ha with ⟨h0,e⟩ | ⟨h',h0,e⟩
    · omega
    · cases e
      by_cases hc:p.table = (l[i - 1]).table
      · right; have:=h3 hc; exact ⟨hc.symm,by omega⟩
      · left; omega
  have key:∀ f',0 ≤ f' ∧ f' ≤ 65536 → t ≤ p.table → p.table ≤ 7 → (f' ≤ p.from_ → 0 ≤ p.from_ → (p.table = t → f ≤ p.from_)) → (∀ h:OkP l i hi,f' ≤ p.from_) →
      (∃ a',Sh.bY (i:Int) p p.table f' = some (Sum.inl (((i + 1:Nat):Int),a'.1,a'.2)) ∧ AllP l (i + 1) ∧ ((i + 1 = 0 ∧ a' = ((-1,0):Int × Int)) ∨ ∃ h:i + 1 - 1 < l.length,0 < i + 1 ∧ a' = ((l[i + 1 - 1]).table,(l[i + 1 - 1]).from_ + ((l[i + 1 - 1]).old.length:Int) + 1))) ∨
      ∃ g,Sh.bY (i:Int) p p.table f' = some (Sum.inr g) ∧ ((g = Sum.inl () ∧ AllP l l.length) ∨ (g = Sum.inr false ∧ ¬ AllP l l.length)):=by
    intro f' hf h1 h2 h3 h4
    unfold Sh.bY
    by_cases c1:(p.old.length:Int) = 0
    · right; simpa [c1,aU,Sh.aU] using bad (fun h=>h.ne (by rw [hp]; omega))
    by_cases c2:(p.new.length:Int) = (p.old.length:Int)
    · by_cases c3:65535 < (p.old.length:Int)
      · right; simpa [c1,c2,c3,aU,Sh.aU] using bad (fun h=>by have h5:=h.top; have h6:=h.from0; rw [hp] at h5 h6; omega)
      · have e1:IntKind.i64.wrap (65535 - (p.old.length:Int)) = 65535 - (p.old.length:Int):=w64 (by omega)
        simp only [c1,c2,c3,decide_false,decide_true,cond_false,Bool.not_true,dS,Option.bind_some,e1]
        by_cases c4:f' ≤ p.from_ ∧ p.from_ ≤ 65535 - (p.old.length:Int)
        · obtain ⟨x,hx,hx1,hx2⟩:=sE (x:=p.old) (y:=p.new) (by omega) (by omega)
          simp only [c4,decide_true,Bool.not_true,cond_false,and_self,hx,Option.bind_some,aU,Sh.aU]
          by_cases c5:(x.length:Int) < (p.old.length:Int)
          · right
            rw [decide_eq_true c5]
            exact bad (fun h=>by have:=hx2.2 (by rw [← hp]; exact h.df); omega)
          · left
            have e2:IntKind.i64.wrap (IntKind.i64.wrap (p.from_ + (p.old.length:Int)) + 1) = p.from_ + (p.old.length:Int) + 1:=by rw [w64 (x:=p.from_ + (p.old.length:Int)) (by omega),w64 (by omega)]
            refine ⟨(p.table,p.from_ + (p.old.length:Int) + 1),by simp only [c5,decide_false,cond_false,next64 hi (show l.length ≤ _ by omega),e2],hA.succ hi ?_,.inr ⟨by omega,by omega,by simp [hp]⟩⟩
            have hd:=hx2.1 (by omega)
            refine ⟨by rw [hp]; omega,by rw [hp]; omega,by rw [hp]; omega,by rw [hp]; omega,by rw [hp]; omega,by rw [hp]; omega,by rw [hp]; exact hd,?_⟩
            rw [hp]
            exact hdown 0 h1 (by omega) (h3 c4.1 (by omega))
        · right
          simp only [c4,decide_false,Bool.not_false,cond_true,aU,Sh.aU]
          exact bad (fun h=>c4 ⟨h4 h,by have h5:=h.top; rw [hp] at h5; omega⟩)
    · right; simpa [c1,c2,aU,Sh.aU] using bad (fun h=>c2 (by have:=h.eq; rw [hp] at this; omega))
  simp only [Sh.aL,cS,hi,decide_true,cond_true,bT hi,hp,Option.bind_some,dS]
  by_cases c:t ≤ p.table ∧ p.table ≤ 7
  · simp only [c,and_self,decide_true,Bool.not_true,cond_false]
    by_cases c':t < p.table
    · simp only [c',decide_true,cond_true,aU]
      exact key 0 (by omega) c.1 c.2 (fun _ _ e=>by omega) (fun h=>by have:=h.from0; rw [hp] at this; exact this)
    · have e:p.table = t:=by omega
      simp only [c',decide_false,cond_false,aU]
      have:=key f (by omega) c.1 c.2 (fun h _ _=>h) (fun h=>(hup h).2 e)
      rw [e] at this
      rw [e] at *
      exact this
  · simp only [c,decide_false,Bool.not_false,cond_true,jA]
    right
    exact bad (fun h=>c ⟨(hup h).1,by have:=h.hi; rw [hp] at this; exact this⟩)
theorem zN {x:QPiece} (h:x.new.length = x.old.length) (hx:x.old.length ≤ 1099511627776):∃ g,Fx.loop (fun (v:Int)=>Sh.fH x v) 0 = some g ∧ ((g = Sum.inl () ∧ Differ x.old x.new) ∨ (g = Sum.inr (Sum.inr (Sum.inr (Sum.inr false))) ∧ ¬ Differ x.old x.new)):=by
  refine dA (body:=fun (v:Int)=>Sh.fH x v) x.old.length (fun i (a:Unit)=>(i:Int)) (fun i a=>∀ j,j < i → x.old.getD j 0 ≠ x.new.getD j 0) _
    (fun i a hi hA=>?_) (fun a hI=>⟨Sum.inl (),by simp [Sh.fH],.inl ⟨rfl,hI⟩⟩) x.old.length 0 () (by omega) (fun _ h=>by omega)
  have hi2:i < x.new.length:=by omega
  have ex:x.old.getD i 0 = x.old[i]:=by simp [List.getD,List.getElem?_eq_getElem hi]
  have ey:x.new.getD i 0 = x.new[i]:=by simp [List.getD,List.getElem?_eq_getElem hi2]
  by_cases hc:((x.old[i]).toNat:Int) = ((x.new[i]).toNat:Int)
  · right
    refine ⟨Sum.inr (Sum.inr (Sum.inr (Sum.inr false))),by simp [Sh.fH,hi,bT hi,bT hi2,hc],.inr ⟨rfl,fun hd=>hd i hi ?_⟩⟩
    rw [ex,ey]
    exact UInt8.toNat_inj.1 (by omega)
  · left
    refine ⟨(),by simp [Sh.fH,hi,bT hi,bT hi2,hc,next64 hi (show x.old.length ≤ _ by omega)],fun j hj=>?_⟩
    by_cases e:j = i
    · subst e; rw [ex,ey]; intro e; rw [e] at hc; exact hc rfl
    · exact hA j (by omega)
theorem yG {l:List QPiece} (hl:l.length ≤ 1099511627776) (hq:∀ p ∈ l,p.old.length ≤ 1099511627776):∃ g,Fx.loop (fun (v:Int)=>Sh.eA l v) 0 = some g ∧ ((g = Sum.inl () ∧ AllP l l.length) ∨ (g = Sum.inr false ∧ ¬ AllP l l.length)):=by
  refine dA (body:=fun (v:Int)=>Sh.eA l v) l.length (fun i (a:Unit)=>(i:Int)) (fun i a=>AllP l i) _
    (fun i a hi hA=>?_) (fun a hI=>⟨Sum.inl (),by simp [Sh.eA],.inl ⟨rfl,hI⟩⟩) l.length 0 () (by omega) (fun _ _ h=>by omega)
  have hpl:=hq l[i] (List.getElem_mem hi)
  generalize hp:l[i] = p at hpl
  have bad:(∀ h:OkP l i hi,False) → ∃ g,(some (Sum.inr (Sum.inr false)):Option (Int ⊕ (Unit ⊕ Bool))) = some (Sum.inr g) ∧ ((g = Sum.inl () ∧ AllP l l.length) ∨ (g = Sum.inr false ∧ ¬ AllP l l.length)) :=
    fun h=>⟨_,rfl,.inr ⟨rfl,fun k=>h (k i hi hi)⟩⟩
  show (∃ a',Sh.eA l (i:Int) = _ ∧ _) ∨ ∃ g,Sh.eA l (i:Int) = _ ∧ _
  simp only [Sh.eA,cS,hi,decide_true,cond_true,bT hi,hp,Option.bind_some,fW]
  by_cases c1 : -1 ≤ p.table ∧ p.table ≤ 7
  case neg=>right; simpa [c1,aU,Sh.bG,jA] using bad (fun h=>c1 ⟨by rw [← hp]; exact h.lo,by rw [← hp]; exact h.hi⟩)
  by_cases c2:0 ≤ p.from_ ∧ p.from_ ≤ 65535
  case neg=>right; simpa [c1,c2,aU,Sh.bG,jA] using bad (fun h=>c2 ⟨by rw [← hp]; exact h.from0,by have:=h.top; rw [hp] at this; omega⟩)
  by_cases c3:(p.old.length:Int) = (p.new.length:Int)
  case neg=>right; simpa [c1,c2,c3,aU,Sh.bG,jA] using bad (fun h=>c3 (by have:=h.eq; rw [hp] at this; omega))
  by_cases c4:(p.old.length:Int) = 0
  · right
    simp only [decide_eq_true c1,decide_eq_true c2,decide_eq_true c3,decide_eq_true c4,Bool.not_true,cond_false,cond_true,aU,Sh.bG,jA]
    exact bad (fun h=>h.ne (by rw [hp]; omega))
  by_cases c5:65535 < IntKind.i64.wrap (p.from_ + (p.old.length:Int))
  · right
    have:=bad (fun h=>by have h5:=h.top; rw [hp] at h5; rw [w64 (by omega)] at c5; omega)
    simp only [decide_eq_true c1,decide_eq_true c2,decide_eq_true c3,decide_eq_false c4,decide_eq_true c5,Bool.not_true,cond_false,cond_true,aU,Sh.bG,jA]
    exact this
  have c5':p.from_ + (p.old.length:Int) ≤ 65535:=by rw [w64 (by omega)] at c5; omega
  obtain ⟨g,hg,hgo⟩:=zN (x:=p) (by omega) (by omega)
  have hred:∀ t,Sh.bG l (i:Int) p false = t → seq (seq (bif !decide (-1 ≤ p.table ∧ p.table ≤ 7) then some (Sum.inl true) else bif !decide (0 ≤ p.from_ ∧ p.from_ ≤ 65535) then some (Sum.inl true) else bif !decide ((p.old.length:Int) = (p.new.length:Int)) then some (Sum.inl true) else bif decide ((p.old.length:Int) = 0) then some (Sum.inl true) else some (Sum.inl (decide (65535 < IntKind.i64.wrap (p.from_ + (p.old.length:Int)))))) fun v10065=>Sh.bG l (i:Int) p v10065) (fun x=>Sh.fG (i:Int)) = seq t (fun x=>Sh.fG (i:Int)):=by
    intro t ht
    rw [decide_eq_true c1,decide_eq_true c2,decide_eq_true c3,decide_eq_false c4,decide_eq_false c5]
    simp only [Bool.not_true,cond_false,aU,ht]
  rcases hgo with ⟨rfl,hd⟩ | ⟨rfl,hd⟩
  · have hj4:Sh.bG l (i:Int) p false = Sh.iY l (i:Int) p:=by
      unfold Sh.bG
      simp only [cond_false]
      exact cC hg rfl
    rw [hred _ hj4]
    have hok:(∀ (k:0 < i),(l[i - 1]'(by omega)).table < p.table ∨ ((l[i - 1]'(by omega)).table = p.table ∧ (l[i - 1]'(by omega)).from_ + ((l[i - 1]'(by omega)).old.length:Int) < p.from_)) → OkP l i hi:=by
      intro hu
      refine ⟨by rw [hp]; omega,by rw [hp]; omega,by rw [hp]; omega,by rw [hp]; omega,by rw [hp]; omega,by rw [hp]; omega,by rw [hp]; exact hd,?_⟩
      rw [hp]; exact hu
    unfold Sh.iY
    by_cases h0:i = 0
    · subst h0
      left
      exact ⟨(),by simp [aU,Sh.fG]; exact next64 hi (by omega),hA.succ hi (hok (fun k=>absurd k (by omega)))⟩
    · have h0':¬ (i:Int) = 0:=by omega
      have hpi:i - 1 < l.length:=by omega
      have hprev:=hA (i - 1) hpi (by omega)
      simp only [h0',decide_false,cond_false,prev64 (show 0 < i by omega) (by omega),bT hpi,Option.bind_some]
      generalize hq:l[i - 1] = q at *
      have e1:IntKind.i64.wrap (q.from_ + (q.old.length:Int)) = q.from_ + (q.old.length:Int):=by
        have h1:=hprev.from0; have h2:=hprev.top; rw [hq] at h1 h2; exact w64 (by omega)
      by_cases d1:p.table < q.table
      · right
        simpa [d1,aU,jA,Sh.gF] using bad (fun h=>by have:=h.up (by omega); rw [hp,hq] at this; omega)
      · by_cases d2:p.table = q.table
        · by_cases d3:p.from_ ≤ q.from_ + (q.old.length:Int)
          · right
            simpa [d1,d2,d3,e1,aU,jA,Sh.gF] using bad (fun h=>by have:=h.up (by omega); rw [hp,hq] at this; omega)
          · left
            exact ⟨(),by simp [d1,d2,d3,e1,aU,Sh.gF,Sh.fG]; exact next64 hi (by omega),hA.succ hi (hok (fun k=>by rw [hq]; right; omega))⟩
        · left
          exact ⟨(),by simp [d1,d2,aU,Sh.gF,Sh.fG]; exact next64 hi (by omega),hA.succ hi (hok (fun k=>by rw [hq]; left; omega))⟩
  · have hj4:Sh.bG l (i:Int) p false = some (Sum.inr (Sum.inr (Sum.inr false))):=by
      unfold Sh.bG
      simp only [cond_false]
      exact cC hg rfl
    rw [hred _ hj4]
    right
    exact bad (fun h=>hd (by rw [← hp]; exact h.df))
theorem rL {τ τ' γ:Type} {t:Option (τ ⊕ γ)} {t':Option (τ' ⊕ γ)} {o:τ ⊕ γ} {o':τ' ⊕ γ} {k:τ → Option γ} {k':τ' → Option γ} (h:t = some o) (h':t' = some o') (e:Fx.fin k o = Fx.fin k' o'):Fx.seq t k = Fx.seq t' k':=by rw [h,h']; exact e
theorem rW {m:QMark} (h1:m.regs.length ≤ 1099511627776) (h2:m.slots.length ≤ 1099511627776) (h3:m.pieces.length ≤ 1099511627776) (h4:∀ p ∈ m.pieces,p.old.length ≤ 1099511627776):Sh.jD m = Sh.dN m:=by
  have k5:Sh.jN m = Sh.dK m:=by
    obtain ⟨g,e1,hg⟩:=yG h3 h4
    obtain ⟨g',e1',hg'⟩:=sT h3
    have hb:Sh.kS m.pieces = Sh.dX m.pieces:=by
      unfold Sh.kS Sh.dX
      refine rL e1 e1' ?_
      rcases hg with ⟨rfl,ha⟩ | ⟨rfl,ha⟩ <;> rcases hg' with ⟨rfl,ha'⟩ | ⟨rfl,ha'⟩
      · rfl
      · exact absurd ha ha'
      · exact absurd ha' ha
      · rfl
    simp only [Sh.jN,Sh.dK,hb]
  have k2:Sh.jM m = Sh.dJ m:=by
    obtain ⟨g,e1,hg⟩:=aAl h2
    obtain ⟨g',e1',hg'⟩:=uY h2
    unfold Sh.jM Sh.dJ
    refine rL e1 e1' ?_
    rcases hg with ⟨rfl,ha⟩ | ⟨rfl,ha⟩ <;> rcases hg' with ⟨rfl,ha'⟩ | ⟨rfl,ha'⟩
    · exact k5
    · exact absurd ha ha'
    · exact absurd ha' ha
    · rfl
  have k1:∀ v,Sh.jL m v = Sh.dI m v:=by
    intro v
    unfold Sh.jL Sh.dI
    cases v
    · simp only [cond_false]
      obtain ⟨g,e1,hg⟩:=aBq h1
      obtain ⟨g',e1',hg'⟩:=yO h1
      refine rL e1 e1' ?_
      rcases hg with ⟨rfl,ha⟩ | ⟨rfl,ha⟩ <;> rcases hg' with ⟨rfl,ha'⟩ | ⟨rfl,ha'⟩
      · exact k2
      · exact absurd ha ha'
      · exact absurd ha' ha
      · rfl
    · rfl
  unfold Sh.jD Sh.dN
  simp only [dS,fW,k1]
end Go.Sp
end
section
namespace Go.Sp
open Go Go.Fw Go.Fx Go.Proofs
set_option linter.unusedVariables false
set_option linter.unusedSimpArgs false
structure St (b more:List UInt8) (r:QReader) (t:List UInt8):Prop where
  wf:Wf b r
  ok:r.e = 0 → b.drop r.at_.toNat ++ more = t
  bad:r.e ≠ 0 → r.e = 236 ∧ r.place = b.length ∧ more ≠ []
def I64 (x:Int):Prop:=-9223372036854775808 ≤ x ∧ x ≤ 9223372036854775807
theorem oO (v:Int):((Fw.byteOf v).toNat:Int) = v % 256:=by
  unfold Fw.byteOf
  have:(v % 256).toNat < 256:=by omega
  rw [UInt8.toNat_ofNat']; omega
theorem sQ (n:Nat):∀ v:Int,((num (lows n v):Nat):Int) = v % 256 ^ n:=by
  induction n with
  | zero=>intro v; simp only [lows,num,Int.pow_zero]; omega
  | succ n ih =>
    intro v
    have h:=ih (v / 256)
    simp only [lows,num]
    rw [Int.fdiv_eq_ediv_of_nonneg _ (by decide)]
    have e:(256:Int) ^ (n + 1) = 256 * 256 ^ n:=by rw [Int.pow_succ,Int.mul_comm]
    rw [e]
    have hp:(0:Int) < 256 ^ n:=Int.pow_pos (by decide)
    generalize (256:Int) ^ n = M at h hp
    have hm:=Int.emod_nonneg (v / 256) (show M ≠ 0 by omega)
    have hm2:=Int.emod_lt_of_pos (v / 256) hp
    have hd:=Int.emod_add_mul_ediv (v / 256) M
    have hb:=oO v
    have hv:v = 256 * (v / 256) + v % 256:=by omega
    generalize (v / 256) / M = q at hd
    have hv2:v = (v % 256 + 256 * ((v / 256) % M)) + 256 * M * q:=by
      have:256 * M * q = 256 * (M * q):=Int.mul_assoc _ _ _
      rw [this]; omega
    have hr:v % (256 * M) = (v % 256 + 256 * ((v / 256) % M)) % (256 * M):=by
      conv=>lhs; rw [hv2]
      exact Int.add_mul_emod_self_left _ _ _
    rw [hr,Int.emod_eq_of_lt (by omega) (by omega)]
    omega
theorem canon {n:Nat} (hn:n ≤ 4) {v:Int} (h:0 ≤ v ∧ v < 256 ^ n):IntKind.i64.wrap ((num (lows n v):Nat):Int) = v:=by
  have h1:(256:Nat) ^ n ≤ 256 ^ 4:=Nat.pow_le_pow_right (by decide) hn
  have h2:(256:Nat) ^ 4 = 4294967296:=rfl
  have h3:((256:Int) ^ n) = ((256 ^ n:Nat):Int):=by simp
  rw [sQ,Int.emod_eq_of_lt h.1 h.2,w64 (by omega)]
theorem canon8 {v:Int} (h:I64 v):IntKind.i64.wrap ((num (lows 8 v):Nat):Int) = v:=by
  obtain ⟨h1,h2⟩:=h
  rw [sQ,show (256:Int) ^ 8 = 18446744073709551616 by rfl]
  by_cases hv:0 ≤ v
  · rw [Int.emod_eq_of_lt hv (by omega)]; exact w64 ⟨h1,h2⟩
  · have e:v % 18446744073709551616 = v + 18446744073709551616:=by omega
    rw [e]
    have hm:(v + 18446744073709551616) % 18446744073709551616 = v + 18446744073709551616:=Int.emod_eq_of_lt (by omega) (by omega)
    have hn:(9223372036854775808:Int) ≤ v + 18446744073709551616:=by omega
    simp [IntKind.wrap,IntKind.signed,IntKind.bits,hm,hn]
section
variable {b more:List UInt8} {r r1 r2:QReader} {t:List UInt8}
theorem St.any (h:St b more r t) (he:r.e ≠ 0) (t':List UInt8):St b more r t':=⟨h.wf,fun k=>absurd k he,h.bad⟩
theorem St.to {t':List UInt8} (h:St b more r t) (k:r.e = 0 → t = t'):St b more r t':=⟨h.wf,fun he=>(h.ok he).trans (k he),h.bad⟩
theorem aCo {x:List UInt8} (h:St b more r (x ++ t)) {n:Int} (hn:0 ≤ n) (hx:r.e = 0 → (x.length:Int) = n):St b more (tk r n).2 t ∧ ((tk r n).2.e = 0 → (tk r n).1 = x):=by
  have hw:=aCp h.wf hn
  unfold tk at hw ⊢
  by_cases he:r.e = 0
  · have hx:=hx he
    rw [if_pos he] at hw ⊢
    have hk:=h.ok he
    have q0:=h.wf.at0; have q1:=h.wf.at1; have qb:=h.wf.b_eq
    by_cases hlt:r.at_ + n ≤ r.b.length
    · rw [if_pos hlt] at hw ⊢
      have hl:x.length ≤ (b.drop r.at_.toNat).length:=by rw [qb] at hlt; simp; omega
      have e1:(b.drop r.at_.toNat).take x.length = x:=by
        have:=congrArg (List.take x.length) hk
        rwa [List.take_append_of_le_length hl,List.take_left] at this
      have e2:(b.drop r.at_.toNat).drop x.length ++ more = t:=by
        have:=congrArg (List.drop x.length) hk
        rwa [List.drop_append_of_le_length hl,List.drop_left] at this
      have en:n.toNat = x.length:=by omega
      refine ⟨⟨hw,fun _=>?_,fun k=>absurd he k⟩,fun _=>?_⟩
      · show b.drop (r.at_ + n).toNat ++ more = t
        rw [show (r.at_ + n).toNat = r.at_.toNat + x.length by omega,← List.drop_drop]; exact e2
      · show (r.b.drop r.at_.toNat).take n.toNat = x
        rw [qb,en]; exact e1
    · rw [if_neg hlt] at hw ⊢
      refine ⟨⟨hw,fun k=>absurd (show (236:Int) = 0 from k) (by decide),fun _=>⟨rfl,by simp [qb],?_⟩⟩,fun k=>absurd (show (236:Int) = 0 from k) (by decide)⟩
      rintro rfl
      have:=congrArg List.length hk
      simp at this; rw [qb] at hlt; omega
  · rw [if_neg he] at hw ⊢
    exact ⟨h.any he t,fun k=>absurd k he⟩
theorem pR (hb:b.length ≤ 16777216) {n:Int} (hn:0 ≤ n ∧ n ≤ 4294967296) {x y:List UInt8} (h:Sh.aT r n = some (y,r1)) (hs:St b more r (x ++ t)) (hx:r.e = 0 → (x.length:Int) = n):St b more r1 t ∧ (r1.e = 0 → y = x):=by
  rw [mX hb hs.wf hn] at h
  have h1:=congrArg Prod.fst (Option.some.inj h)
  have h2:=congrArg Prod.snd (Option.some.inj h)
  simp only at h1 h2
  subst h1 h2
  exact aCo hs hn.1 hx
theorem mW (hb:b.length ≤ 16777216) (n:Nat) (hn:n ≤ 8) {u v:Int} (h:Sh.aA r (n:Nat) = some (u,r1)) (hs:St b more r (lows n v ++ t)) (hv:r.e = 0 → IntKind.i64.wrap ((num (lows n v):Nat):Int) = v):St b more r1 t ∧ (r1.e = 0 → u = v):=by
  rw [jQ hb hs.wf hn] at h
  have h1:=congrArg Prod.fst (Option.some.inj h)
  have h2:=congrArg Prod.snd (Option.some.inj h)
  simp only at h1 h2
  subst h1 h2
  obtain ⟨k1,k2⟩:=aCo hs (Int.natCast_nonneg n) (fun _=>by rw [bJ])
  refine ⟨k1,fun he=>?_⟩
  have he0:r.e = 0:=Classical.byContradiction fun hne=>by unfold tk at he; rw [if_neg hne] at he; exact hne he
  rw [k2 he,hv he0]
theorem jJ (hb:b.length ≤ 16777216) {u v:Int} (h:Sh.aA r 1 = some (u,r1)) (hs:St b more r ([Fw.byteOf v] ++ t)) (hv:r.e = 0 → 0 ≤ v ∧ v < 256):St b more r1 t ∧ (r1.e = 0 → u = v) :=
  mW hb 1 (by omega) h hs fun he=>canon (by omega) (by have:=hv he; omega)
theorem qL (hb:b.length ≤ 16777216) {u v:Int} (h:Sh.aA r 2 = some (u,r1)) (hs:St b more r (lows 2 v ++ t)) (hv:r.e = 0 → 0 ≤ v ∧ v < 65536):St b more r1 t ∧ (r1.e = 0 → u = v) :=
  mW hb 2 (by omega) h hs fun he=>canon (by omega) (by have:=hv he; omega)
theorem yT (hb:b.length ≤ 16777216) {u v:Int} (h:Sh.aA r 4 = some (u,r1)) (hs:St b more r (lows 4 v ++ t)) (hv:r.e = 0 → 0 ≤ v ∧ v < 4294967296):St b more r1 t ∧ (r1.e = 0 → u = v) :=
  mW hb 4 (by omega) h hs fun he=>canon (by omega) (by have:=hv he; omega)
theorem rP (hb:b.length ≤ 16777216) {u v:Int} (h:Sh.aA r 8 = some (u,r1)) (hs:St b more r (lows 8 v ++ t)) (hv:r.e = 0 → I64 v):St b more r1 t ∧ (r1.e = 0 → u = v) :=
  mW hb 8 (by omega) h hs fun he=>canon8 (hv he)
theorem pU (hb:b.length ≤ 16777216) (hw:Wf b r) {u:Int} (h:Sh.aA r 1 = some (u,r1)) (he:r1.e ≠ 0):u = 0:=(fO hb hw 1 (by omega) h).2 he
theorem nL (hb:b.length ≤ 16777216) {n u v:Int} (h:Sh.aN r n = some (u,r1)) (hs:St b more r ([Fw.byteOf v] ++ t)) (hn:0 ≤ n ∧ n < 256) (hv:r.e = 0 → 0 ≤ v ∧ v ≤ n):St b more r1 t ∧ (r1.e = 0 → u = v):=by
  obtain ⟨x,r2,a1,a2,a3⟩:=dH hb hs.wf
  obtain ⟨k1,k2⟩:=jJ hb a1 hs (fun he=>by have:=hv he; omega)
  unfold Sh.aN at h
  simp only [a1,Option.bind_some] at h
  have hlt:¬ n < x:=by
    by_cases he:r2.e = 0
    · have:=k2 he; have:=hv (fB a2 he); omega
    · have:=pU hb hs.wf a1 he; omega
  simp [hlt] at h
  obtain ⟨rfl,rfl⟩:=h
  exact ⟨k1,k2⟩
theorem yV (hb:b.length ≤ 16777216) {v u:LVal} (hs:St b more r (encRest v ++ t)) (hg:r.e = 0 → GoodV v ∧ I64 v.x) {k:Int} (hk:0 ≤ k ∧ k ≤ 5) (hkv:r.e = 0 → k = v.kind) (h:Sh.aO r k = some (u,r1)):St b more r1 t ∧ (r1.e = 0 → u = v):=by
  by_cases he:r.e = 0
  · obtain ⟨hg,hx⟩:=hg he
    obtain rfl:=hkv he
    rcases hg with ⟨h1,h2,h3⟩ | rfl | ⟨h1,h2,h3⟩
    · obtain ⟨p,ra,a1,a2,a3⟩:=eM hb hs.wf (n:=7) (by omega)
      obtain ⟨q,rb,b1,b2,b3⟩:=eM hb a2.1 (n:=63) (by omega)
      obtain ⟨x,rc,c1,c2⟩:=gQ hb b2.1
      simp [h1,Sh.aO,Sh.aR,Sh.aS,a1,b1,c1,aU] at h
      obtain ⟨rfl,rfl⟩:=h
      have hs':St b more r ([Fw.byteOf v.table] ++ ([Fw.byteOf v.row] ++ (lows 8 v.x ++ t))):=by simpa [encRest,h1] using hs
      obtain ⟨s1,v1⟩:=nL hb a1 hs' (by omega) (fun _=>h2)
      obtain ⟨s2,v2⟩:=nL hb b1 s1 (by omega) (fun _=>h3)
      obtain ⟨s3,v3⟩:=rP hb c1 s2 (fun _=>hx)
      refine ⟨s3,fun he=>?_⟩
      rw [v3 he,v2 (fB c2 he),v1 (fB b2 (fB c2 he)),← h1]
    · simp [LVal.zero,Sh.aO,Sh.aR,Sh.aS,aU] at h
      obtain ⟨rfl,rfl⟩:=h
      exact ⟨by simpa [encRest,LVal.zero] using hs,fun _=>rfl⟩
    · have h5:¬ v.kind = 5:=by omega
      have h0:¬ v.kind = 0:=by omega
      obtain ⟨x,rc,c1,c2⟩:=gQ hb hs.wf
      simp [h5,h0,Sh.aO,Sh.aR,Sh.aS,c1,aU] at h
      obtain ⟨rfl,rfl⟩:=h
      have hs':St b more r (lows 8 v.x ++ t):=by simpa [encRest,h5,h0] using hs
      obtain ⟨s3,v3⟩:=rP hb c1 hs' (fun _=>hx)
      refine ⟨s3,fun he=>?_⟩
      rw [v3 he]
      cases v; simp at h2 h3; subst h2 h3; rfl
  · obtain ⟨w,hw⟩:=sY hb hs.wf he hk
    rw [hw] at h
    cases h
    exact ⟨hs.any he t,fun k=>absurd k he⟩
theorem vA (hb:b.length ≤ 16777216) {v u:LVal} (hs:St b more r (encVal v ++ t)) (hg:r.e = 0 → GoodV v ∧ I64 v.x) (h:Sh.cC r = some (u,r1)):St b more r1 t ∧ (r1.e = 0 → u = v):=by
  obtain ⟨k,r2,a1,a2,a3,a4⟩:=eM hb hs.wf (n:=5) (by omega)
  obtain ⟨w,r3,b1,b2,b3⟩:=lQ hb a2.1 ⟨a3,a4⟩
  simp [Sh.cC,a1,b1] at h
  obtain ⟨rfl,rfl⟩:=h
  have hs':St b more r ([Fw.byteOf v.kind] ++ (encRest v ++ t)):=by simpa [encVal] using hs
  obtain ⟨s1,v1⟩:=nL hb a1 hs' (by omega) (fun he=>by
    rcases (hg he).1 with ⟨h1,_⟩ | rfl | ⟨h1,_⟩
    · omega
    · simp [LVal.zero]
    · omega)
  exact yV hb s1 (fun he=>hg (fB a2 he)) ⟨a3,a4⟩ v1 b1
theorem tY (hb:b.length ≤ 16777216) (hw:Wf b r) (he:r.e ≠ 0):Sh.aA r 1 = some (0,r):=by
  have:=jQ hb hw (n:=1) (by omega)
  have e0:IntKind.i64.wrap 0 = 0:=rfl
  simpa [tk,he,num,e0] using this
theorem vH {x y:Vec UInt8 8} (h:∀ j,j < 8 → x.l.getD j 0 = y.l.getD j 0):x = y:=by
  obtain ⟨x,hx⟩:=x
  obtain ⟨y,hy⟩:=y
  congr 1
  apply List.ext_getElem (by omega)
  intro j h1 h2
  have:=h j (by omega)
  simpa [List.getD,List.getElem?_eq_getElem h1,List.getElem?_eq_getElem h2] using this
theorem nZ (hb:b.length ≤ 16777216) (l:Vec UInt8 8) (m m':Int) (p:LVal) (hz:∀ j,j < 8 → bit m j = false → l.l.getD j 0 = 0):∀ (n i:Nat),n + i = 8 → ∀ (v:Vec UInt8 8) (r:QReader),
    St b more r (encBytes l.l m i n ++ t) → (r.e = 0 → m' = m ∧ ∀ j,j < 8 → v.l.getD j 0 = if j < i then l.l.getD j 0 else 0) →
    ∃ v' r',Fx.loop (fun (x:LSlot × QReader × Int)=>match x with | (v1,v2,v3)=>Sh.aM v1 v2 v3) (LSlot.mk p v m',r,(i:Int)) = some (Sum.inl (LSlot.mk p v' m',r')) ∧
      St b more r' t ∧ (r'.e = 0 → r.e = 0 ∧ v' = l):=by
  intro n
  induction n with
  | zero =>
    intro i hi v r hs hv
    obtain rfl:i = 8:=by omega
    refine ⟨v,r,dF (by simp [Sh.aM]),by simpa [encBytes] using hs,fun he=>⟨he,vH fun j hj=>?_⟩⟩
    rw [(hv he).2 j hj,if_pos hj]
  | succ n ih =>
    intro i hi v r hs hv
    have hlt:(i:Int) < 8:=by omega
    have e1:IntKind.i64.wrap ((i:Int) + 1) = ((i + 1:Nat):Int):=next64 (n:=8) (by omega) (by omega)
    have hvl:=v.len
    by_cases hbit:bit m' i = true
    · obtain ⟨x,r1,a1,a2,a3⟩:=dH hb hs.wf
      have hs':St b more r ([Fw.byteOf ((l.l.getD i 0).toNat:Int)] ++ (encBytes l.l m (i + 1) n ++ t)):=hs.to fun he=>by
        have hm:=(hv he).1
        subst hm
        have:Fw.byteOf ((l.l.getD i 0).toNat:Int) = l.l.getD i 0:=mB _ 0
        rw [this]; simp [encBytes,hbit]
      obtain ⟨s1,w1⟩:=jJ hb a1 hs' (fun _=>by have:=(l.l.getD i 0).toNat_lt; omega)
      obtain ⟨v',r',c1,c2,c3⟩:=ih (i + 1) (by omega) (v.set i (Fw.byteOf x)) r1 s1 (fun he=>by
        have he0:=fB a2 he
        refine ⟨(hv he0).1,fun j hj=>?_⟩
        have hx:Fw.byteOf x = l.l.getD i 0:=by rw [w1 he]; exact mB _ 0
        by_cases hij:i = j
        · subst hij
          rw [if_pos (by omega),hx]
          simp [Vec.set,List.getD,List.getElem?_set,hvl,hj]
        · have:=(hv he0).2 j hj
          have e:(v.set i (Fw.byteOf x)).l.getD j 0 = v.l.getD j 0:=by simp [Vec.set,List.getD,List.getElem?_set,hij]
          rw [e,this]
          by_cases hji:j < i
          · rw [if_pos hji,if_pos (by omega)]
          · rw [if_neg hji,if_neg (by omega)])
      refine ⟨v',r',eB ?_ c1,c2,fun he=>⟨fB a2 (c3 he).1,(c3 he).2⟩⟩
      have hb1:band .i64 (shr .i64 m' i) 1 = 1:=by simpa [bit] using hbit
      have hg:Fx.get v.l (i:Int) = some (v.l[i]'(by omega)):=bT (by omega)
      simp [Sh.aM,Sh.bZ,hlt,Fx.must,hb1,a1,hg,Fx.seq,Fx.fin,e1]
    · obtain ⟨v',r',c1,c2,c3⟩:=ih (i + 1) (by omega) v r (hs.to fun he=>by
        have hm:=(hv he).1
        subst hm
        simp [encBytes,hbit]) (fun he=>⟨(hv he).1,fun j hj=>by
          have hm:=(hv he).1
          have:=(hv he).2 j hj
          rw [this]
          by_cases hji:j < i
          · rw [if_pos hji,if_pos (by omega)]
          · rw [if_neg hji]
            by_cases hj1:j < i + 1
            · obtain rfl:j = i:=by omega
              rw [if_pos hj1,hz j hj (by rw [← hm]; simpa using hbit)]
            · rw [if_neg hj1]⟩)
      refine ⟨v',r',eB ?_ c1,c2,c3⟩
      have hb1:¬ band .i64 (shr .i64 m' i) 1 = 1:=by simpa [bit] using hbit
      simp [Sh.aM,Sh.bZ,hlt,Fx.must,hb1,Fx.seq,Fx.fin,e1]
theorem yW (hb:b.length ≤ 16777216) {s u:LSlot} (hs:St b more r (encSlot s ++ t)) (hg:r.e = 0 → GoodS s ∧ I64 s.ptr.x) (h:Sh.aP r = some (u,r1)):St b more r1 t ∧ (r1.e = 0 → u = s):=by
  obtain ⟨k,r2,a1,a2,a3,a4⟩:=eM hb hs.wf (n:=5) (by omega)
  -- the head byte,and what comes behind it
  have hhead:∃ tl,encSlot s = Fw.byteOf s.ptr.kind :: tl:=by
    unfold encSlot encVal
    by_cases h0:s.ptr.kind = 0
    · rw [if_pos h0,h0]; exact ⟨_,rfl⟩
    · rw [if_neg h0]; exact ⟨_,rfl⟩
  obtain ⟨tl,htl⟩:=hhead
  have hs':St b more r ([Fw.byteOf s.ptr.kind] ++ (tl ++ t)):=by rw [htl] at hs; exact hs
  obtain ⟨s1,v1⟩:=nL hb a1 hs' (by omega) (fun he=>by
    rcases (hg he).1 with ⟨h1,_⟩ | ⟨_,_,h1,_⟩
    · rw [h1]; simp [LVal.zero]
    · rcases h1 with ⟨h1,_⟩ | h1 | ⟨h1,_⟩
      · omega
      · rw [h1]; simp [LVal.zero]
      · omega)
  by_cases h0:k = 0
  · subst h0
    obtain ⟨m,r3,b1,b2,b3⟩:=dH hb a2.1
    have hin:r2.e = 0 → (s.ptr = LVal.zero ∧ (0 ≤ s.mask ∧ s.mask < 256) ∧ ∀ i,i < 8 → bit s.mask i = false → s.bytes.l.getD i 0 = 0):=fun he=>by
      rcases (hg (fB a2 he)).1 with h1 | ⟨h1,_⟩
      · exact h1
      · exact absurd (v1 he).symm h1
    by_cases he2:r2.e = 0
    · obtain ⟨i1,i2,i3⟩:=hin he2
      have etl:tl = [Fw.byteOf s.mask] ++ encBytes s.bytes.l s.mask 0 8:=by
        have hk:s.ptr.kind = 0:=by rw [i1]; rfl
        unfold encSlot at htl
        rw [if_pos hk] at htl
        exact (List.cons.inj htl).2.symm
      rw [etl,List.append_assoc] at s1
      obtain ⟨s2,v2⟩:=jJ hb b1 s1 (fun _=>i2)
      obtain ⟨v',r',c1,c2,c3⟩:=nZ hb s.bytes s.mask m LVal.zero i3 8 0 rfl ⟨List.replicate 8 0,rfl⟩ r3 s2 (fun he=>⟨v2 he,fun j hj=>by rw [if_neg (by omega)]; exact zr8 j hj⟩)
      have hh:Sh.aP r = some (LSlot.mk LVal.zero v' m,r'):=by
        simp only [Sh.aP,a1,b1,Option.bind_some,decide_true,cond_true]
        exact cC c1 rfl
      rw [hh] at h
      cases h
      refine ⟨c2,fun he=>?_⟩
      rw [(c3 he).2,v2 (c3 he).1,← i1]
    · obtain ⟨rfl,rfl⟩ : m = 0 ∧ r3 = r2:=by
        have:=tY hb a2.1 he2
        rw [b1] at this
        simpa using this
      obtain ⟨v',r',c1,c2,c3⟩:=nZ (t:=t) (b:=b) (more:=more) hb ⟨List.replicate 8 0,rfl⟩ 0 0 LVal.zero (fun j hj _=>zr8 j hj) 8 0 rfl ⟨List.replicate 8 0,rfl⟩ r3 (s1.any he2 _) (fun he=>absurd he he2)
      have hh:Sh.aP r = some (LSlot.mk LVal.zero v' 0,r'):=by
        simp only [Sh.aP,a1,b1,Option.bind_some,decide_true,cond_true]
        exact cC c1 rfl
      rw [hh] at h
      cases h
      exact ⟨c2,fun he=>absurd (c3 he).1 he2⟩
  · have he2:r2.e = 0:=Classical.byContradiction fun hne=>by
      -- a bad reader's kind is 0
      obtain ⟨x,r9,q1,q2,q3⟩:=dH hb hs.wf
      unfold Sh.aN at a1
      simp only [q1,Option.bind_some] at a1
      by_cases hlt:5 < x
      · simp only [hlt,decide_true,cond_true,Option.bind_eq_some_iff] at a1
        obtain ⟨r8,_,h8⟩:=a1
        cases h8
        exact h0 rfl
      · simp [hlt] at a1
        obtain ⟨rfl,rfl⟩:=a1
        exact h0 (pU hb hs.wf q1 hne)
    have hk:=v1 he2
    have hgs:s.ptr.kind ≠ 1 ∧ GoodV s.ptr ∧ s = LSlot.mk s.ptr ⟨List.replicate 8 0,rfl⟩ 0:=by
      rcases (hg (fB a2 he2)).1 with ⟨h1,_⟩ | ⟨_,h2,h3,h4⟩
      · exfalso; apply h0; rw [hk,h1]; rfl
      · exact ⟨h2,h3,h4⟩
    have h1:¬ k = 1:=by rw [hk]; exact hgs.1
    obtain ⟨v,r3,b1,b2,b3⟩:=lQ hb a2.1 ⟨a3,a4⟩
    have etl:tl = encRest s.ptr:=by
      unfold encSlot at htl
      rw [if_neg (by rw [← hk]; exact h0)] at htl
      exact (List.cons.inj htl).2.symm
    rw [etl] at s1
    obtain ⟨s2,v2⟩:=yV hb s1 (fun he=>⟨hgs.2.1,(hg (fB a2 he)).2⟩) ⟨a3,a4⟩ v1 b1
    simp [Sh.aP,a1,b1,h0,h1] at h
    obtain ⟨rfl,rfl⟩:=h
    refine ⟨s2,fun he=>?_⟩
    rw [v2 he]
    exact hgs.2.2.symm
end
end Go.Sp
end
section
namespace Go.Sp
open Go Go.Fw Go.Fx Go.Proofs
set_option linter.unusedVariables false
set_option linter.unusedSimpArgs false
section
variable {b more:List UInt8} {r r1 r2:QReader} {t:List UInt8}
theorem lX {σ γ X:Type} (N:Nat) (xs0:List X) (enc:X → List UInt8) {body:σ → Option (σ ⊕ γ)} (st:List X → QReader → Int → σ) (out:List X → QReader → γ)
    (hend:∀ xs r n,(n = 0 ∨ r.e ≠ 0) → body (st xs r n) = some (.inr (out xs r)))
    (hstep:∀ xs r (m:Nat) x t,r.e = 0 → m < N → xs.length < N → x ∈ xs0 → St b more r (enc x ++ t) → ∃ x' r',body (st xs r ((m + 1:Nat):Int)) = some (.inl (st (xs ++ [x']) r' (m:Int))) ∧ St b more r' t ∧ (r'.e = 0 → x' = x)) :
    ∀ (ys:List X) xs r (n:Int) t,(∀ y ∈ ys,y ∈ xs0) → St b more r (ys.flatMap enc ++ t) → (r.e = 0 → n = ys.length) → xs.length + ys.length ≤ N →
      ∃ zs r',loop body (st xs r n) = some (out (xs ++ zs) r') ∧ St b more r' t ∧ (r'.e = 0 → r.e = 0 ∧ zs = ys):=by
  intro ys
  induction ys with
  | nil =>
    intro xs r n t _ hs hn hN
    refine ⟨[],r,?_,by simpa using hs,fun he=>⟨he,rfl⟩⟩
    rw [List.append_nil]
    refine dF (hend _ _ _ ?_)
    by_cases he:r.e = 0
    · left; simpa using hn he
    · exact .inr he
  | cons y ys ih =>
    intro xs r n t hy hs hn hN
    by_cases he:r.e = 0
    · have hn:=hn he
      simp only [List.length_cons] at hn hN
      have hn':n = ((ys.length + 1:Nat):Int):=by omega
      subst hn'
      obtain ⟨x',r1,h1,h2,h3⟩:=hstep xs r ys.length y (ys.flatMap enc ++ t) he (by omega) (by omega) (hy y List.mem_cons_self) (by simpa using hs)
      obtain ⟨zs,r2,k1,k2,k3⟩:=ih (xs ++ [x']) r1 (ys.length:Int) t (fun z hz=>hy z (List.mem_cons_of_mem _ hz)) h2 (fun _=>rfl) (by simp; omega)
      refine ⟨x' :: zs,r2,eB h1 (by rw [k1]; simp),k2,fun h=>⟨he,?_⟩⟩
      rw [h3 (k3 h).1,(k3 h).2]
    · refine ⟨[],r,?_,hs.any he t,fun h=>absurd h he⟩
      rw [List.append_nil]; exact dF (hend _ _ _ (.inr he))
def RanM (m:QMark):Prop:=(∀ t ∈ m.regs,I64 t.old.x ∧ I64 t.new.x) ∧ (∀ t ∈ m.slots,I64 t.old.ptr.x ∧ I64 t.new.ptr.x) ∧ ∀ x ∈ m.sent,I64 x
theorem aAr (hb:b.length ≤ 16777216) (ts:List LTurn) (hg:∀ y ∈ ts,(0 ≤ y.reg ∧ y.reg < 256) ∧ (GoodV y.old ∧ I64 y.old.x) ∧ GoodV y.new ∧ I64 y.new.x) (hl:ts.length ≤ 255) {n:Int} (hs:St b more r (ts.flatMap encTurn ++ t)) (hn:r.e = 0 → n = ts.length):∃ ys r',Fx.loop (fun (v:List LTurn × QReader × Int)=>match v with | (v1,v2,v3)=>Sh.aF v1 v2 v3) ([],r,n) = some (Sum.inl (ys,r')) ∧
    St b more r' t ∧ (r'.e = 0 → r.e = 0 ∧ ys = ts):=by
  refine lX 255 ts encTurn (body:=fun (v:List LTurn × QReader × Int)=>match v with | (v1,v2,v3)=>Sh.aF v1 v2 v3) (fun xs r n=>(xs,r,n)) (fun xs r=>Sum.inl (xs,r))
    (fun xs r n h=>?_) (fun xs r m x t he hm hx hi hs=>?_) ts [] r n t (fun _ h=>h) hs hn (by simpa using hl)
  · show Sh.aF xs r n = _
    by_cases hp:0 < n
    · rcases h with h | h
      · omega
      · simp [Sh.aF,Sh.aY,hp,h,aU]
    · simp [Sh.aF,Sh.aY,hp,aU]
  · obtain ⟨g1,g2,g3⟩:=hg x hi
    obtain ⟨k,r1,a1,a2,a3⟩:=dH hb hs.wf
    obtain ⟨v,r2,b1,b2⟩:=jZ hb a2.1
    obtain ⟨u,r3,d1,d2⟩:=jZ hb b2.1
    simp only [encTurn,List.append_assoc] at hs
    obtain ⟨s1,v1⟩:=jJ hb a1 hs (fun _=>g1)
    obtain ⟨s2,v2⟩:=vA hb s1 (fun _=>g2) b1
    obtain ⟨s3,v3⟩:=vA hb s2 (fun _=>g3) d1
    refine ⟨LTurn.mk k v u,r3,?_,s3,fun h=>?_⟩
    · show Sh.aF xs r _ = _
      simp only [Sh.aF,Sh.aY,Sh.eY,eO,cond_true,he,decide_true,aU,a1,b1,d1,Option.bind_some,dW (bytes:=72) (l:=xs) (m:=[LTurn.mk k v u]) (by simp; omega) (by simp; omega),down64 (show m < _ by omega)]
    · rw [v3 h,v2 (fB d2 h),v1 (fB b2 (fB d2 h))]
theorem aAo (hb:b.length ≤ 16777216) (ts:List LTurn) (cs:List LCell) (hg:∀ y ∈ cs,(0 ≤ y.slot ∧ y.slot < 256) ∧ (GoodS y.old ∧ I64 y.old.ptr.x) ∧ GoodS y.new ∧ I64 y.new.ptr.x) (hl:cs.length ≤ 255) {n:Int} (hs:St b more r (cs.flatMap encCell ++ t)) (hn:r.e = 0 → n = cs.length):∃ ys r',Fx.loop (fun (v:List LTurn × List LCell × QReader × Int)=>match v with | (v0,v1,v2,v3)=>Sh.aG v0 v1 v2 v3) (ts,[],r,n) = some (Sum.inl (ts,ys,r')) ∧
    St b more r' t ∧ (r'.e = 0 → r.e = 0 ∧ ys = cs):=by
  refine lX 255 cs encCell (body:=fun (v:List LTurn × List LCell × QReader × Int)=>match v with | (v0,v1,v2,v3)=>Sh.aG v0 v1 v2 v3) (fun xs r n=>(ts,xs,r,n)) (fun xs r=>Sum.inl (ts,xs,r))
    (fun xs r n h=>?_) (fun xs r m x t he hm hx hi hs=>?_) cs [] r n t (fun _ h=>h) hs hn (by simpa using hl)
  · show Sh.aG ts xs r n = _
    by_cases hp:0 < n
    · rcases h with h | h
      · omega
      · simp [Sh.aG,Sh.aZ,hp,h,aU]
    · simp [Sh.aG,Sh.aZ,hp,aU]
  · obtain ⟨g1,g2,g3⟩:=hg x hi
    obtain ⟨k,r1,a1,a2,a3⟩:=dH hb hs.wf
    obtain ⟨v,r2,b1,b2⟩:=lV hb a2.1
    obtain ⟨u,r3,d1,d2⟩:=lV hb b2.1
    simp only [encCell,List.append_assoc] at hs
    obtain ⟨s1,v1⟩:=jJ hb a1 hs (fun _=>g1)
    obtain ⟨s2,v2⟩:=yW hb s1 (fun _=>g2) b1
    obtain ⟨s3,v3⟩:=yW hb s2 (fun _=>g3) d1
    refine ⟨LCell.mk k v u,r3,?_,s3,fun h=>?_⟩
    · show Sh.aG ts xs r _ = _
      simp only [Sh.aG,Sh.aZ,Sh.fA,eO,cond_true,he,decide_true,aU,a1,b1,d1,Option.bind_some,dW (bytes:=104) (l:=xs) (m:=[LCell.mk k v u]) (by simp; omega) (by simp; omega),down64 (show m < _ by omega)]
    · rw [v3 h,v2 (fB d2 h),v1 (fB b2 (fB d2 h))]
theorem yU (hb:b.length ≤ 16777216) (ts:List LTurn) (cs:List LCell) (ps:List QPiece) (hg:∀ y ∈ ps,(-1 ≤ y.table ∧ y.table ≤ 7) ∧ (0 ≤ y.from_ ∧ y.from_ < 65536) ∧ y.old.length < 65536 ∧ y.new.length = y.old.length) (hl:ps.length ≤ 4294967295) {n:Int} (hs:St b more r (ps.flatMap encPiece ++ t)) (hn:r.e = 0 → n = ps.length):∃ ys r',Fx.loop (fun (v:List LTurn × List LCell × List QPiece × QReader × Int)=>match v with | (v0,v4,v1,v2,v3)=>Sh.aD v0 v4 v1 v2 v3) (ts,cs,[],r,n) = some (Sum.inl (ts,cs,ys,r')) ∧
    St b more r' t ∧ (r'.e = 0 → r.e = 0 ∧ ys = ps):=by
  refine lX 4294967296 ps encPiece (body:=fun (v:List LTurn × List LCell × List QPiece × QReader × Int)=>match v with | (v0,v4,v1,v2,v3)=>Sh.aD v0 v4 v1 v2 v3) (fun xs r n=>(ts,cs,xs,r,n)) (fun xs r=>Sum.inl (ts,cs,xs,r))
    (fun xs r n h=>?_) (fun xs r m x t he hm hx hi hs=>?_) ps [] r n t (fun _ h=>h) hs hn (by simp; omega)
  · show Sh.aD ts cs xs r n = _
    by_cases hp:0 < n
    · rcases h with h | h
      · omega
      · simp [Sh.aD,Sh.aV,hp,h,aU]
    · simp [Sh.aD,Sh.aV,hp,aU]
  · obtain ⟨g1,g2,g3,g4⟩:=hg x hi
    obtain ⟨k,r1,a1,a2,a3⟩:=dH hb hs.wf
    obtain ⟨v,r2,b1,b2,b3⟩:=fL hb a2.1
    obtain ⟨u,r3,d1,d2,d3⟩:=fL hb b2.1
    obtain ⟨y,r4,e1,e2,e3⟩:=fG hb d2.1 (n:=u) (by omega)
    obtain ⟨z,r5,f1,f2,f3⟩:=fG hb e2.1 (n:=u) (by omega)
    simp only [encPiece,List.append_assoc] at hs
    have et:IntKind.i64.wrap (x.table + 1) = x.table + 1:=w64 (by omega)
    rw [et] at hs
    obtain ⟨s1,v1⟩:=jJ hb a1 hs (fun _=>by omega)
    obtain ⟨s2,v2⟩:=qL hb b1 s1 (fun _=>by omega)
    obtain ⟨s3,v3⟩:=qL hb d1 s2 (fun _=>by omega)
    obtain ⟨s4,v4⟩:=pR hb (by omega) e1 s3 (fun he=>by rw [v3 he])
    obtain ⟨s5,v5⟩:=pR hb (by omega) f1 s4 (fun he=>by rw [v3 (fB e2 he),g4])
    refine ⟨QPiece.mk (IntKind.i64.wrap (k - 1)) v y z,r5,?_,s5,fun h=>?_⟩
    · show Sh.aD ts cs xs r _ = _
      simp only [Sh.aD,Sh.aV,Sh.eF,Sh.eH,eO,cond_true,he,decide_true,aU,a1,b1,d1,e1,f1,eX e3 (by omega),eX f3 (by omega),Option.bind_some,dW (bytes:=64) (l:=xs) (m:=[QPiece.mk (IntKind.i64.wrap (k - 1)) v y z]) (by simp; omega) (by simp; omega),down64 (show m < _ by omega)]
    · have h4:=fB f2 h; have h3:=fB e2 h4; have h2:=fB d2 h3; have h1:=fB b2 h2
      rw [v5 h,v4 h4,v2 h2,v1 h1,w64 (by omega),show x.table + 1 - 1 = x.table by omega]
theorem aAq (hb:b.length ≤ 16777216) (a c:Int) (d:Bool) (ts:List LTurn) (cs:List LCell) (ps:List QPiece) (ss:List Int) (hg:∀ y ∈ ss,I64 y) (hl:ss.length ≤ 255) {n:Int} (hs:St b more r (ss.flatMap (lows 8) ++ t)) (hn:r.e = 0 → n = ss.length):∃ ys r',Fx.loop (fun (v:QMark × QReader × Int)=>match v with | (v1,v2,v3)=>Sh.aE v1 v2 v3) (QMark.mk a c d ts cs ps [],r,n) = some (Sum.inl (QMark.mk a c d ts cs ps ys,r')) ∧
    St b more r' t ∧ (r'.e = 0 → r.e = 0 ∧ ys = ss):=by
  refine lX 255 ss (lows 8) (body:=fun (v:QMark × QReader × Int)=>match v with | (v1,v2,v3)=>Sh.aE v1 v2 v3) (fun xs r n=>(QMark.mk a c d ts cs ps xs,r,n)) (fun xs r=>Sum.inl (QMark.mk a c d ts cs ps xs,r))
    (fun xs r n h=>?_) (fun xs r m x t he hm hx hi hs=>?_) ss [] r n t (fun _ h=>h) hs hn (by simpa using hl)
  · show Sh.aE _ r n = _
    by_cases hp:0 < n
    · rcases h with h | h
      · omega
      · simp [Sh.aE,Sh.aW,hp,h,aU]
    · simp [Sh.aE,Sh.aW,hp,aU]
  · obtain ⟨k,r1,a1,a2⟩:=gQ hb hs.wf
    obtain ⟨s1,v1⟩:=rP hb a1 hs (fun _=>hg x hi)
    refine ⟨k,r1,?_,s1,v1⟩
    show Sh.aE _ r _ = _
    simp only [Sh.aE,Sh.aW,Sh.eG,eO,cond_true,he,decide_true,aU,a1,Option.bind_some,dW (bytes:=8) (l:=xs) (m:=[k]) (by simp; omega) (by simp; omega),down64 (show m < _ by omega)]
structure PlainM (m:QMark):Prop where
  at_:0 ≤ m.at_ ∧ m.at_ ≤ 4095
  next:0 ≤ m.next ∧ m.next ≤ 4095
  sent:m.sent.length ≤ 1
  regs:AllReg m m.regs.length
  slots:AllSlot m m.slots.length
  pieces:AllP m.pieces m.pieces.length
theorem mE {m:QMark} (h1:m.regs.length ≤ 1099511627776) (h2:m.slots.length ≤ 1099511627776) (h3:m.pieces.length ≤ 1099511627776) (h:Sh.dN m = some true):PlainM m:=by
  unfold Sh.dN at h
  simp only [dS,Option.bind_some] at h
  by_cases c1:0 ≤ m.at_ ∧ m.at_ ≤ 4095
  · by_cases c2:0 ≤ m.next ∧ m.next ≤ 4095
    · by_cases c3:1 < (m.sent.length:Int)
      · simp [c1,c2,c3,aU,Sh.dI] at h
      · have e1:decide (0 ≤ m.at_ ∧ m.at_ ≤ 4095) = true:=decide_eq_true c1
        have e2:decide (0 ≤ m.next ∧ m.next ≤ 4095) = true:=decide_eq_true c2
        have e3:decide (1 < (m.sent.length:Int)) = false:=decide_eq_false c3
        simp only [e1,e2,e3,Bool.not_true,cond_false,aU,Sh.dI] at h
        obtain ⟨g,p1,p2⟩:=yO h1
        rw [show Fx.loop (fun (v:Int × Int)=>match v with | (v1427,v1428)=>Sh.bJ m v1427 v1428) (0,-1) = some g from p1] at h
        rcases p2 with ⟨rfl,p2⟩ | ⟨rfl,_⟩
        · rw [show Fx.seq (some (Sum.inl ())) (fun _=>Sh.dJ m) = Sh.dJ m from rfl] at h
          unfold Sh.dJ at h
          obtain ⟨g,q1,q2⟩:=uY h2
          rw [show Fx.loop (fun (v:Int × Int)=>match v with | (v1889,v1890)=>Sh.bK m v1889 v1890) (-1,0) = some g from q1] at h
          rcases q2 with ⟨rfl,q2⟩ | ⟨rfl,_⟩
          · rw [show Fx.seq (some (Sum.inl ())) (fun _=>Sh.dK m) = Sh.dK m from rfl] at h
            unfold Sh.dK Sh.dX at h
            obtain ⟨g,r1,r2⟩:=sT h3
            rw [show Fx.loop (fun (v:Int × Int × Int)=>match v with | (v1,v2,v3)=>Sh.aL m.pieces v1 v2 v3) (0,-1,0) = some g from r1] at h
            rcases r2 with ⟨rfl,r2⟩ | ⟨rfl,_⟩
            · exact ⟨c1,c2,by omega,p2,q2,r2⟩
            · simp [jA] at h
          · simp [jA] at h
        · simp [jA] at h
    · simp [c1,c2,aU,Sh.dI] at h
  · simp [c1,aU,Sh.dI] at h
end
end Go.Sp
end
section
namespace Go.Sp
open Go Go.Fw Go.Fx Go.Proofs
set_option linter.unusedVariables false
set_option linter.unusedSimpArgs false
section
variable {b more:List UInt8} {r r1 r2:QReader} {t:List UInt8}
theorem aBs (hb:b.length ≤ 16777216) {m:QMark} (hg:GoodM m) (hr:RanM m) (hpl:m.pieces.length < 4294967296) (hs:St b more r (encMark m ++ t)):∃ m' r',Sh.bM r = some (m',r') ∧ St b more r' t ∧ (r'.e = 0 → m' = m):=by
  obtain ⟨g1,g2,g3,g4,g5,g6⟩:=hg
  have hP:=mE (by omega) (by omega) (by omega) g3
  obtain ⟨ra,rb,rc⟩:=hr
  simp only [encMark,List.append_assoc] at hs
  obtain ⟨a,r1,a1,a2,a3⟩:=fL hb hs.wf
  obtain ⟨c,r2,b1,b2,b3⟩:=fL hb a2.1
  obtain ⟨d,r3,q1,q2,q3⟩:=eM hb b2.1 (n:=1) (by omega)
  have h1:=hP.at_; have h2:=hP.next; have h3:=hP.sent
  obtain ⟨s1,v1⟩:=qL hb a1 hs (fun _=>by omega)
  obtain ⟨s2,v2⟩:=qL hb b1 s1 (fun _=>by omega)
  have hd:(if m.done then (1:UInt8) else 0) = Fw.byteOf (if m.done then 1 else 0):=by cases m.done <;> rfl
  rw [hd] at s2
  obtain ⟨s3,v3⟩:=nL hb q1 s2 (by omega) (fun _=>by split <;> omega)
  have v3':r3.e = 0 → decide (d = 1) = m.done:=fun he=>by rw [v3 he]; cases m.done <;> rfl
  obtain ⟨n1,r4,d1,d2,d3⟩:=dH hb q2.1
  obtain ⟨s4,v4⟩:=jJ hb d1 s3 (fun _=>by omega)
  obtain ⟨ts,r5,e1,e2,e3⟩:=pS hb d2.1 d3
  obtain ⟨ts0,r50,e4,s5,v5⟩:=aAr (n:=n1) hb m.regs (fun y hy=>by
    obtain ⟨i,hi,rfl⟩:=List.mem_iff_getElem.1 hy
    have k:=hP.regs i hi hi
    have k1:=k.lo; have k2:=k.hi
    exact ⟨⟨k1,by omega⟩,⟨(g1 _ hy).1,(ra _ hy).1⟩,(g1 _ hy).2,(ra _ hy).2⟩) g4 s4 (fun he=>v4 he)
  obtain ⟨rfl,rfl⟩ : ts = ts0 ∧ r5 = r50:=by simpa using e1.symm.trans e4
  obtain ⟨n2,r6,f1,f2,f3⟩:=dH hb e2.1
  obtain ⟨s6,v6⟩:=jJ hb f1 s5 (fun _=>by omega)
  obtain ⟨cs,r7,i1,i2,i3⟩:=oR hb f2.1 ts f3
  obtain ⟨cs0,r70,i4,s7,v7⟩:=aAo (n:=n2) hb ts m.slots (fun y hy=>by
    obtain ⟨i,hi,rfl⟩:=List.mem_iff_getElem.1 hy
    have k:=hP.slots i hi hi
    have k1:=k.lo; have k2:=k.hi
    exact ⟨⟨k1,by omega⟩,⟨(g2 _ hy).1,(rb _ hy).1⟩,(g2 _ hy).2,(rb _ hy).2⟩) g5 s6 (fun he=>v6 he)
  obtain ⟨rfl,rfl⟩ : cs = cs0 ∧ r7 = r70:=by simpa using i1.symm.trans i4
  obtain ⟨n3,r8,j1,j2,j3⟩:=lH hb i2.1
  obtain ⟨s8,v8⟩:=yT hb j1 s7 (fun _=>by omega)
  obtain ⟨ps,r9,k1,k2,k3⟩:=nF hb j2.1 ts cs j3
  obtain ⟨ps0,r90,k4,s9,v9⟩:=yU (n:=n3) hb ts cs m.pieces (fun y hy=>by
    obtain ⟨i,hi,rfl⟩:=List.mem_iff_getElem.1 hy
    have k:=hP.pieces i hi hi
    have k1:=k.lo; have k2:=k.hi; have k3:=k.from0; have k4:=k.top; have k5:=k.eq
    exact ⟨⟨k1,k2⟩,⟨k3,by omega⟩,by omega,k5⟩) (by omega) s8 (fun he=>v8 he)
  obtain ⟨rfl,rfl⟩ : ps = ps0 ∧ r9 = r90:=by simpa using k1.symm.trans k4
  obtain ⟨n4,r10,l1,l2,l3⟩:=dH hb k2.1
  obtain ⟨s10,v10⟩:=jJ hb l1 s9 (fun _=>by omega)
  obtain ⟨ss,r11,m1,m2,m3⟩:=pN hb l2.1 a c (decide (d = 1)) ts cs ps l3
  obtain ⟨ss0,r110,m4,s11,v11⟩:=aAq (n:=n4) hb a c (decide (d = 1)) ts cs ps m.sent rc (by omega) s10 (fun he=>v10 he)
  obtain ⟨rfl,rfl⟩ : ss = ss0 ∧ r11 = r110:=by simpa using m1.symm.trans m4
  obtain ⟨q,hq⟩:=kZ (m:=QMark.mk a c (decide (d = 1)) ts cs ps ss) (by simp; omega) (by simp; omega) (by simp; omega)
  have step:Sh.bM r = Fx.seq ((Sh.dN (QMark.mk a c (decide (d = 1)) ts cs ps ss)).bind fun y16827=>(bif (!y16827) then ((Sh.aB r11 r.at_ 230).bind fun y16830=>(some (Sum.inl y16830))) else (some (Sum.inl r11)))) fun v16823=>Sh.aQ (QMark.mk a c (decide (d = 1)) ts cs ps ss) v16823:=by
    simp only [Sh.bM,a1,b1,q1,Option.bind_some,aU,Sh.fB,d1]
    refine cC e1 ?_
    simp only [Fx.fin,Sh.eX,f1,Option.bind_some]
    refine cC i1 ?_
    simp only [Fx.fin,Sh.eZ,j1,Option.bind_some]
    refine cC k1 ?_
    simp only [Fx.fin,Sh.eE,l1,Option.bind_some]
    exact cC m1 rfl
  rw [step,hq]
  by_cases he:r11.e = 0
  · obtain ⟨z10,w10⟩:=v11 he
    have z9:=fB l2 z10
    obtain ⟨z8,w8⟩:=v9 z9
    have z7:=fB j2 z8
    obtain ⟨z6,w6⟩:=v7 z7
    have z5:=fB f2 z6
    obtain ⟨z4,w4⟩:=v5 z5
    have z3:=fB d2 z4
    have z2:=fB q2 z3
    have z1:=fB b2 z2
    have em:QMark.mk a c (decide (d = 1)) ts cs ps ss = m:=by rw [v1 z1,v2 z2,v3' z3,w4,w6,w8,w10]
    rw [em] at hq ⊢
    obtain rfl:q = true:=Option.some.inj (hq.symm.trans g3)
    exact ⟨m,r11,by simp only [Option.bind_some,Bool.not_true,cond_false,aU,Sh.aQ],s11,fun _=>rfl⟩
  · have hf:Sh.aB r11 r.at_ 230 = some r11:=by simp [Sh.aB,he]
    refine ⟨QMark.mk a c (decide (d = 1)) ts cs ps ss,r11,?_,s11,fun h=>absurd h he⟩
    cases q
    · simp only [Option.bind_some,Bool.not_false,cond_true,hf,aU,Sh.aQ]
    · simp only [Option.bind_some,Bool.not_true,cond_false,aU,Sh.aQ]
theorem aBt (hb:b.length ≤ 16777216) (c:List UInt8) (xs:List (List UInt8)) (hg:∀ y ∈ xs,y.length ≤ 65535) (hl:xs.length ≤ 8) {n:Int} (hs:St b more r (xs.flatMap encRow ++ t)) (hn:r.e = 0 → n = xs.length):∃ ys r',Fx.loop (fun (v:QReader × QInput × Int)=>match v with | (v1,v2,v3)=>Sh.aI v1 v2 v3) (r,QInput.mk c [],n) = some (Sum.inl (r',QInput.mk c ys)) ∧
    St b more r' t ∧ (r'.e = 0 → r.e = 0 ∧ ys = xs):=by
  refine lX 255 xs encRow (body:=fun (v:QReader × QInput × Int)=>match v with | (v1,v2,v3)=>Sh.aI v1 v2 v3) (fun xs r n=>(r,QInput.mk c xs,n)) (fun xs r=>Sum.inl (r,QInput.mk c xs))
    (fun xs r n h=>?_) (fun xs r m x t he hm hx hi hs=>?_) xs [] r n t (fun _ h=>h) hs hn (by simp; omega)
  · show Sh.aI r _ n = _
    by_cases hp:0 < n
    · rcases h with h | h
      · omega
      · simp [Sh.aI,Sh.bU,hp,h,aU]
    · simp [Sh.aI,Sh.bU,hp,aU]
  · have hxl:=hg x hi
    obtain ⟨u,r1,a1,a2,a3⟩:=fL hb hs.wf
    obtain ⟨y,r2,b1,b2,b3⟩:=fG hb a2.1 (n:=u) (by omega)
    simp only [encRow,List.append_assoc] at hs
    obtain ⟨s1,v1⟩:=qL hb a1 hs (fun _=>by omega)
    obtain ⟨s2,v2⟩:=pR hb (by omega) b1 s1 (fun he=>by rw [v1 he])
    refine ⟨y,r2,?_,s2,v2⟩
    show Sh.aI r _ _ = _
    simp only [Sh.aI,Sh.bU,Sh.hL,eO,cond_true,he,decide_true,aU,a1,b1,eX b3 (by omega),Option.bind_some,dW (bytes:=24) (l:=xs) (m:=[y]) (by simp; omega) (by simp; omega),down64 (show m < _ by omega)]
theorem aAp (hb:b.length ≤ 16777216) (i:QInput) (e:Int) (xs:List QMark) (hg:∀ y ∈ xs,GoodM y ∧ RanM y ∧ y.pieces.length < 4294967296) (hl:xs.length < 4294967296) {n:Int} (hs:St b more r (xs.flatMap encMark ++ t)) (hn:r.e = 0 → n = xs.length):∃ ys r',Fx.loop (fun (v:QReader × QRecord × Int)=>match v with | (v1,v2,v3)=>Sh.aJ v1 v2 v3) (r,QRecord.mk i [] e,n) = some (Sum.inl (r',QRecord.mk i ys e)) ∧
    St b more r' t ∧ (r'.e = 0 → r.e = 0 ∧ ys = xs):=by
  refine lX 4294967296 xs encMark (body:=fun (v:QReader × QRecord × Int)=>match v with | (v1,v2,v3)=>Sh.aJ v1 v2 v3) (fun xs r n=>(r,QRecord.mk i xs e,n)) (fun xs r=>Sum.inl (r,QRecord.mk i xs e))
    (fun xs r n h=>?_) (fun xs r m x t he hm hx hi hs=>?_) xs [] r n t (fun _ h=>h) hs hn (by simp; omega)
  · show Sh.aJ r _ n = _
    by_cases hp:0 < n
    · rcases h with h | h
      · omega
      · simp [Sh.aJ,Sh.bW,hp,h,aU]
    · simp [Sh.aJ,Sh.bW,hp,aU]
  · obtain ⟨g1,g2,g3⟩:=hg x hi
    obtain ⟨u,r1,a1,a2,a3⟩:=aBs hb g1 g2 g3 hs
    refine ⟨u,r1,?_,a2,a3⟩
    show Sh.aJ r _ _ = _
    simp only [Sh.aJ,Sh.bW,Sh.gZ,eO,cond_true,he,decide_true,aU,a1,Option.bind_some,dW (bytes:=120) (l:=xs) (m:=[u]) (by simp; omega) (by simp; omega),down64 (show m < _ by omega)]
def FitR (p:QRecord):Prop:=GoodR p ∧ (∀ m ∈ p.marks,RanM m ∧ m.pieces.length < 4294967296) ∧ p.marks.length < 4294967296
theorem pP {ext:List UInt8} {p:QRecord} (hp:FitR p) (hb:b.length ≤ 16777216) (h:b ++ more = encRecord p ++ ext):∃ p' r',Sh.bB b = Sh.bD b r' p' ∧ St b more r' ext ∧ (r'.e = 0 → p' = p):=by
  obtain ⟨⟨g1,g2,g3,g4,g5⟩,g6,g7⟩:=hp
  have h0:¬ (16777216:Int) < (b.length:Int):=by omega
  have hw0:Wf b (QReader.mk b 0 0 0):=⟨rfl,by simp,by simp,by simp,by simp⟩
  have s0:St b more (QReader.mk b 0 0 0) (encRecord p ++ ext):=⟨hw0,fun _=>by simpa using h,fun k=>absurd rfl k⟩
  simp only [encRecord,List.append_assoc] at s0
  obtain ⟨x,r1,a1,a2,a3⟩:=fG hb hw0 (n:=4) (by omega)
  obtain ⟨s1,v1⟩:=pR hb (by omega) a1 s0 (fun _=>rfl)
  have hm:∃ r2,Fx.seq ((Sh.aT (QReader.mk b 0 0 0) 4).bind fun y4147=>(bif (!(decide (y4147.1 = [84,82,67,49]))) then ((Sh.aB y4147.2 0 236).bind fun y4154=>(some (Sum.inl y4154))) else (some (Sum.inl y4147.2)))) (fun v4143=>Sh.bH b v4143) = Sh.bH b r2 ∧ r2 = r1:=by
    simp only [a1,Option.bind_some]
    by_cases hx:x = [84,82,67,49]
    · exact ⟨r1,by simp [hx,aU],rfl⟩
    · have he:r1.e ≠ 0:=fun he=>hx (v1 he)
      have hf:Sh.aB r1 0 236 = some r1:=by simp [Sh.aB,he]
      exact ⟨r1,by simp [hx,hf,aU],rfl⟩
  obtain ⟨r2,b1,rfl⟩:=hm
  obtain ⟨n1,r3,c1,c2,c3⟩:=fL hb s1.wf
  obtain ⟨s2,v2⟩:=qL hb c1 s1 (fun _=>by omega)
  obtain ⟨ctx,r4,d1,d2,d3⟩:=fG hb c2.1 (n:=n1) (by omega)
  obtain ⟨s3,v3⟩:=pR hb (by omega) d1 s2 (fun he=>by rw [v2 he])
  obtain ⟨n2,r5,e1,e2,e3⟩:=eM hb d2.1 (n:=8) (by omega)
  obtain ⟨s4,v4⟩:=nL hb e1 s3 (by omega) (fun _=>by omega)
  obtain ⟨ys,r6,f1,f2,f3⟩:=rK hb e2.1 ctx e3
  obtain ⟨ys0,r60,f4,s5,v5⟩:=aBt (n:=n2) hb ctx p.in_.tables g3 g2 s4 v4
  obtain ⟨rfl,rfl⟩ : r6 = r60 ∧ ys = ys0:=by simpa using f1.symm.trans f4
  obtain ⟨en,r7,i1,i2,i3⟩:=dH hb f2.1
  obtain ⟨s6,v6⟩:=jJ hb i1 s5 (fun _=>by omega)
  have hx:en = 0 ∨ (80 ≤ en ∧ en ≤ 89):=by
    by_cases he:r7.e = 0
    · rw [v6 he]; exact g4
    · left; exact pU hb f2.1 i1 he
  have hend:Fx.seq ((Sh.aA r6 1).bind fun y5802=>((Sh.eP y5802.1).bind fun y5807=>(bif (!y5807) then ((Sh.aB y5802.2 (IntKind.i64.wrap (y5802.2.at_ - 1)) 236).bind fun y5810=>(some (Sum.inl (y5810,QInput.mk ctx ys,y5802.1)))) else (some (Sum.inl (y5802.2,QInput.mk ctx ys,y5802.1)))))) (fun (v5789,v5792,v5800)=>Sh.bV b v5789 v5792 v5800) = Sh.bV b r7 (QInput.mk ctx ys) en:=by
    simp only [i1,Option.bind_some,eV]
    rw [decide_eq_true hx]
    rfl
  obtain ⟨n3,r9,j1,j2,j3⟩:=lH hb i2.1
  obtain ⟨s7,v7⟩:=yT hb j1 s6 (fun _=>by omega)
  obtain ⟨ms,r10,k1,k2,k3⟩:=pC hb j2.1 (QInput.mk ctx ys) en j3
  obtain ⟨ms0,r100,k4,s8,v8⟩:=aAp (n:=n3) (t:=ext) hb (QInput.mk ctx ys) en p.marks (fun y hy=>⟨g5 y hy,g6 y hy⟩) g7 s7 v7
  obtain ⟨rfl,rfl⟩ : r10 = r100 ∧ ms = ms0:=by simpa using k1.symm.trans k4
  refine ⟨QRecord.mk (QInput.mk ctx ys) ms en,r10,?_,s8,fun he=>?_⟩
  · simp only [Sh.bB,h0,decide_false,cond_false]
    rw [b1]
    simp only [Sh.bH,c1,d1,eX d3 (by omega),e1,Option.bind_some]
    refine cC f1 ?_
    simp only [Fx.fin,Sh.gG]
    refine hend.trans ?_
    simp only [Sh.bV,j1,Option.bind_some]
    exact cC k1 rfl
  · obtain ⟨z9,w9⟩:=v8 he
    have z7:=fB j2 z9
    have z6:=fB i2 z7
    obtain ⟨z5,w5⟩:=v5 z6
    have z4:=fB e2 z5
    rw [w9,v6 z7,w5,v3 z4]
end
theorem vL {p:QRecord} (hp:FitR p) (hb:(encRecord p).length ≤ 16777216):Sh.bB (encRecord p) = some (p,0,0):=by
  obtain ⟨p',r',h1,h2,h3⟩:=pP (b:=encRecord p) (more:=[]) (ext:=[]) hp hb rfl
  have he:r'.e = 0:=Classical.byContradiction fun h=>(h2.bad h).2.2 rfl
  obtain rfl:=h3 he
  have hk:=h2.ok he
  have q0:=h2.wf.at0; have q1:=h2.wf.at1
  have:=congrArg List.length hk
  simp at this
  have hlt:¬ r'.at_ < ((encRecord p').length:Int):=by omega
  rw [h1]
  simp [Sh.bD,hlt,aU,Sh.aX,he]
theorem zR {p:QRecord} (hp:FitR p) {b more:List UInt8} (hb:b.length ≤ 16777216) (h:b ++ more = encRecord p) (hm:more ≠ []):∃ q,Sh.bB b = some (q,(b.length:Int),236):=by
  obtain ⟨p',r',h1,h2,h3⟩:=pP (ext:=[]) hp hb (by simpa using h)
  have he:r'.e ≠ 0:=fun h=>by
    have:=h2.ok h
    simp at this
    exact hm this.2
  obtain ⟨k1,k2,-⟩:=h2.bad he
  rw [h1]
  have hf:∀ x,Sh.aB r' x 236 = some r':=fun x=>by simp [Sh.aB,he]
  refine ⟨QRecord.mk (QInput.mk [] []) [] 0,?_⟩
  have e1:decide (r'.e = 0) = false:=decide_eq_false he
  by_cases hlt:r'.at_ < (b.length:Int)
  · simp [Sh.bD,hlt,hf,aU,Sh.aX,k1,k2]
  · simp [Sh.bD,hlt,aU,Sh.aX,k1,k2]
theorem xA {p:QRecord} (hp:FitR p) {ext:List UInt8} (hb:(encRecord p ++ ext).length ≤ 16777216) (hm:ext ≠ []):∃ q,Sh.bB (encRecord p ++ ext) = some (q,((encRecord p).length:Int),236):=by
  obtain ⟨p',r',h1,h2,h3⟩:=pP (b:=encRecord p ++ ext) (more:=[]) (ext:=ext) hp hb (by simp)
  have he:r'.e = 0:=Classical.byContradiction fun h=>(h2.bad h).2.2 rfl
  have hk:=h2.ok he
  have q0:=h2.wf.at0; have q1:=h2.wf.at1
  have hl:=congrArg List.length hk
  have hx:=List.length_pos_iff.2 hm
  simp at hl q1
  have hat:r'.at_ = ((encRecord p).length:Int):=by omega
  have hlt:r'.at_ < ((encRecord p ++ ext).length:Int):=by simp; omega
  have hf:Sh.aB r' r'.at_ 236 = some (QReader.mk r'.b r'.at_ r'.at_ 236):=by simp [Sh.aB,he]
  rw [h1]
  refine ⟨QRecord.mk (QInput.mk [] []) [] 0,?_⟩
  unfold Sh.bD
  rw [decide_eq_true hlt]
  simp only [cond_true,hf,Option.bind_some,aU,Sh.aX]
  rw [hat]; rfl
end Go.Sp
end
section
namespace Go.Sp
open Go Go.Fw Go.Fx Go.Proofs
set_option linter.unusedVariables false
set_option linter.unusedSimpArgs false
theorem sA (x:Int):Fw.byteOf (band .i64 x 255) = Fw.byteOf x:=by
  have h1:(BitVec.ofInt IntKind.i64.bits x &&& BitVec.ofInt IntKind.i64.bits 255).toNat = (x % 256).toNat:=by
    show (BitVec.ofInt 64 x &&& BitVec.ofInt 64 255).toNat = (x % 256).toNat
    have e1:(BitVec.ofInt 64 255).toNat = 2 ^ 8 - 1:=by decide
    rw [BitVec.toNat_and,e1,Nat.and_two_pow_sub_one_eq_mod,BitVec.toNat_ofInt]
    omega
  have h2:band .i64 x 255 = x % 256:=by
    unfold band
    rw [h1]
    have h3:(((x % 256).toNat:Nat):Int) = x % 256:=by omega
    rw [h3]
    exact IntWalk.i64_in _ (by omega)
  rw [h2]
  unfold Fw.byteOf
  have:x % 256 % 256 = x % 256:=by omega
  rw [this]
abbrev N0:Nat:=70368744177664
theorem app1 {l m:List UInt8} (h:l.length + m.length ≤ N0):Fx.app 1 l m = some (l ++ m):=dW (by simp [N0] at h; omega) (by simp [N0] at h; omega)
theorem fA {l:List UInt8} {v:Int} (h:l.length + 1 ≤ N0):Sh.aH ⟨l⟩ v = some ⟨l ++ [Fw.byteOf v]⟩:=by
  unfold Sh.aH
  rw [app1 (by simpa using h)]; rfl
theorem qA (n:Nat) (hn:n ≤ 8):∀ (m i:Nat) (l:List UInt8) (v:Int),m + i = n → l.length + m ≤ N0 →
    Fx.loop (fun (x:QWriter × Int × Int)=>match x with | (v1,v2,v3)=>Sh.cT (n:Int) v1 v2 v3) (⟨l⟩,v,(i:Int)) = some ⟨l ++ lows m v⟩:=by
  intro m
  induction m with
  | zero =>
    intro i l v h _
    obtain rfl:i = n:=by omega
    exact dF (by simp [Sh.cT,lows])
  | succ m ih =>
    intro i l v h hl
    have:=ih (i + 1) (l ++ [Fw.byteOf v]) (v.fdiv 256) (by omega) (by simp; omega)
    refine eB ?_ (this.trans (by simp [lows]))
    show Sh.cT (n:Int) ⟨l⟩ v i = _
    simp only [Sh.cT,cS,show i < n by omega,decide_true,cond_true,fA (l:=l) (v:=band .i64 v 255) (by omega),sA,Option.bind_some,next64 (show i < n by omega) (by omega)]
    rfl
theorem pT {l:List UInt8} {v:Int} (n:Nat) (hn:n ≤ 8) (h:l.length + n ≤ N0):Sh.fJ ⟨l⟩ v (n:Int) = some ⟨l ++ lows n v⟩:=qA n hn n 0 l v (by omega) h
theorem oB {l:List UInt8} {v:Int} (h:l.length + 2 ≤ N0):Sh.cU ⟨l⟩ v = some ⟨l ++ lows 2 v⟩:=by
  unfold Sh.cU; rw [show (2:Int) = ((2:Nat):Int) from rfl,pT 2 (by omega) h]; rfl
theorem uJ {l:List UInt8} {v:Int} (h:l.length + 4 ≤ N0):Sh.gS ⟨l⟩ v = some ⟨l ++ lows 4 v⟩:=by
  unfold Sh.gS; rw [show (4:Int) = ((4:Nat):Int) from rfl,pT 4 (by omega) h]; rfl
theorem rR {l:List UInt8} {v:Int} (h:l.length + 8 ≤ N0):Sh.fX ⟨l⟩ v = some ⟨l ++ lows 8 v⟩:=by
  unfold Sh.fX; rw [show (8:Int) = ((8:Nat):Int) from rfl,pT 8 (by omega) h]; rfl
theorem iS (v:LVal):(encVal v).length ≤ 11:=by
  unfold encVal encRest
  split <;> split <;> simp [bJ]
theorem rS {l:List UInt8} {v:LVal} (h:l.length + (encVal v).length ≤ N0):Sh.eO ⟨l⟩ v = some ⟨l ++ encVal v⟩:=by
  unfold encVal encRest at h ⊢
  unfold Sh.eO
  by_cases h5:v.kind = 5
  · simp [h5,bJ] at h
    rw [fA (by omega)]
    simp only [Option.bind_some,h5,decide_true,cond_true]
    rw [fA (by simp; omega)]
    simp only [Option.bind_some]
    rw [fA (by simp; omega)]
    simp only [Option.bind_some,aU,Sh.eI,h5]
    rw [rR (by simp; omega)]
    simp
  · by_cases h0:v.kind = 0
    · simp [h0] at h
      rw [fA (by omega)]
      simp [h0,aU,Sh.eI]
    · simp [h0,h5,bJ] at h
      rw [fA (by omega)]
      simp only [Option.bind_some,h5,decide_false,cond_false,aU,Sh.eI,h0,Bool.not_false,cond_true]
      rw [rR (by simp; omega)]
      simp
theorem sH (l:List UInt8) (m:Int) (n:Nat):∀ i,(encBytes l m i n).length ≤ n:=by
  induction n with
  | zero=>intro i; simp [encBytes]
  | succ n ih=>intro i; have:=ih (i + 1); simp only [encBytes,List.length_append]; split <;> simp <;> omega
theorem tD (s:LSlot):∀ (n i:Nat) (l:List UInt8),n + i = 8 → l.length + 8 ≤ N0 → l.length + n ≤ N0 - 8 →
    Fx.loop (fun (x:QWriter × Int)=>match x with | (v1,v2)=>Sh.cB s v1 v2) (⟨l⟩,(i:Int)) = some ⟨l ++ encBytes s.bytes.l s.mask i n⟩:=by
  intro n
  induction n with
  | zero =>
    intro i l h _ _
    obtain rfl:i = 8:=by omega
    exact dF (by simp [Sh.cB,encBytes])
  | succ n ih =>
    intro i l h hl hl2
    have hi:i < s.bytes.l.length:=by rw [s.bytes.len]; omega
    have hlt:(i:Int) < 8:=by omega
    by_cases hb:bit s.mask i = true
    · have:=ih (i + 1) (l ++ [s.bytes.l[i]]) (by omega) (by simp [N0] at hl2 ⊢; omega) (by simp; omega)
      refine eB ?_ (this.trans (by simp [encBytes,hb,List.getD,List.getElem?_eq_getElem hi]))
      have hb1:band .i64 (shr .i64 s.mask i) 1 = 1:=by simpa [bit] using hb
      show Sh.cB s ⟨l⟩ i = _
      simp only [Sh.cB,hlt,decide_true,cond_true,bT hi,Option.bind_some,Fx.must,Int.natCast_nonneg,Int.toNat_natCast,hb1,app1 (l:=l) (m:=[s.bytes.l[i]]) (by simp; omega),aU,Sh.gJ,next64 (n:=8) (show i < 8 by omega) (by omega)]
    · have:=ih (i + 1) l (by omega) hl (by omega)
      refine eB ?_ (this.trans (by simp [encBytes,hb]))
      have hb1:¬ band .i64 (shr .i64 s.mask i) 1 = 1:=by simpa [bit] using hb
      show Sh.cB s ⟨l⟩ i = _
      simp only [Sh.cB,hlt,decide_true,cond_true,bT hi,Option.bind_some,Fx.must,Int.natCast_nonneg,Int.toNat_natCast,hb1,decide_false,cond_false,aU,Sh.gJ,next64 (n:=8) (show i < 8 by omega) (by omega)]
theorem kT (s:LSlot):(encSlot s).length ≤ 11:=by
  unfold encSlot
  split
  · have:=sH s.bytes.l s.mask 8 0; simp; omega
  · exact iS _
theorem zD {l:List UInt8} {s:LSlot} (h:l.length + 32 ≤ N0):Sh.gT ⟨l⟩ s = some ⟨l ++ encSlot s⟩:=by
  unfold encSlot Sh.gT
  by_cases h0:s.ptr.kind = 0
  · simp only [h0,decide_true,Bool.not_true,cond_false]
    rw [fA (by omega)]
    simp only [Option.bind_some]
    rw [fA (by simp; omega)]
    simp only [Option.bind_some]
    refine (tD s 8 0 _ rfl (by simp; omega) (by simp [N0] at h ⊢; omega)).trans ?_
    simp; rfl
  · have:=iS s.ptr
    simp only [h0,decide_false,Bool.not_false,cond_true]
    rw [rS (by omega)]
    simp
theorem wloop {X γ:Type} (xs:List X) (enc:X → List UInt8) {body:QWriter × Int → Option ((QWriter × Int) ⊕ γ)} (out:QWriter → γ) (N:Nat) (hn:xs.length ≤ 4611686018427387904)
    (hs:∀ (i:Nat) (h:i < xs.length) (l:List UInt8),l.length + (enc xs[i]).length ≤ N → body (⟨l⟩,(i:Int)) = some (.inl (⟨l ++ enc xs[i]⟩,IntKind.i64.wrap ((i:Int) + 1))))
    (he:∀ l,body (⟨l⟩,(xs.length:Int)) = some (.inr (out ⟨l⟩))) (l:List UInt8) (hl:l.length + (xs.flatMap enc).length ≤ N):Fx.loop body (⟨l⟩,0) = some (out ⟨l ++ xs.flatMap enc⟩):=by
  have key:∀ (m i:Nat) (l:List UInt8),m + i = xs.length → l.length + ((xs.drop i).flatMap enc).length ≤ N → Fx.loop body (⟨l⟩,(i:Int)) = some (out ⟨l ++ (xs.drop i).flatMap enc⟩):=by
    intro m
    induction m with
    | zero =>
      intro i l h _
      obtain rfl:i = xs.length:=by omega
      rw [List.drop_length]
      simpa using dF (he l)
    | succ m ih =>
      intro i l h hl
      have hi:i < xs.length:=by omega
      rw [List.drop_eq_getElem_cons hi,List.flatMap_cons,List.length_append] at hl
      have:=hs i hi l (by omega)
      rw [next64 hi hn] at this
      refine eB this ((ih (i + 1) (l ++ enc xs[i]) (by omega) (by simp only [List.length_append]; omega)).trans ?_)
      rw [List.drop_eq_getElem_cons hi,List.flatMap_cons,List.append_assoc]
  exact key xs.length 0 l (by omega) hl
theorem eC {X:Type} {enc:X → List UInt8} (h:∀ x,1 ≤ (enc x).length) (xs:List X):xs.length ≤ (xs.flatMap enc).length:=by
  induction xs with
  | nil=>simp
  | cons x xs ih=>have:=h x; simp only [List.length_cons,List.flatMap_cons,List.length_append]; omega
theorem qY {X:Type} {enc:X → List UInt8} {xs:List X} {x:X} (h:x ∈ xs):(enc x).length ≤ (xs.flatMap enc).length:=by
  induction xs with
  | nil=>cases h
  | cons y xs ih =>
    simp only [List.flatMap_cons,List.length_append]
    rcases List.mem_cons.1 h with rfl | h
    · omega
    · have:=ih h; omega
theorem aA1 (m:QMark) (l:List UInt8) (h:l.length + (m.regs.flatMap encTurn).length ≤ N0):Fx.loop (fun (x:QWriter × Int)=>match x with | (v1,v2)=>Sh.cM m v1 v2) (⟨l⟩,0) = some (Sum.inl ⟨l ++ m.regs.flatMap encTurn⟩):=by
  have hx:=eC (enc:=encTurn) (fun x=>by simp [encTurn]) m.regs
  refine wloop m.regs encTurn Sum.inl N0 (by simp only [N0] at h; omega) (fun i hi l hl=>?_) (fun l=>?_) l h
  · show Sh.cM m ⟨l⟩ i = _
    generalize ht:m.regs[i] = t at hl
    simp only [encTurn,List.length_append,List.length_singleton] at hl
    simp only [Sh.cM,cS,hi,decide_true,cond_true,bT hi,ht,Option.bind_some]
    rw [fA (by omega)]
    simp only [Option.bind_some]
    rw [rS (by simp; omega)]
    simp only [Option.bind_some]
    rw [rS (by simp; omega)]
    simp [encTurn]
  · show Sh.cM m ⟨l⟩ _ = _
    simp [Sh.cM]
theorem aAy (m:QMark) (l:List UInt8) (h:l.length + (m.slots.flatMap encCell).length ≤ N0 - 64):Fx.loop (fun (x:QWriter × Int)=>match x with | (v1,v2)=>Sh.cN m v1 v2) (⟨l⟩,0) = some (Sum.inl ⟨l ++ m.slots.flatMap encCell⟩):=by
  have hx:=eC (enc:=encCell) (fun x=>by simp [encCell]) m.slots
  refine wloop m.slots encCell Sum.inl (N0 - 64) (by simp only [N0] at h; omega) (fun i hi l hl=>?_) (fun l=>?_) l h
  · show Sh.cN m ⟨l⟩ i = _
    generalize ht:m.slots[i] = t at hl
    simp only [encCell,List.length_append,List.length_singleton,N0] at hl
    simp only [Sh.cN,cS,hi,decide_true,cond_true,bT hi,ht,Option.bind_some]
    rw [fA (by simp only [N0]; omega)]
    simp only [Option.bind_some]
    rw [zD (by simp [N0]; omega)]
    simp only [Option.bind_some]
    rw [zD (by simp [N0]; omega)]
    simp [encCell]
  · show Sh.cN m ⟨l⟩ _ = _
    simp [Sh.cN]
theorem zC (m:QMark) (l:List UInt8) (h:l.length + (m.pieces.flatMap encPiece).length ≤ N0):Fx.loop (fun (x:QWriter × Int)=>match x with | (v1,v2)=>Sh.cO m v1 v2) (⟨l⟩,0) = some (Sum.inl ⟨l ++ m.pieces.flatMap encPiece⟩):=by
  have hx:=eC (enc:=encPiece) (fun x=>by simp [encPiece]) m.pieces
  refine wloop m.pieces encPiece Sum.inl N0 (by simp only [N0] at h; omega) (fun i hi l hl=>?_) (fun l=>?_) l h
  · show Sh.cO m ⟨l⟩ i = _
    generalize ht:m.pieces[i] = t at hl
    simp only [encPiece,List.length_append,List.length_singleton,bJ] at hl
    simp only [Sh.cO,cS,hi,decide_true,cond_true,bT hi,ht,Option.bind_some]
    rw [fA (by omega)]
    simp only [Option.bind_some]
    rw [oB (by simp; omega)]
    simp only [Option.bind_some]
    rw [oB (by simp [bJ]; omega)]
    simp only [Option.bind_some]
    rw [app1 (by simp [bJ]; omega)]
    simp only [Option.bind_some]
    rw [app1 (by simp [bJ]; omega)]
    simp [encPiece]
  · show Sh.cO m ⟨l⟩ _ = _
    simp [Sh.cO]
theorem aA0 (m:QMark) (l:List UInt8) (h:l.length + (m.sent.flatMap (lows 8)).length ≤ N0):Fx.loop (fun (x:QWriter × Int)=>match x with | (v1,v2)=>Sh.cP m v1 v2) (⟨l⟩,0) = some ⟨l ++ m.sent.flatMap (lows 8)⟩:=by
  have hx:=eC (enc:=lows 8) (fun x=>by simp [bJ]) m.sent
  refine wloop m.sent (lows 8) id N0 (by simp only [N0] at h; omega) (fun i hi l hl=>?_) (fun l=>?_) l h
  · show Sh.cP m ⟨l⟩ i = _
    simp only [bJ] at hl
    simp only [Sh.cP,cS,hi,decide_true,cond_true,bT hi,Option.bind_some]
    rw [rR (by omega)]
    simp
  · show Sh.cP m ⟨l⟩ _ = _
    simp [Sh.cP]
theorem zB {l:List UInt8} {m:QMark} (h:l.length + (encMark m).length ≤ N0 - 64):Sh.hU ⟨l⟩ m = some ⟨l ++ encMark m⟩:=by
  simp only [encMark,List.length_append,List.length_singleton,bJ,N0] at h
  have hd:∀ l:List UInt8,l.length + 1 ≤ N0 → Fx.seq (bif m.done then ((Sh.aH ⟨l⟩ 1).bind fun y1197=>(some (Sum.inl y1197))) else ((Sh.aH ⟨l⟩ 0).bind fun y1201=>(some (Sum.inl y1201)))) (fun v1192=>Sh.fC m v1192) = Sh.fC m ⟨l ++ [if m.done then 1 else 0]⟩:=by
    intro l hl
    cases m.done
    · simp only [cond_false]; rw [fA hl]; rfl
    · simp only [cond_true]; rw [fA hl]; rfl
  unfold Sh.hU
  rw [oB (by simp only [N0]; omega)]
  simp only [Option.bind_some]
  rw [oB (by simp [N0,bJ]; omega)]
  simp only [Option.bind_some]
  rw [hd _ (by simp [N0,bJ]; omega)]
  unfold Sh.fC
  rw [fA (by simp [N0,bJ]; omega)]
  simp only [Option.bind_some]
  refine cC (aA1 m _ (by simp only [List.length_append,bJ,List.length_singleton,N0]; omega)) ?_
  simp only [Fx.fin,Sh.iC]
  rw [fA (by simp only [List.length_append,bJ,List.length_singleton,N0]; omega)]
  simp only [Option.bind_some]
  refine cC (aAy m _ (by simp only [List.length_append,bJ,List.length_singleton,N0]; omega)) ?_
  simp only [Fx.fin,Sh.iD]
  rw [uJ (by simp only [List.length_append,bJ,List.length_singleton,N0]; omega)]
  simp only [Option.bind_some]
  refine cC (zC m _ (by simp only [List.length_append,bJ,List.length_singleton,N0]; omega)) ?_
  simp only [Fx.fin,Sh.iE]
  rw [fA (by simp only [List.length_append,bJ,List.length_singleton,N0]; omega)]
  simp only [Option.bind_some]
  refine (aA0 m _ (by simp only [List.length_append,bJ,List.length_singleton,N0]; omega)).trans ?_
  simp only [encMark,List.append_assoc]
end Go.Sp
end
section
namespace Go.Sp
open Go Go.Fw Go.Fx Go.Proofs
set_option linter.unusedVariables false
set_option linter.unusedSimpArgs false
theorem kC {v:LVal} (h:GoodV v):Sh.eB v = some true:=by
  unfold Sh.eB
  rcases h with ⟨h1,h2,h3⟩ | rfl | ⟨h1,h2,h3⟩
  · simp [h1,dS,h2,h3,aU,Sh.fV]
  · rfl
  · have h5:¬ v.kind = 5:=by omega
    have h0:¬ v.kind = 0:=by omega
    have e:v = LVal.mk v.kind 0 0 v.x:=by cases v; simp at h2 h3; subst h2 h3; rfl
    simp only [h5,h0,decide_false,cond_false,dS,h1,and_self,decide_true,Option.bind_some,cond_true,aU,Sh.fW,← e]
theorem wS (x:Int):band .i64 x 1 = 0 ∨ band .i64 x 1 = 1:=by
  have h1:(BitVec.ofInt IntKind.i64.bits x &&& BitVec.ofInt IntKind.i64.bits 1).toNat ≤ 1:=by
    show (BitVec.ofInt 64 x &&& BitVec.ofInt 64 1).toNat ≤ 1
    rw [BitVec.toNat_and]
    exact Nat.and_le_right
  unfold band
  generalize (BitVec.ofInt IntKind.i64.bits x &&& BitVec.ofInt IntKind.i64.bits 1).toNat = k at h1
  have:k = 0 ∨ k = 1:=by omega
  rcases this with rfl | rfl
  · left; rfl
  · right; rfl
theorem nQ {s:LSlot} (h:GoodS s):Sh.fU s = some true:=by
  unfold Sh.fU
  rcases h with ⟨h1,h2,h3⟩ | ⟨h1,h2,h3,h4⟩
  · have h0:s.ptr.kind = 0:=by rw [h1]; rfl
    simp only [h0,decide_true,Bool.not_true,cond_false]
    obtain ⟨g,e1,e2⟩:=dA (body:=fun (v:Int)=>Sh.cH s v) 8 (fun i (a:Unit)=>(i:Int)) (fun i a=>True) (fun g=>g = Sum.inl ())
      (fun i a hi _=>.inl ⟨(),by
        have hl:i < s.bytes.l.length:=by rw [s.bytes.len]; exact hi
        have h8:(i:Int) < 8:=by omega
        simp only [Sh.cH,h8,decide_true,cond_true,bT hl,Option.bind_some]
        by_cases hz:((s.bytes.l[i]).toNat:Int) = 0
        · simp only [hz,decide_true,Bool.not_true,cond_false,aU,Sh.dW,next64 (n:=8) hi (by omega)]
        · have hb:bit s.mask i = true:=by
            cases hb:bit s.mask i
            · have:=h3 i hi hb
              rw [List.getD_eq_getElem?_getD,List.getElem?_eq_getElem hl,Option.getD_some] at this
              rw [this] at hz; exact absurd rfl hz
            · rfl
          have hb1:band .i64 (shr .i64 s.mask i) 1 = 1:=by simpa [bit] using hb
          simp only [hz,decide_false,Bool.not_false,cond_true,Fx.must,Int.natCast_nonneg,decide_true,Int.toNat_natCast,hb1,aU,Sh.dW,next64 (n:=8) hi (by omega)]
          rfl,trivial⟩)
      (fun a _=>⟨Sum.inl (),by simp [Sh.cH],rfl⟩) 8 0 () (by omega) trivial
    subst e2
    refine cC e1 ?_
    simp only [Fx.fin,Sh.fE,h1,decide_true,cond_true,dS,Option.bind_some,aU,Sh.gR]
    have:0 ≤ s.mask ∧ s.mask ≤ 255:=by omega
    simp [this]
  · simp only [h1,decide_false,Bool.not_false,cond_true,kC h3,Option.bind_some,h2,← h4,decide_true,aU,Sh.gQ]
theorem sL {m:QMark} (h:GoodM m):Sh.hA m = some true:=by
  obtain ⟨h1,h2,h3,h4,h5,h6⟩:=h
  have k1:Sh.dV m = some true:=by
    unfold Sh.dV
    obtain ⟨g,e1,e2⟩:=dA (body:=fun (v:Int)=>Sh.cG m v) m.slots.length (fun i (a:Unit)=>(i:Int)) (fun i a=>True) (fun g=>g = Sum.inl ())
      (fun i a hi _=>.inl ⟨(),by
        have:=h2 m.slots[i] (List.getElem_mem hi)
        simp only [Sh.cG,cS,hi,decide_true,cond_true,bT hi,Option.bind_some,nQ this.1,nQ this.2,Bool.not_true,cond_false,aU,Sh.jK,next64 hi (show m.slots.length ≤ _ by omega)],trivial⟩)
      (fun a _=>⟨Sum.inl (),by simp [Sh.cG],rfl⟩) m.slots.length 0 () (by omega) trivial
    subst e2
    exact cC e1 rfl
  unfold Sh.hA
  simp only [h3,Option.bind_some,Bool.not_true,cond_false]
  obtain ⟨g,e1,e2⟩:=dA (body:=fun (v:Int)=>Sh.cF m v) m.regs.length (fun i (a:Unit)=>(i:Int)) (fun i a=>True) (fun g=>g = Sum.inl ())
    (fun i a hi _=>.inl ⟨(),by
      have:=h1 m.regs[i] (List.getElem_mem hi)
      simp only [Sh.cF,cS,hi,decide_true,cond_true,bT hi,Option.bind_some,kC this.1,kC this.2,Bool.not_true,cond_false,aU,Sh.jJ,next64 hi (show m.regs.length ≤ _ by omega)],trivial⟩)
    (fun a _=>⟨Sum.inl (),by simp [Sh.cF],rfl⟩) m.regs.length 0 () (by omega) trivial
  subst e2
  exact cC e1 k1
theorem rA {i:QInput} (h1:i.ctx.length ≤ 65535) (h2:i.tables.length ≤ 8) (h3:∀ t ∈ i.tables,t.length ≤ 65535):Sh.gI i = some true:=by
  obtain ⟨g,e1,e2⟩:=dA (body:=fun (v:Int)=>Sh.bS i v) i.tables.length (fun i (a:Unit)=>(i:Int)) (fun i a=>True) (fun g=>g = Sum.inl ())
    (fun k a hi _=>.inl ⟨(),by
      have:=h3 i.tables[k] (List.getElem_mem hi)
      have hx:¬ (65535:Int) < ((i.tables[k]).length:Int):=by omega
      simp only [Sh.bS,cS,hi,decide_true,cond_true,bT hi,Option.bind_some,hx,decide_false,aU,Sh.hD,cond_false,next64 hi (show i.tables.length ≤ _ by omega)],trivial⟩)
    (fun a _=>⟨Sum.inl (),by simp [Sh.bS],rfl⟩) i.tables.length 0 () (by omega) trivial
  subst e2
  unfold Sh.gI
  have hc:¬ (65535:Int) < (i.ctx.length:Int):=by omega
  have h8:(i.tables.length:Int) ≤ 8:=by omega
  simp only [hc,decide_false,aU,Sh.eN,Bool.not_false,cond_true,h8,decide_true]
  have e1':Fx.loop (fun v1908=>Sh.bS i v1908) 0 = some (Sum.inl ()):=e1
  rw [e1']
  rfl
theorem qC {p:QRecord} (hp:GoodR p) (hl:(encRecord p).length ≤ 16777216):Sh.gH p = some (encRecord p,0):=by
  obtain ⟨h1,h2,h3,h4,h5⟩:=hp
  have hE:encRecord p = encRecord p:=rfl
  conv at hE=>rhs; unfold encRecord
  have hl':=hl
  rw [hE] at hl'
  simp only [List.length_append,List.length_singleton,bJ,List.length_cons,List.length_nil] at hl'
  have hml:p.marks.length ≤ (p.marks.flatMap encMark).length:=eC (fun x=>by simp only [encMark,List.length_append,List.length_singleton]; omega) _
  have htl:p.in_.tables.length ≤ (p.in_.tables.flatMap encRow).length:=eC (fun x=>by simp only [encRow,List.length_append,bJ]; omega) _
  unfold Sh.gH
  simp only [rA h1 h2 h3,Option.bind_some,Bool.not_true,cond_false]
  obtain ⟨g,e1,e2⟩:=dA (body:=fun (v:Int)=>Sh.cK p v) p.marks.length (fun i (a:Unit)=>(i:Int)) (fun i a=>True) (fun g=>g = Sum.inl ())
    (fun i a hi _=>.inl ⟨(),by
      simp only [Sh.cK,cS,hi,decide_true,cond_true,bT hi,Option.bind_some,sL (h5 _ (List.getElem_mem hi)),Bool.not_true,cond_false,next64 hi (show p.marks.length ≤ _ by omega)],trivial⟩)
    (fun a _=>⟨Sum.inl (),by simp [Sh.cK],rfl⟩) p.marks.length 0 () (by omega) trivial
  subst e2
  refine cC e1 ?_
  have h4':(p.end_ = 0 ∨ (80 ≤ p.end_ ∧ p.end_ ≤ 89)) = True:=eq_true h4
  simp only [Fx.fin,Sh.dM,eV,h4',decide_true,Option.bind_some,Bool.not_true,cond_false]
  rw [oB (by simp [N0])]
  simp only [Option.bind_some]
  rw [app1 (by simp [N0,bJ]; omega)]
  simp only [Option.bind_some]
  rw [fA (by simp [N0,bJ]; omega)]
  simp only [Option.bind_some]
  refine cC (wloop p.in_.tables encRow Sum.inl N0 (by omega) (fun i hi l hl=>?_) (fun l=>?_) _ ?_) ?_
  · show Sh.cL p ⟨l⟩ i = _
    generalize ht:p.in_.tables[i] = t at hl
    simp only [encRow,List.length_append,bJ] at hl
    simp only [Sh.cL,cS,hi,decide_true,cond_true,bT hi,ht,Option.bind_some]
    rw [oB (by omega)]
    simp only [Option.bind_some]
    rw [app1 (by simp [bJ]; omega)]
    simp [encRow]
  · show Sh.cL p ⟨l⟩ _ = _
    simp [Sh.cL]
  · simp only [List.length_append,bJ,List.length_singleton,N0,List.length_cons,List.length_nil]; omega
  simp only [Fx.fin,Sh.iZ]
  rw [fA (by simp only [List.length_append,bJ,List.length_singleton,N0,List.length_cons,List.length_nil]; omega)]
  simp only [Option.bind_some]
  rw [uJ (by simp only [List.length_append,bJ,List.length_singleton,N0,List.length_cons,List.length_nil]; omega)]
  simp only [Option.bind_some]
  refine cC (wloop p.marks encMark Sum.inl 16777216 (by omega) (fun i hi l hl=>?_) (fun l=>?_) _ ?_) ?_
  · show Sh.bI p ⟨l⟩ i = _
    generalize ht:p.marks[i] = t at hl
    simp only [Sh.bI,cS,hi,decide_true,cond_true,bT hi,ht,Option.bind_some]
    rw [zB (by simp only [N0]; omega)]
    have hx:¬ (16777216:Int) < ((l ++ encMark t).length:Int):=by simp only [List.length_append]; omega
    simp only [Option.bind_some,hx,decide_false,cond_false]
  · show Sh.bI p ⟨l⟩ _ = _
    simp [Sh.bI]
  · simp only [List.length_append,bJ,List.length_singleton,N0,List.length_cons,List.length_nil]; omega
  have hx:¬ (16777216:Int) < ((encRecord p).length:Int):=by omega
  show (bif decide ((16777216:Int) < ((encRecord p).length:Int)) then _ else some (encRecord p,(0:Int))) = _
  rw [decide_eq_false hx]; rfl
end Go.Sp
end
section
namespace Go.Sp
open Go Go.Fw Go.Fx Go.Proofs
set_option linter.unusedVariables false
set_option linter.unusedSimpArgs false
def Says (o:Option Bool) (P:Prop):Prop:=∃ t,o = some t ∧ (t = true ↔ P)
theorem Says.eq {o o':Option Bool} {P:Prop} (h:Says o P) (h':Says o' P):o = o':=by
  obtain ⟨t,rfl,ht⟩:=h
  obtain ⟨t',rfl,ht'⟩:=h'
  congr 1
  cases t <;> cases t' <;> simp_all
theorem Says.true {o:Option Bool} {P:Prop} (h:Says o P) (hp:P):o = some true:=by
  obtain ⟨t,rfl,ht⟩:=h
  rw [ht.2 hp]
theorem Says.false {o:Option Bool} {P:Prop} (h:Says o P) (hp:¬ P):o = some false:=by
  obtain ⟨t,rfl,ht⟩:=h
  cases t
  · rfl
  · exact absurd (ht.1 rfl) hp
theorem Says.of {P:Prop} [Decidable P]:Says (some (decide P)) P:=⟨_,rfl,by simp⟩
theorem scan {γ:Type} {body:Int → Option (Int ⊕ γ)} {ok bad:γ} (n:Nat) (P:Nat → Prop) (hn:n ≤ 4611686018427387904)
    (h:∀ i:Nat,i < n → (P i ∧ body (i:Int) = some (.inl (IntKind.i64.wrap ((i:Int) + 1)))) ∨ (¬ P i ∧ body (i:Int) = some (.inr bad))) (h':body (n:Int) = some (.inr ok)) :
    ∃ g,Fx.loop body 0 = some g ∧ ((g = ok ∧ ∀ i,i < n → P i) ∨ (g = bad ∧ ¬ ∀ i,i < n → P i)):=by
  refine dA (body:=body) n (fun i (a:Unit)=>(i:Int)) (fun i a=>∀ j,j < i → P j) _ (fun i a hi hI=>?_) (fun a hI=>⟨ok,h',.inl ⟨rfl,hI⟩⟩) n 0 () (by omega) (fun j hj=>by omega)
  rcases h i hi with ⟨hp,hb⟩ | ⟨hp,hb⟩
  · left
    refine ⟨(),by rw [hb,next64 hi hn],fun j hj=>?_⟩
    by_cases e:j = i
    · subst e; exact hp
    · exact hI j (by omega)
  · exact .inr ⟨bad,hb,.inr ⟨rfl,fun k=>hp (k i hi)⟩⟩
theorem scan2 {γ:Type} {body:Bool × Int → Option ((Bool × Int) ⊕ γ)} {ok:Bool → γ} (n:Nat) (P:Nat → Prop) (hn:n ≤ 4611686018427387904) (a:Bool)
    (h:∀ (i:Nat) (a:Bool),i < n → ∃ t,body (a,(i:Int)) = some (.inl (t,IntKind.i64.wrap ((i:Int) + 1))) ∧ (t = true ↔ a = true ∧ P i)) (h':∀ a,body (a,(n:Int)) = some (.inr (ok a))) :
    ∃ t,Fx.loop body (a,0) = some (ok t) ∧ (t = true ↔ a = true ∧ ∀ i,i < n → P i):=by
  obtain ⟨g,h1,t,rfl,h2⟩:=dA (body:=body) n (fun i (x:Bool)=>(x,(i:Int))) (fun i x=>(x = true ↔ a = true ∧ ∀ j,j < i → P j)) (fun g=>∃ t,g = ok t ∧ (t = true ↔ a = true ∧ ∀ i,i < n → P i))
    (fun i x hi hI=>.inl (by
      obtain ⟨t,ht,hx⟩:=h i x hi
      refine ⟨t,by rw [ht,next64 hi hn],hx.trans ?_⟩
      rw [hI]
      constructor
      · rintro ⟨⟨h1,h2⟩,h3⟩
        refine ⟨h1,fun j hj=>?_⟩
        by_cases e:j = i
        · subst e; exact h3
        · exact h2 j (by omega)
      · rintro ⟨h1,h2⟩
        exact ⟨⟨h1,fun j hj=>h2 j (by omega)⟩,h2 i (by omega)⟩))
    (fun x hI=>⟨ok x,h' x,x,rfl,hI⟩) n 0 a (by omega) (by simp)
  exact ⟨t,h1,h2⟩
theorem lF {v:LVal}:v = LVal.zero ↔ v.kind = 0 ∧ v.table = 0 ∧ v.row = 0 ∧ v.x = 0:=by
  cases v; simp [LVal.zero]
theorem lW (v:LVal):Says (Sh.eB v) (GoodV v):=by
  unfold Sh.eB GoodV
  by_cases h5:v.kind = 5
  · have hz:¬ v = LVal.zero:=fun h=>by rw [h] at h5; cases h5
    by_cases h1:0 ≤ v.table ∧ v.table ≤ 7
    · by_cases h2:0 ≤ v.row ∧ v.row ≤ 63 <;> exact ⟨_,by simp only [h5,decide_true,cond_true,dS,h1,h2,and_self,and_true,true_and,Option.bind_some,aU,Sh.fV]; rfl,by simp [h5,hz,h1,h2]⟩
    · exact ⟨_,by simp only [h5,decide_true,cond_true,dS,h1,decide_false,cond_false,Option.bind_some,aU,Sh.fV]; rfl,by simp [hz,h1]; omega⟩
  · by_cases h0:v.kind = 0
    · exact ⟨_,by simp only [h0,show ¬ (0:Int) = 5 by decide,decide_false,cond_false,decide_true,cond_true]; rfl,by simp [h0]⟩
    · have hz:¬ v = LVal.zero:=fun h=>by rw [h] at h0; exact h0 rfl
      have he:v = LVal.mk v.kind 0 0 v.x ↔ v.table = 0 ∧ v.row = 0:=by cases v; simp
      by_cases h1:1 ≤ v.kind ∧ v.kind ≤ 4
      · exact ⟨_,by simp only [h5,h0,decide_false,cond_false,dS,h1,and_self,decide_true,cond_true,Option.bind_some,aU,Sh.fW]; rfl,by rw [decide_eq_true_iff,he]; simp [h5,hz,h1]⟩
      · exact ⟨_,by simp only [h5,h0,decide_false,cond_false,dS,h1,Option.bind_some,aU,Sh.fW]; rfl,by simp [h5,hz]; omega⟩
theorem lP (v:LVal):Says (Sh.gE v) (GoodV v):=by
  unfold Sh.gE GoodV
  simp only [fW,Option.bind_some]
  by_cases hk:0 ≤ v.kind ∧ v.kind ≤ 5
  · rw [decide_eq_true hk]
    simp only [Bool.not_true,cond_false]
    by_cases h5:v.kind = 5
    · have hz:¬ v = LVal.zero:=fun h=>by rw [h] at h5; cases h5
      by_cases h1:0 ≤ v.table ∧ v.table ≤ 7
      · by_cases h2:0 ≤ v.row ∧ v.row ≤ 63 <;> exact ⟨_,by simp only [h5,decide_true,cond_true,h1,h2,and_self,and_true,true_and,Option.bind_some,aU,Sh.hC]; rfl,by simp [h5,hz,h1,h2]⟩
      · exact ⟨_,by simp only [h5,decide_true,cond_true,h1,decide_false,cond_false,Option.bind_some,aU,Sh.hC]; rfl,by simp [hz,h1]; omega⟩
    · rw [decide_eq_false h5]
      simp only [cond_false]
      by_cases h1:v.table = 0
      · by_cases h2:v.row = 0
        · by_cases h0:v.kind = 0
          · exact ⟨_,by simp only [h1,h2,h0,decide_true,cond_true,Bool.not_true,cond_false,aU,Sh.eL]; rfl,by rw [lF]; simp [h0,h1,h2]⟩
          · exact ⟨_,by simp only [h1,h2,h0,decide_true,cond_true,decide_false,Bool.not_false,aU,Sh.eL]; rfl,by rw [lF]; simp [h0,h1,h2]; omega⟩
        · exact ⟨_,by simp only [h1,h2,decide_true,cond_true,decide_false,cond_false,aU,Sh.eL]; rfl,by rw [lF]; simp [h5,h2]⟩
      · exact ⟨_,by simp only [h1,decide_false,cond_false,aU,Sh.eL]; rfl,by rw [lF]; simp [h5,h1]⟩
  · rw [decide_eq_false hk]
    exact ⟨false,rfl,by rw [lF]; simp; omega⟩
theorem kP {m:Int} {i:Nat}:band .i64 (shr .i64 m i) 1 = 0 ↔ bit m i = false:=by
  unfold bit
  rcases wS (shr .i64 m i) with h | h <;> simp [h]
def ZeroAt (s:LSlot) (i:Nat):Prop:=bit s.mask i = false → s.bytes.l.getD i 0 = 0
theorem gY {x:UInt8}:((x.toNat:Int) = 0) ↔ x = 0:=by
  constructor
  · intro h; apply UInt8.toNat_inj.1; simp; omega
  · rintro rfl; rfl
theorem oK (s:LSlot):Says (Sh.fU s) (GoodS s):=by
  unfold Sh.fU GoodS
  by_cases h0:s.ptr.kind = 0
  · rw [decide_eq_true h0]
    simp only [Bool.not_true,cond_false]
    obtain ⟨g,e1,e2⟩:=scan (body:=fun (v:Int)=>Sh.cH s v) (ok:=Sum.inl ()) (bad:=Sum.inr false) 8 (ZeroAt s) (by omega) (fun i hi=>by
      have hl:i < s.bytes.l.length:=by rw [s.bytes.len]; exact hi
      have h8:(i:Int) < 8:=by omega
      have hd:s.bytes.l.getD i 0 = s.bytes.l[i]:=by simp [List.getD,List.getElem?_eq_getElem hl]
      simp only [Sh.cH,h8,decide_true,cond_true,bT hl,Option.bind_some]
      unfold ZeroAt
      rw [hd]
      by_cases hz:s.bytes.l[i] = 0
      · left
        exact ⟨fun _=>hz,by simp only [gY.2 hz,decide_true,Bool.not_true,cond_false,aU,Sh.dW]⟩
      · have hz':¬ ((s.bytes.l[i]).toNat:Int) = 0:=fun h=>hz (gY.1 h)
        by_cases hb:bit s.mask i = false
        · right
          exact ⟨fun h=>hz (h hb),by simp only [hz',decide_false,Bool.not_false,cond_true,Fx.must,Int.natCast_nonneg,decide_true,Int.toNat_natCast,kP.2 hb,aU,Sh.dW]⟩
        · left
          have hb':¬ band .i64 (shr .i64 s.mask i) 1 = 0:=fun h=>hb (kP.1 h)
          exact ⟨fun h=>absurd h hb,by simp only [hz',decide_false,Bool.not_false,cond_true,Fx.must,Int.natCast_nonneg,decide_true,Int.toNat_natCast,hb',aU,Sh.dW,cond_false]⟩)
      (by simp [Sh.cH])
    rw [show Fx.loop (fun v382=>Sh.cH s v382) 0 = some g from e1]
    rcases e2 with ⟨rfl,hz⟩ | ⟨rfl,hz⟩
    · rw [show Fx.seq (some (Sum.inl ())) (fun _=>Sh.fE s) = Sh.fE s from rfl]
      unfold Sh.fE
      by_cases hp:s.ptr = LVal.zero
      · exact ⟨_,by simp only [hp,decide_true,cond_true,dS,Option.bind_some,aU,Sh.gR]; rfl,by
          rw [decide_eq_true_iff]
          constructor
          · intro h; exact .inl ⟨hp,by omega,hz⟩
          · rintro (⟨_,h,_⟩ | ⟨h,_⟩)
            · omega
            · exact absurd h0 h⟩
      · exact ⟨_,by simp only [hp,decide_false,cond_false,aU,Sh.gR]; rfl,by simp [hp,h0]⟩
    · exact ⟨false,rfl,by
        simp only [Bool.false_eq_true,false_iff]
        rintro (⟨_,_,h⟩ | ⟨h,_⟩)
        · exact hz h
        · exact h h0⟩
  · rw [decide_eq_false h0]
    simp only [Bool.not_false,cond_true]
    have hpz:¬ s.ptr = LVal.zero:=fun h=>h0 (by rw [h]; rfl)
    by_cases hg:GoodV s.ptr
    · rw [(lW s.ptr).true hg]
      by_cases h1:s.ptr.kind = 1
      · exact ⟨false,by simp only [Option.bind_some,cond_true,h1,decide_true,Bool.not_true,cond_false,aU,Sh.gQ],by simp [hpz,h1]⟩
      · exact ⟨_,by simp only [Option.bind_some,cond_true,h1,decide_false,Bool.not_false,aU,Sh.gQ]; rfl,by simp [hpz,h1,h0,hg]⟩
    · rw [(lW s.ptr).false hg]
      exact ⟨false,rfl,by simp [hpz,hg]⟩
open Classical in
theorem oI (s:LSlot):Says (Sh.iI s) (GoodS s):=by
  unfold Sh.iI GoodS
  by_cases h0:s.ptr.kind = 0
  · rw [decide_eq_true h0]
    simp only [Bool.not_true,cond_false]
    have key:∀ c,Sh.hT s c = some (!c && decide (∀ i,i < 8 → ZeroAt s i)):=by
      intro c
      cases c
      · obtain ⟨g,e1,e2⟩:=scan (body:=fun (v:Int)=>Sh.fD s v) (ok:=Sum.inl ()) (bad:=Sum.inr false) 8 (ZeroAt s) (by omega) (fun i hi=>by
          have hl:i < s.bytes.l.length:=by rw [s.bytes.len]; exact hi
          have h8:(i:Int) < 8:=by omega
          have hd:s.bytes.l.getD i 0 = s.bytes.l[i]:=by simp [List.getD,List.getElem?_eq_getElem hl]
          simp only [Sh.fD,h8,decide_true,cond_true,Fx.must,Int.natCast_nonneg,Int.toNat_natCast]
          unfold ZeroAt
          rw [hd]
          by_cases hb:bit s.mask i = false
          · by_cases hz:s.bytes.l[i] = 0
            · left
              exact ⟨fun _=>hz,by simp only [kP.2 hb,decide_true,cond_true,bT hl,Option.bind_some,gY.2 hz,Bool.not_true,aU,Sh.gP,cond_false]⟩
            · right
              have hz':¬ ((s.bytes.l[i]).toNat:Int) = 0:=fun h=>hz (gY.1 h)
              exact ⟨fun h=>hz (h hb),by simp only [kP.2 hb,decide_true,cond_true,bT hl,Option.bind_some,hz',decide_false,Bool.not_false,aU,Sh.gP]⟩
          · left
            have hb':¬ band .i64 (shr .i64 s.mask i) 1 = 0:=fun h=>hb (kP.1 h)
            exact ⟨fun h=>absurd h hb,by simp only [hb',decide_false,cond_false,aU,Sh.gP]⟩)
          (by simp [Sh.fD])
        unfold Sh.hT
        simp only [cond_false]
        rw [show Fx.loop (fun v496=>Sh.fD s v496) 0 = some g from e1]
        rcases e2 with ⟨rfl,hz⟩ | ⟨rfl,hz⟩
        · simp [aU,Sh.jI,eq_true hz]
        · simp [jA,eq_false hz]
      · rfl
    by_cases hp:s.ptr = LVal.zero
    · have hp1:decide (s.ptr = LVal.zero) = true:=decide_eq_true hp
      refine ⟨_,by simp only [hp1,Bool.not_true,cond_false,fW,Option.bind_some,aU,key]; rfl,?_⟩
      simp only [Bool.not_not,Bool.and_eq_true,decide_eq_true_iff]
      constructor
      · rintro ⟨h1,h2⟩; exact .inl ⟨hp,by omega,h2⟩
      · rintro (⟨_,h1,h2⟩ | ⟨h,_⟩)
        · exact ⟨by omega,h2⟩
        · exact absurd h0 h
    · have hp1:decide (s.ptr = LVal.zero) = false:=decide_eq_false hp
      exact ⟨false,by simp only [hp1,Bool.not_false,cond_true,aU,key]; rfl,by simp [hp,h0]⟩
  · rw [decide_eq_false h0]
    simp only [Bool.not_false,cond_true]
    have hpz:¬ s.ptr = LVal.zero:=fun h=>h0 (by rw [h]; rfl)
    by_cases hg:GoodV s.ptr
    · rw [(lP s.ptr).true hg]
      by_cases h1:s.ptr.kind = 1
      · exact ⟨false,by simp only [Option.bind_some,cond_true,h1,decide_true,Bool.not_true,cond_false,aU,Sh.gO],by simp [hpz,h1]⟩
      · have hs:s = LSlot.mk s.ptr ⟨List.replicate 8 0,rfl⟩ 0 ↔ s.mask = 0 ∧ s.bytes = ⟨List.replicate 8 0,rfl⟩:=by
          cases s; simp; exact And.comm
        by_cases hm:s.mask = 0
        · exact ⟨_,by simp only [Option.bind_some,cond_true,h1,hm,decide_false,decide_true,Bool.not_false,aU,Sh.gO]; rfl,by rw [decide_eq_true_iff,hs]; simp [hpz,h1,h0,hg,hm]⟩
        · exact ⟨false,by simp only [Option.bind_some,cond_true,h1,hm,decide_false,cond_false,Bool.not_false,aU,Sh.gO],by rw [hs]; simp [hpz,hm]⟩
    · rw [(lP s.ptr).false hg]
      exact ⟨false,rfl,by simp [hpz,hg]⟩
end Go.Sp
end
section
namespace Go.Sp
open Go Go.Fw Go.Fx Go.Proofs
set_option linter.unusedVariables false
set_option linter.unusedSimpArgs false
theorem kB {X:Type} {l:List X} {Q:X → Prop}:(∀ i,i < l.length → ∀ h:i < l.length,Q l[i]) ↔ ∀ t ∈ l,Q t:=by
  constructor
  · intro h t ht
    obtain ⟨i,hi,rfl⟩:=List.mem_iff_getElem.1 ht
    exact h i hi hi
  · intro h i hi _; exact h _ (List.getElem_mem hi)
theorem mS {X:Type} {key:X → Int} {bad:X → Prop} {top:Int} {l:List X} (h:AllOk key bad top l l.length):(l.length:Int) ≤ top + 1 ∨ l = []:=by
  have k:∀ i (hi:i < l.length),(i:Int) ≤ key l[i]:=by
    intro i
    induction i with
    | zero=>intro hi; have:=(h 0 hi hi).lo; omega
    | succ i ih =>
      intro hi
      have h1:=ih (by omega)
      have h2:=(h (i + 1) hi hi).up (by omega)
      simp only [Nat.add_sub_cancel] at h2
      omega
  by_cases hl:l.length = 0
  · right; exact List.length_eq_zero_iff.1 hl
  · left
    have h1:=k (l.length - 1) (by omega)
    have h2:=(h (l.length - 1) (by omega) (by omega)).hi
    omega
theorem uZ {m:QMark} (h1:m.regs.length ≤ 1099511627776) (h2:m.slots.length ≤ 1099511627776) (h3:m.pieces.length ≤ 4294967296):Says (Sh.hA m) (GoodM m):=by
  unfold Sh.hA
  obtain ⟨q,hq⟩:=kZ (m:=m) h1 h2 (by omega)
  rw [hq]
  simp only [Option.bind_some]
  cases q
  · exact ⟨false,rfl,by simp [GoodM,hq]⟩
  · simp only [Bool.not_true,cond_false]
    have hP:=mE h1 h2 (by omega) hq
    have hr:=mS hP.regs
    have hs:=mS hP.slots
    have hr':m.regs.length ≤ 255:=by rcases hr with h | h; omega; simp [h]
    have hs':m.slots.length ≤ 255:=by rcases hs with h | h; omega; simp [h]
    obtain ⟨g,e1,e2⟩:=scan (body:=fun (v:Int)=>Sh.cF m v) (ok:=Sum.inl ()) (bad:=Sum.inr false) m.regs.length (fun i=>∀ h:i < m.regs.length,GoodV m.regs[i].old ∧ GoodV m.regs[i].new) (by omega) (fun i hi=>by
      simp only [Sh.cF,cS,hi,decide_true,cond_true,bT hi,Option.bind_some]
      by_cases c1:GoodV m.regs[i].old
      · rw [(lW _).true c1]
        by_cases c2:GoodV m.regs[i].new
        · rw [(lW _).true c2]; exact .inl ⟨fun _=>⟨c1,c2⟩,rfl⟩
        · rw [(lW _).false c2]; exact .inr ⟨fun h=>c2 (h trivial).2,rfl⟩
      · rw [(lW _).false c1]; exact .inr ⟨fun h=>c1 (h trivial).1,rfl⟩) (by simp [Sh.cF])
    rw [show Fx.loop (fun v1080=>Sh.cF m v1080) 0 = some g from e1]
    rcases e2 with ⟨rfl,ha⟩ | ⟨rfl,ha⟩
    · rw [kB (l:=m.regs) (Q:=fun t:LTurn=>GoodV t.old ∧ GoodV t.new)] at ha
      rw [show Fx.seq (some (Sum.inl ())) (fun _=>Sh.dV m) = Sh.dV m from rfl]
      unfold Sh.dV
      obtain ⟨g,e1,e2⟩:=scan (body:=fun (v:Int)=>Sh.cG m v) (ok:=Sum.inl ()) (bad:=Sum.inr false) m.slots.length (fun i=>∀ h:i < m.slots.length,GoodS m.slots[i].old ∧ GoodS m.slots[i].new) (by omega) (fun i hi=>by
        simp only [Sh.cG,cS,hi,decide_true,cond_true,bT hi,Option.bind_some]
        by_cases c1:GoodS m.slots[i].old
        · rw [(oK _).true c1]
          by_cases c2:GoodS m.slots[i].new
          · rw [(oK _).true c2]; exact .inl ⟨fun _=>⟨c1,c2⟩,rfl⟩
          · rw [(oK _).false c2]; exact .inr ⟨fun h=>c2 (h trivial).2,rfl⟩
        · rw [(oK _).false c1]; exact .inr ⟨fun h=>c1 (h trivial).1,rfl⟩) (by simp [Sh.cG])
      rw [show Fx.loop (fun v1446=>Sh.cG m v1446) 0 = some g from e1]
      rcases e2 with ⟨rfl,hb⟩ | ⟨rfl,hb⟩
      · rw [kB (l:=m.slots) (Q:=fun t:LCell=>GoodS t.old ∧ GoodS t.new)] at hb
        exact ⟨true,rfl,by simp only [true_iff]; exact ⟨ha,hb,hq,hr',hs',h3⟩⟩
      · rw [kB (l:=m.slots) (Q:=fun t:LCell=>GoodS t.old ∧ GoodS t.new)] at hb
        exact ⟨false,rfl,by simp only [Bool.false_eq_true,false_iff]; exact fun h=>hb h.2.1⟩
    · rw [kB (l:=m.regs) (Q:=fun t:LTurn=>GoodV t.old ∧ GoodV t.new)] at ha
      exact ⟨false,rfl,by simp only [Bool.false_eq_true,false_iff]; exact fun h=>ha h.1⟩
theorem uV {m:QMark} (h1:m.regs.length ≤ 1099511627776) (h2:m.slots.length ≤ 1099511627776) (h3:m.pieces.length ≤ 4294967296) (h4:∀ p ∈ m.pieces,p.old.length ≤ 1099511627776):Says (Sh.jO m) (GoodM m):=by
  unfold Sh.jO
  rw [rW h1 h2 (by omega) h4]
  obtain ⟨q,hq⟩:=kZ (m:=m) h1 h2 (by omega)
  rw [hq]
  simp only [Option.bind_some]
  obtain ⟨t,e1,e2⟩:=scan2 (body:=fun (v:Bool × Int)=>match v with | (v754,v755)=>Sh.dD m v754 v755) (ok:=fun a=>Sum.inl a) m.regs.length (fun i=>∀ h:i < m.regs.length,GoodV m.regs[i].old ∧ GoodV m.regs[i].new) (by omega) q (fun i a hi=>by
    show ∃ t,Sh.dD m a i = _ ∧ _
    simp only [Sh.dD,cS,hi,decide_true,cond_true,bT hi,Option.bind_some]
    cases a
    · exact ⟨false,rfl,by simp⟩
    · simp only [cond_true]
      by_cases c1:GoodV m.regs[i].old
      · rw [(lP _).true c1]
        by_cases c2:GoodV m.regs[i].new
        · rw [(lP _).true c2]; exact ⟨true,rfl,by simp [hi,c1,c2]⟩
        · rw [(lP _).false c2]; exact ⟨false,rfl,by simp [hi,c2]⟩
      · rw [(lP _).false c1]; exact ⟨false,rfl,by simp [hi,c1]⟩) (fun a=>by show Sh.dD m a _ = _; simp [Sh.dD])
  rw [kB (l:=m.regs) (Q:=fun t:LTurn=>GoodV t.old ∧ GoodV t.new)] at e2
  rw [show Fx.loop (fun (v:Bool × Int)=>match v with | (v754,v755)=>Sh.dD m v754 v755) (q,0) = some (Sum.inl t) from e1]
  rw [show Fx.seq (some (Sum.inl t)) (fun v697=>Sh.gN m v697) = Sh.gN m t from rfl]
  unfold Sh.gN
  obtain ⟨u,f1,f2⟩:=scan2 (body:=fun (v:Bool × Int)=>match v with | (v754,v755)=>Sh.dE m v754 v755) (ok:=fun a=>Sum.inl a) m.slots.length (fun i=>∀ h:i < m.slots.length,GoodS m.slots[i].old ∧ GoodS m.slots[i].new) (by omega) t (fun i a hi=>by
    show ∃ t,Sh.dE m a i = _ ∧ _
    simp only [Sh.dE,cS,hi,decide_true,cond_true,bT hi,Option.bind_some]
    cases a
    · exact ⟨false,rfl,by simp⟩
    · simp only [cond_true]
      by_cases c1:GoodS m.slots[i].old
      · rw [(oI _).true c1]
        by_cases c2:GoodS m.slots[i].new
        · rw [(oI _).true c2]; exact ⟨true,rfl,by simp [hi,c1,c2]⟩
        · rw [(oI _).false c2]; exact ⟨false,rfl,by simp [hi,c2]⟩
      · rw [(oI _).false c1]; exact ⟨false,rfl,by simp [hi,c1]⟩) (fun a=>by show Sh.dE m a _ = _; simp [Sh.dE])
  rw [kB (l:=m.slots) (Q:=fun t:LCell=>GoodS t.old ∧ GoodS t.new)] at f2
  rw [show Fx.loop (fun (v:Bool × Int)=>match v with | (v754,v755)=>Sh.dE m v754 v755) (t,0) = some (Sum.inl u) from f1]
  refine ⟨u,rfl,?_⟩
  rw [f2,e2]
  constructor
  · rintro ⟨⟨rfl,ha⟩,hb⟩
    have hP:=mE h1 h2 (by omega) hq
    have hr:=mS hP.regs
    have hs:=mS hP.slots
    exact ⟨ha,hb,hq,by rcases hr with h | h; omega; simp [h],by rcases hs with h | h; omega; simp [h],h3⟩
  · rintro ⟨ha,hb,h,_⟩
    exact ⟨⟨Option.some.inj (hq.symm.trans h),ha⟩,hb⟩
def InOk (i:QInput):Prop:=i.ctx.length ≤ 65535 ∧ i.tables.length ≤ 8 ∧ ∀ t ∈ i.tables,t.length ≤ 65535
theorem pQ (i:QInput):Says (Sh.gI i) (InOk i):=by
  unfold Sh.gI InOk
  by_cases c1:i.ctx.length ≤ 65535
  · have d1:decide ((65535:Int) < (i.ctx.length:Int)) = false:=decide_eq_false (by omega)
    by_cases c2:i.tables.length ≤ 8
    · have d2:decide ((i.tables.length:Int) ≤ 8) = true:=decide_eq_true (by omega)
      simp only [d1,aU,Sh.eN,Bool.not_false,cond_true,d2]
      obtain ⟨g,e1,e2⟩:=dA (body:=fun (v:Int)=>Sh.bS i v) i.tables.length (fun k (a:Unit)=>(k:Int)) (fun k a=>∀ j,j < k → ∀ h:j < i.tables.length,(i.tables[j]).length ≤ 65535)
        (fun g=>(g = Sum.inl () ∧ ∀ t ∈ i.tables,t.length ≤ 65535) ∨ (∃ k:Nat,g = Sum.inr (Sum.inl (k:Int))) ∧ ¬ ∀ t ∈ i.tables,t.length ≤ 65535)
        (fun k a hk hI=>by
          simp only [Sh.bS,cS,hk,decide_true,cond_true,bT hk,Option.bind_some,aU,Sh.hD]
          by_cases c3:(i.tables[k]).length ≤ 65535
          · left
            have d3:decide ((65535:Int) < ((i.tables[k]).length:Int)) = false:=decide_eq_false (by omega)
            refine ⟨(),by rw [d3,cond_false,next64 hk (by omega)],fun j hj h=>?_⟩
            by_cases e:j = k
            · subst e; exact c3
            · exact hI j (by omega) h
          · right
            have d3:decide ((65535:Int) < ((i.tables[k]).length:Int)) = true:=decide_eq_true (by omega)
            exact ⟨_,by rw [d3,cond_true],.inr ⟨⟨k,rfl⟩,fun h=>c3 (h _ (List.getElem_mem hk))⟩⟩)
        (fun a hI=>⟨Sum.inl (),by simp [Sh.bS],.inl ⟨rfl,kB.1 hI⟩⟩) i.tables.length 0 () (by omega) (fun j hj=>by omega)
      rw [show Fx.loop (fun v1908=>Sh.bS i v1908) 0 = some g from e1]
      rcases e2 with ⟨rfl,ha⟩ | ⟨⟨k,rfl⟩,ha⟩
      · exact ⟨true,rfl,by simp only [true_iff]; exact ⟨c1,c2,ha⟩⟩
      · refine ⟨false,?_,by simp only [Bool.false_eq_true,false_iff]; exact fun h=>ha h.2.2⟩
        have dk:decide (0 ≤ (k:Int)) = true:=decide_eq_true (by omega)
        simp only [jA,aU,Sh.jC,dk,Sh.jB,Sh.fT,Bool.not_true]
    · have d2:decide ((i.tables.length:Int) ≤ 8) = false:=decide_eq_false (by omega)
      exact ⟨false,by simp only [d1,aU,Sh.eN,Bool.not_false,cond_true,d2,cond_false,Sh.fT],by simp only [Bool.false_eq_true,false_iff]; exact fun h=>c2 h.2.1⟩
  · have d1:decide ((65535:Int) < (i.ctx.length:Int)) = true:=decide_eq_true (by omega)
    exact ⟨false,by simp only [d1,aU,Sh.eN,Bool.not_true,cond_false,Sh.fT],by simp only [Bool.false_eq_true,false_iff]; exact fun h=>c1 h.1⟩
theorem sV (i:QInput):Says (Sh.gY i) (InOk i):=by
  unfold Sh.gY InOk
  by_cases c1:i.ctx.length ≤ 65535
  · have d1:decide ((65535:Int) < (i.ctx.length:Int)) = false:=decide_eq_false (by omega)
    by_cases c2:i.tables.length ≤ 8
    · have d2:decide ((8:Int) < (i.tables.length:Int)) = false:=decide_eq_false (by omega)
      simp only [d1,d2,cond_false,aU,Sh.fI]
      obtain ⟨g,e1,e2⟩:=scan (body:=fun (v:Int)=>Sh.dY i v) (ok:=Sum.inl ()) (bad:=Sum.inr false) i.tables.length (fun k=>∀ h:k < i.tables.length,(i.tables[k]).length ≤ 65535) (by omega) (fun k hk=>by
        simp only [Sh.dY,cS,hk,decide_true,cond_true,bT hk,Option.bind_some]
        by_cases c3:(i.tables[k]).length ≤ 65535
        · exact .inl ⟨fun _=>c3,by rw [decide_eq_false (by omega),cond_false]⟩
        · exact .inr ⟨fun h=>c3 (h trivial),by rw [decide_eq_true (by omega),cond_true]⟩) (by simp [Sh.dY])
      rw [kB (l:=i.tables) (Q:=fun t:List UInt8=>t.length ≤ 65535)] at e2
      rw [show Fx.loop (fun v140=>Sh.dY i v140) 0 = some g from e1]
      rcases e2 with ⟨rfl,ha⟩ | ⟨rfl,ha⟩
      · exact ⟨true,rfl,by simp only [true_iff]; exact ⟨c1,c2,ha⟩⟩
      · exact ⟨false,rfl,by simp only [Bool.false_eq_true,false_iff]; exact fun h=>ha h.2.2⟩
    · have d2:decide ((8:Int) < (i.tables.length:Int)) = true:=decide_eq_true (by omega)
      exact ⟨false,by simp only [d1,d2,cond_false,aU,Sh.fI,cond_true],by simp only [Bool.false_eq_true,false_iff]; exact fun h=>c2 h.2.1⟩
  · have d1:decide ((65535:Int) < (i.ctx.length:Int)) = true:=decide_eq_true (by omega)
    exact ⟨false,by simp only [d1,cond_true,aU,Sh.fI],by simp only [Bool.false_eq_true,false_iff]; exact fun h=>c1 h.1⟩
theorem wC (x:Int):Sh.gU x = some (decide (x = 0 ∨ (80 ≤ x ∧ x ≤ 89))):=by
  unfold Sh.gU
  by_cases h:x = 0
  · simp [h,aU,Sh.fL]
  · by_cases h':80 ≤ x <;> simp [h,h',fW,aU,Sh.fL]
end Go.Sp
end
section
namespace Go.Sp
open Go Go.Fw Go.Fx Go.Proofs
set_option linter.unusedVariables false
set_option linter.unusedSimpArgs false
theorem uA (n:Nat) (hn:n ≤ 8):∀ (m i:Nat) (l:List UInt8) (v:Int),m + i = n → l.length + m ≤ N0 →
    Fx.loop (fun (x:List UInt8 × Int × Int)=>match x with | (v1,v2,v3)=>Sh.iL (n:Int) v1 v2 v3) (l,v,(i:Int)) = some (Sum.inl (l ++ lows m v)):=by
  intro m
  induction m with
  | zero =>
    intro i l v h _
    obtain rfl:i = n:=by omega
    exact dF (by simp [Sh.iL,lows])
  | succ m ih =>
    intro i l v h hl
    have:=ih (i + 1) (l ++ [Fw.byteOf v]) (v.fdiv 256) (by omega) (by simp; omega)
    refine eB ?_ (this.trans (by simp [lows]))
    show Sh.iL (n:Int) l v i = _
    simp only [Sh.iL,cS,show i < n by omega,decide_true,cond_true,app1 (l:=l) (m:=[Fw.byteOf v]) (by simp; omega),Option.bind_some,next64 (show i < n by omega) (by omega)]
    rfl
theorem yK {l:List UInt8} {v:Int} (n:Nat) (hn:n ≤ 8) (h:l.length + n ≤ N0):Sh.cW l v (n:Int) = some (l ++ lows n v):=by
  unfold Sh.cW
  exact cC (uA n hn n 0 l v (by omega) h) rfl
theorem qJ {l:List UInt8} {v:Int} (h:l.length + 2 ≤ N0):Sh.cW l v 2 = some (l ++ lows 2 v):=yK 2 (by omega) h
theorem yJ {l:List UInt8} {v:Int} (h:l.length + 4 ≤ N0):Sh.cW l v 4 = some (l ++ lows 4 v):=yK 4 (by omega) h
theorem rG {l:List UInt8} {v:Int} (h:l.length + 8 ≤ N0):Sh.cW l v 8 = some (l ++ lows 8 v):=yK 8 (by omega) h
theorem rH {l:List UInt8} {v:LVal} (h:l.length + 16 ≤ N0):Sh.iM l v = some (l ++ encVal v):=by
  unfold encVal encRest Sh.iM
  rw [app1 (by simp; omega)]
  simp only [Option.bind_some]
  by_cases h5:v.kind = 5
  · simp only [h5,decide_true,cond_true]
    rw [app1 (by simp; omega)]
    simp only [Option.bind_some,aU,Sh.hJ,h5,show ¬ (5:Int) = 0 by decide,decide_false,Bool.not_false,cond_true]
    rw [rG (by simp; omega)]
    simp [aU,Sh.hK]
  · by_cases h0:v.kind = 0
    · simp [h0,aU,Sh.hJ,Sh.hK]
    · simp only [h5,decide_false,cond_false,aU,Sh.hJ,h0,Bool.not_false,cond_true]
      rw [rG (by simp; omega)]
      simp [aU,Sh.hK]
theorem sW (s:LSlot):∀ (n i:Nat) (l:List UInt8),n + i = 8 → l.length + n ≤ N0 - 8 →
    Fx.loop (fun (x:List UInt8 × Int)=>match x with | (v1,v2)=>Sh.eW s v1 v2) (l,(i:Int)) = some (Sum.inl (l ++ encBytes s.bytes.l s.mask i n)):=by
  intro n
  induction n with
  | zero =>
    intro i l h _
    obtain rfl:i = 8:=by omega
    exact dF (by simp [Sh.eW,encBytes])
  | succ n ih =>
    intro i l h hl
    have hi:i < s.bytes.l.length:=by rw [s.bytes.len]; omega
    have hlt:(i:Int) < 8:=by omega
    by_cases hb:bit s.mask i = true
    · have:=ih (i + 1) (l ++ [s.bytes.l[i]]) (by omega) (by simp; omega)
      refine eB ?_ (this.trans (by simp [encBytes,hb,List.getD,List.getElem?_eq_getElem hi]))
      have hb1:band .i64 (shr .i64 s.mask i) 1 = 1:=by simpa [bit] using hb
      show Sh.eW s l i = _
      simp only [Sh.eW,hlt,decide_true,cond_true,bT hi,Option.bind_some,Fx.must,Int.natCast_nonneg,Int.toNat_natCast,hb1,app1 (l:=l) (m:=[s.bytes.l[i]]) (by simp; omega),aU,Sh.jP,next64 (n:=8) (show i < 8 by omega) (by omega)]
    · have:=ih (i + 1) l (by omega) (by omega)
      refine eB ?_ (this.trans (by simp [encBytes,hb]))
      have hb1:¬ band .i64 (shr .i64 s.mask i) 1 = 1:=by simpa [bit] using hb
      show Sh.eW s l i = _
      simp only [Sh.eW,hlt,decide_true,cond_true,bT hi,Option.bind_some,Fx.must,Int.natCast_nonneg,Int.toNat_natCast,hb1,decide_false,cond_false,aU,Sh.jP,next64 (n:=8) (show i < 8 by omega) (by omega)]
theorem yM {l:List UInt8} {s:LSlot} (h:l.length + 32 ≤ N0):Sh.jY l s = some (l ++ encSlot s):=by
  unfold encSlot Sh.jY
  by_cases h0:s.ptr.kind = 0
  · simp only [h0,decide_true,Bool.not_true,cond_false]
    rw [app1 (by simp; omega)]
    simp only [Option.bind_some]
    refine cC (sW s 8 0 _ rfl (by simp [N0] at h ⊢; omega)) ?_
    simp [Fx.fin,Sh.kY]
  · simp only [h0,decide_false,Bool.not_false,cond_true]
    rw [rH (by omega)]
    simp
theorem rloop {X γ:Type} (xs:List X) (enc:X → List UInt8) {body:List UInt8 × Int → Option ((List UInt8 × Int) ⊕ γ)} (out:List UInt8 → γ) (N:Nat) (hn:xs.length ≤ 4611686018427387904)
    (hs:∀ (i:Nat) (h:i < xs.length) (l:List UInt8),l.length + (enc xs[i]).length ≤ N → body (l,(i:Int)) = some (.inl (l ++ enc xs[i],IntKind.i64.wrap ((i:Int) + 1))))
    (he:∀ l,body (l,(xs.length:Int)) = some (.inr (out l))) (l:List UInt8) (hl:l.length + (xs.flatMap enc).length ≤ N):Fx.loop body (l,0) = some (out (l ++ xs.flatMap enc)):=by
  have key:∀ (m i:Nat) (l:List UInt8),m + i = xs.length → l.length + ((xs.drop i).flatMap enc).length ≤ N → Fx.loop body (l,(i:Int)) = some (out (l ++ (xs.drop i).flatMap enc)):=by
    intro m
    induction m with
    | zero =>
      intro i l h _
      obtain rfl:i = xs.length:=by omega
      rw [List.drop_length]
      simpa using dF (he l)
    | succ m ih =>
      intro i l h hl
      have hi:i < xs.length:=by omega
      rw [List.drop_eq_getElem_cons hi,List.flatMap_cons,List.length_append] at hl
      have:=hs i hi l (by omega)
      rw [next64 hi hn] at this
      refine eB this ((ih (i + 1) (l ++ enc xs[i]) (by omega) (by simp only [List.length_append]; omega)).trans ?_)
      rw [List.drop_eq_getElem_cons hi,List.flatMap_cons,List.append_assoc]
  exact key xs.length 0 l (by omega) hl
theorem aBl {l:List UInt8} {m:QMark} (h:l.length + (encMark m).length ≤ N0 - 64):Sh.lZ l m = some (l ++ encMark m):=by
  have x1:=eC (enc:=encTurn) (fun x=>by simp [encTurn]) m.regs
  have x2:=eC (enc:=encCell) (fun x=>by simp [encCell]) m.slots
  have x3:=eC (enc:=encPiece) (fun x=>by simp [encPiece]) m.pieces
  have x4:=eC (enc:=lows 8) (fun x=>by simp [bJ]) m.sent
  simp only [encMark,List.length_append,List.length_singleton,bJ,N0] at h
  unfold Sh.lZ
  rw [qJ (by simp only [N0]; omega)]
  simp only [Option.bind_some]
  rw [qJ (by simp [N0,bJ]; omega)]
  simp only [Option.bind_some]
  have hd:∀ l,Fx.seq (bif m.done then (some (Sum.inl 1)) else (some (Sum.inl 0))) (fun v1305=>Sh.iV m l v1305) = Sh.iV m l (if m.done then 1 else 0):=by
    intro l; cases m.done <;> rfl
  have hd':Fw.byteOf (if m.done then 1 else 0) = if m.done then 1 else 0:=by cases m.done <;> rfl
  rw [hd]
  unfold Sh.iV
  rw [hd',app1 (by simp [N0,bJ]; omega)]
  simp only [Option.bind_some]
  refine cC (rloop m.regs encTurn Sum.inl (N0 - 64) (by omega) (fun i hi l hl=>?_) (fun l=>?_) _ (by simp only [List.length_append,bJ,List.length_singleton,N0,List.length_cons,List.length_nil]; omega)) ?_
  · show Sh.hM m l i = _
    generalize ht:m.regs[i] = t at hl
    simp only [encTurn,List.length_append,List.length_singleton,N0] at hl
    have k1:=iS t.old
    have k2:1 ≤ (encVal t.new).length:=by simp [encVal]
    simp only [Sh.hM,cS,hi,decide_true,cond_true,bT hi,ht,Option.bind_some]
    rw [app1 (by simp [N0]; omega)]
    simp only [Option.bind_some]
    rw [rH (by simp [N0]; omega)]
    simp only [Option.bind_some]
    rw [rH (by simp [N0]; omega)]
    simp [encTurn]
  · show Sh.hM m l _ = _
    simp [Sh.hM]
  simp only [Fx.fin,Sh.lS]
  rw [app1 (by simp only [List.length_append,bJ,List.length_singleton,N0,List.length_cons,List.length_nil]; omega)]
  simp only [Option.bind_some]
  refine cC (rloop m.slots encCell Sum.inl (N0 - 64) (by omega) (fun i hi l hl=>?_) (fun l=>?_) _ (by simp only [List.length_append,bJ,List.length_singleton,N0,List.length_cons,List.length_nil]; omega)) ?_
  · show Sh.hN m l i = _
    generalize ht:m.slots[i] = t at hl
    simp only [encCell,List.length_append,List.length_singleton,N0] at hl
    have k1:=kT t.old
    simp only [Sh.hN,cS,hi,decide_true,cond_true,bT hi,ht,Option.bind_some]
    rw [app1 (by simp [N0]; omega)]
    simp only [Option.bind_some]
    rw [yM (by simp [N0]; omega)]
    simp only [Option.bind_some]
    rw [yM (by simp [N0]; omega)]
    simp [encCell]
  · show Sh.hN m l _ = _
    simp [Sh.hN]
  simp only [Fx.fin,Sh.lT]
  rw [yJ (by simp only [List.length_append,bJ,List.length_singleton,N0,List.length_cons,List.length_nil]; omega)]
  simp only [Option.bind_some]
  refine cC (rloop m.pieces encPiece Sum.inl (N0 - 64) (by omega) (fun i hi l hl=>?_) (fun l=>?_) _ (by simp only [List.length_append,bJ,List.length_singleton,N0,List.length_cons,List.length_nil]; omega)) ?_
  · show Sh.hO m l i = _
    generalize ht:m.pieces[i] = t at hl
    simp only [encPiece,List.length_append,List.length_singleton,N0,bJ] at hl
    simp only [Sh.hO,cS,hi,decide_true,cond_true,bT hi,ht,Option.bind_some]
    rw [app1 (by simp [N0]; omega)]
    simp only [Option.bind_some]
    rw [qJ (by simp [N0]; omega)]
    simp only [Option.bind_some]
    rw [qJ (by simp [N0,bJ]; omega)]
    simp only [Option.bind_some]
    rw [app1 (by simp [N0,bJ]; omega)]
    simp only [Option.bind_some]
    rw [app1 (by simp [N0,bJ]; omega)]
    simp [encPiece]
  · show Sh.hO m l _ = _
    simp [Sh.hO]
  simp only [Fx.fin,Sh.lU]
  rw [app1 (by simp only [List.length_append,bJ,List.length_singleton,N0,List.length_cons,List.length_nil]; omega)]
  simp only [Option.bind_some]
  refine cC (rloop m.sent (lows 8) Sum.inl (N0 - 64) (by omega) (fun i hi l hl=>?_) (fun l=>?_) _ (by simp only [List.length_append,bJ,List.length_singleton,N0,List.length_cons,List.length_nil]; omega)) ?_
  · show Sh.hP m l i = _
    simp only [bJ,N0] at hl
    simp only [Sh.hP,cS,hi,decide_true,cond_true,bT hi,Option.bind_some]
    rw [rG (by simp only [N0]; omega)]
    simp
  · show Sh.hP m l _ = _
    simp [Sh.hP]
  simp only [Fx.fin,Sh.lV,encMark]
  simp only [List.append_assoc,List.cons_append,List.nil_append,List.singleton_append]
structure SmallE (p:QRecord):Prop where
  all:(encRecord p).length ≤ 1099511627776
  regs:∀ m ∈ p.marks,m.regs.length ≤ 1099511627776
  pieces:∀ m ∈ p.marks,m.pieces.length ≤ 4294967295
theorem nE (p:QRecord):(encRecord p).length = 4 + 2 + p.in_.ctx.length + 1 + (p.in_.tables.flatMap encRow).length + 1 + 4 + (p.marks.flatMap encMark).length:=by
  simp only [encRecord,List.length_append,List.length_singleton,bJ,List.length_cons,List.length_nil]
def EncSays (p:QRecord) (o:List UInt8 × Int):Prop:=(o.2 ≠ 0 ∧ o.1 = []) ∨ (o = (encRecord p,0) ∧ GoodR p ∧ (encRecord p).length ≤ 16777216)
theorem aBc {p:QRecord} (hs:SmallE p):∃ o,Sh.gH p = some o ∧ Sh.kR p = some o ∧ EncSays p o:=by
  have hA:=hs.all
  have hE:=nE p
  have hml:p.marks.length ≤ (p.marks.flatMap encMark).length:=eC (fun x=>by simp only [encMark,List.length_append,List.length_singleton]; omega) _
  have htl:p.in_.tables.length ≤ (p.in_.tables.flatMap encRow).length:=eC (fun x=>by simp only [encRow,List.length_append,bJ]; omega) _
  have hm1:∀ m ∈ p.marks,(encMark m).length ≤ 1099511627776:=fun m hm=>by have:=qY (enc:=encMark) hm; omega
  have hms:∀ m ∈ p.marks,m.regs.length ≤ 1099511627776 ∧ m.slots.length ≤ 1099511627776 ∧ m.pieces.length ≤ 4294967295 ∧ ∀ q ∈ m.pieces,q.old.length ≤ 1099511627776:=fun m hm=>by
    have h1:=hm1 m hm
    have x2:=eC (enc:=encCell) (fun x=>by simp [encCell]) m.slots
    have e:(encMark m).length = (encMark m).length:=rfl
    conv at e=>rhs; unfold encMark
    simp only [List.length_append,List.length_singleton,bJ] at e
    refine ⟨hs.regs m hm,by omega,hs.pieces m hm,fun q hq=>?_⟩
    have:=qY (enc:=encPiece) hq
    have e':(encPiece q).length = 1 + 2 + 2 + q.old.length + q.new.length:=by simp only [encPiece,List.length_append,List.length_singleton,bJ]
    omega
  unfold Sh.gH Sh.kR
  by_cases c1:InOk p.in_
  · rw [(pQ _).true c1,(sV _).true c1]
    simp only [Option.bind_some,Bool.not_true,cond_false]
    obtain ⟨g,e1,e2⟩:=scan (body:=fun (v:Int)=>Sh.cK p v) (ok:=Sum.inl ()) (bad:=Sum.inr (([]:List UInt8),(230:Int))) p.marks.length (fun i=>∀ h:i < p.marks.length,GoodM p.marks[i]) (by omega) (fun i hi=>by
      obtain ⟨k1,k2,k3,k4⟩:=hms _ (List.getElem_mem hi)
      simp only [Sh.cK,cS,hi,decide_true,cond_true,bT hi,Option.bind_some]
      by_cases c:GoodM p.marks[i]
      · rw [(uZ k1 k2 (by omega)).true c]; exact .inl ⟨fun _=>c,rfl⟩
      · rw [(uZ k1 k2 (by omega)).false c]; exact .inr ⟨fun h=>c (h trivial),rfl⟩) (by simp [Sh.cK])
    obtain ⟨g',e1',e2'⟩:=scan (body:=fun (v:Int)=>Sh.gB p v) (ok:=Sum.inl ()) (bad:=Sum.inr (([]:List UInt8),(230:Int))) p.marks.length (fun i=>∀ h:i < p.marks.length,GoodM p.marks[i]) (by omega) (fun i hi=>by
      obtain ⟨k1,k2,k3,k4⟩:=hms _ (List.getElem_mem hi)
      simp only [Sh.gB,cS,hi,decide_true,cond_true,bT hi,Option.bind_some]
      by_cases c:GoodM p.marks[i]
      · rw [(uV k1 k2 (by omega) k4).true c]; exact .inl ⟨fun _=>c,rfl⟩
      · rw [(uV k1 k2 (by omega) k4).false c]; exact .inr ⟨fun h=>c (h trivial),rfl⟩) (by simp [Sh.gB])
    rw [show Fx.loop (fun v1152=>Sh.cK p v1152) 0 = some g from e1,show Fx.loop (fun v1073=>Sh.gB p v1073) 0 = some g' from e1']
    rw [kB (l:=p.marks) (Q:=fun t:QMark=>GoodM t)] at e2 e2'
    rcases e2 with ⟨rfl,ha⟩ | ⟨rfl,ha⟩ <;> rcases e2' with ⟨rfl,ha'⟩ | ⟨rfl,ha'⟩
    · rw [show Fx.seq (some (Sum.inl ())) (fun _=>Sh.dM p) = Sh.dM p from rfl,show Fx.seq (some (Sum.inl ())) (fun _=>Sh.hH p) = Sh.hH p from rfl]
      unfold Sh.dM Sh.hH
      rw [eV,wC]
      simp only [Option.bind_some]
      by_cases c2:p.end_ = 0 ∨ (80 ≤ p.end_ ∧ p.end_ ≤ 89)
      · rw [decide_eq_true c2]
        simp only [Bool.not_true,cond_false]
        have hg:GoodR p:=⟨c1.1,c1.2.1,c1.2.2,c2,ha⟩
        -- the reference
        have hr:(Sh.cW [84,82,67,49] (p.in_.ctx.length:Int) 2).bind (fun y1113=>(Fx.app 1 y1113 p.in_.ctx).bind fun x1117=>(Fx.app 1 x1117 [Fw.byteOf (p.in_.tables.length:Int)]).bind fun x1119=>Fx.seq (Fx.loop (fun (v:List UInt8 × Int)=>match v with | (v1287,v1290)=>Sh.fF p v1287 v1290) (x1119,0)) fun v1244=>Sh.iX p v1244) = Sh.hI (encRecord p):=by
          rw [qJ (by simp [N0])]
          simp only [Option.bind_some]
          rw [app1 (by simp [N0,bJ]; omega)]
          simp only [Option.bind_some]
          rw [app1 (by simp [N0,bJ]; omega)]
          simp only [Option.bind_some]
          refine cC (rloop p.in_.tables encRow Sum.inl (N0 - 64) (by omega) (fun i hi l hl=>?_) (fun l=>?_) _ (by simp only [List.length_append,bJ,List.length_singleton,N0,List.length_cons,List.length_nil]; omega)) ?_
          · show Sh.fF p l i = _
            generalize ht:p.in_.tables[i] = t at hl
            simp only [encRow,List.length_append,bJ,N0] at hl
            simp only [Sh.fF,cS,hi,decide_true,cond_true,bT hi,ht,Option.bind_some]
            rw [qJ (by simp only [N0]; omega)]
            simp only [Option.bind_some]
            rw [app1 (by simp [bJ,N0]; omega)]
            simp [encRow]
          · show Sh.fF p l _ = _
            simp [Sh.fF]
          simp only [Fx.fin,Sh.iX]
          rw [app1 (by simp only [List.length_append,bJ,List.length_singleton,N0,List.length_cons,List.length_nil]; omega)]
          simp only [Option.bind_some]
          rw [yJ (by simp only [List.length_append,bJ,List.length_singleton,N0,List.length_cons,List.length_nil]; omega)]
          simp only [Option.bind_some]
          refine cC (rloop p.marks encMark Sum.inl (N0 - 64) (by omega) (fun i hi l hl=>?_) (fun l=>?_) _ (by simp only [List.length_append,bJ,List.length_singleton,N0,List.length_cons,List.length_nil]; omega)) ?_
          · show Sh.gC p l i = _
            generalize ht:p.marks[i] = t at hl
            simp only [Sh.gC,cS,hi,decide_true,cond_true,bT hi,ht,Option.bind_some]
            rw [aBl hl]
            rfl
          · show Sh.gC p l _ = _
            simp [Sh.gC]
          rfl
        rw [hr]
        by_cases hlong:(encRecord p).length ≤ 16777216
        · refine ⟨(encRecord p,0),?_,?_,.inr ⟨rfl,hg,hlong⟩⟩
          · have:=qC hg hlong
            unfold Sh.gH at this
            rw [(pQ _).true c1] at this
            simp only [Option.bind_some,Bool.not_true,cond_false] at this
            rw [show Fx.loop (fun v1152=>Sh.cK p v1152) 0 = some (Sum.inl ()) from e1,show Fx.seq (some (Sum.inl ())) (fun _=>Sh.dM p) = Sh.dM p from rfl] at this
            unfold Sh.dM at this
            rw [eV,decide_eq_true c2] at this
            simp only [Option.bind_some,Bool.not_true,cond_false] at this
            exact this
          · have hx:decide ((16777216:Int) < ((encRecord p).length:Int)) = false:=decide_eq_false (by omega)
            simp only [Sh.hI,hx,cond_false]
        · have hx:decide ((16777216:Int) < ((encRecord p).length:Int)) = true:=decide_eq_true (by omega)
          refine ⟨([],2),?_,by simp only [Sh.hI,hx,cond_true],.inl ⟨by decide,rfl⟩⟩
          rw [oB (by simp [N0])]
          simp only [Option.bind_some]
          rw [app1 (by simp [N0,bJ]; omega)]
          simp only [Option.bind_some]
          rw [fA (by simp [N0,bJ]; omega)]
          simp only [Option.bind_some]
          refine cC (wloop p.in_.tables encRow Sum.inl N0 (by omega) (fun i hi l hl=>?_) (fun l=>?_) _ ?_) ?_
          · show Sh.cL p ⟨l⟩ i = _
            generalize ht:p.in_.tables[i] = t at hl
            simp only [encRow,List.length_append,bJ] at hl
            simp only [Sh.cL,cS,hi,decide_true,cond_true,bT hi,ht,Option.bind_some]
            rw [oB (by omega)]
            simp only [Option.bind_some]
            rw [app1 (by simp [bJ]; omega)]
            simp [encRow]
          · show Sh.cL p ⟨l⟩ _ = _
            simp [Sh.cL]
          · simp only [List.length_append,bJ,List.length_singleton,N0,List.length_cons,List.length_nil]; omega
          simp only [Fx.fin,Sh.iZ]
          rw [fA (by simp only [List.length_append,bJ,List.length_singleton,N0,List.length_cons,List.length_nil]; omega)]
          simp only [Option.bind_some]
          rw [uJ (by simp only [List.length_append,bJ,List.length_singleton,N0,List.length_cons,List.length_nil]; omega)]
          simp only [Option.bind_some]
          -- the loop ends early,or at the end: too long both ways
          have key:∀ (m i:Nat) (l:List UInt8),m + i = p.marks.length → l.length ≤ 16777216 + 1099511627776 → 16777216 < l.length + ((p.marks.drop i).flatMap encMark).length →
              ∃ l',Fx.loop (fun (v:QWriter × Int)=>match v with | (v1716,v1719)=>Sh.bI p v1716 v1719) (⟨l⟩,(i:Int)) = some (Sum.inl ⟨l'⟩) ∧ 16777216 < l'.length:=by
            intro m
            induction m with
            | zero =>
              intro i l h hl hlt
              obtain rfl:i = p.marks.length:=by omega
              rw [List.drop_length] at hlt
              exact ⟨l,dF (by simp [Sh.bI]),by simpa using hlt⟩
            | succ m ih =>
              intro i l h hl hlt
              have hi:i < p.marks.length:=by omega
              rw [List.drop_eq_getElem_cons hi,List.flatMap_cons,List.length_append] at hlt
              have hmi:=hm1 _ (List.getElem_mem hi)
              have hw:=zB (l:=l) (m:=p.marks[i]) (by simp only [N0]; omega)
              by_cases hbig:16777216 < (l ++ encMark p.marks[i]).length
              · refine ⟨l ++ encMark p.marks[i],dF ?_,hbig⟩
                have hx:decide ((16777216:Int) < ((l ++ encMark p.marks[i]).length:Int)) = true:=decide_eq_true (by omega)
                show Sh.bI p ⟨l⟩ i = _
                simp only [Sh.bI,cS,hi,decide_true,cond_true,bT hi,Option.bind_some,hw,hx]
              · obtain ⟨l',k1,k2⟩:=ih (i + 1) (l ++ encMark p.marks[i]) (by omega) (by omega) (by simp only [List.length_append]; omega)
                refine ⟨l',eB ?_ k1,k2⟩
                have hx:decide ((16777216:Int) < ((l ++ encMark p.marks[i]).length:Int)) = false:=decide_eq_false (by omega)
                show Sh.bI p ⟨l⟩ i = _
                simp only [Sh.bI,cS,hi,decide_true,cond_true,bT hi,Option.bind_some,hw,hx,cond_false,next64 hi (show p.marks.length ≤ _ by omega)]
          have key2:∀ l:List UInt8,l.length ≤ 16777216 + 1099511627776 → 16777216 < l.length + (p.marks.flatMap encMark).length → Fx.seq (Fx.loop (fun (v:QWriter × Int)=>match v with | (v1716,v1719)=>Sh.bI p v1716 v1719) (⟨l⟩,0)) (fun v1637=>Sh.jA v1637) = some ([],2):=by
            intro l hl hlt
            obtain ⟨l',k1,k2⟩:=key p.marks.length 0 l (by omega) hl (by simpa using hlt)
            refine cC k1 ?_
            have hx:decide ((16777216:Int) < (l'.length:Int)) = true:=decide_eq_true (by omega)
            simp only [Fx.fin,Sh.jA,hx,cond_true]
          refine key2 _ ?_ ?_
          · simp only [List.length_append,bJ,List.length_singleton,List.length_cons,List.length_nil]; omega
          · simp only [List.length_append,bJ,List.length_singleton,List.length_cons,List.length_nil]; omega
      · rw [decide_eq_false c2]
        exact ⟨([],233),rfl,rfl,.inl ⟨by decide,rfl⟩⟩
    · exact absurd ha ha'
    · exact absurd ha' ha
    · exact ⟨([],230),rfl,rfl,.inl ⟨by decide,rfl⟩⟩
  · rw [(pQ _).false c1,(sV _).false c1]
    exact ⟨([],3),rfl,rfl,.inl ⟨by decide,rfl⟩⟩
end Go.Sp
end
section
namespace Go.Sp
open Go Go.Fw Go.Fx Go.Proofs
set_option linter.unusedVariables false
set_option linter.unusedSimpArgs false
theorem pass {γ:Type} {body:Int → Option (Int ⊕ γ)} {g:γ} (n:Nat) (hn:n ≤ 4611686018427387904) (h:∀ i:Nat,i < n → body (i:Int) = some (.inl (IntKind.i64.wrap ((i:Int) + 1)))) (h':body (n:Int) = some (.inr g)):Fx.loop body 0 = some g:=by
  obtain ⟨g',h1,h2⟩:=dA (body:=body) n (fun i (a:Unit)=>(i:Int)) (fun i a=>True) (fun g'=>g' = g)
    (fun i a hi _=>.inl ⟨(),by rw [h i hi,next64 hi hn],trivial⟩) (fun a _=>⟨g,h',rfl⟩) n 0 () (by omega) trivial
  subst h2; exact h1
def SmallM (m:QMark):Prop:=m.regs.length ≤ 1099511627776 ∧ m.slots.length ≤ 1099511627776 ∧ m.pieces.length ≤ 1099511627776 ∧ m.sent.length ≤ 1099511627776
def SmallR (p:QRecord):Prop:=p.in_.tables.length ≤ 1099511627776 ∧ p.marks.length ≤ 1099511627776 ∧ ∀ m ∈ p.marks,SmallM m
end Go.Sp
end
section
namespace Go.Sp
open Go Go.Fw Go.Fx Go.Proofs
set_option linter.unusedVariables false
set_option linter.unusedSimpArgs false
theorem lS {X γ:Type} {body:Int → Option (Int ⊕ γ)} {ok bad:γ} (a b:List X) (hl:a.length = b.length) (hn:a.length ≤ 4611686018427387904)
    (h:∀ i (h1:i < a.length) (h2:i < b.length),(a[i] = b[i] ∧ body (i:Int) = some (.inl (IntKind.i64.wrap ((i:Int) + 1)))) ∨ (a[i] ≠ b[i] ∧ body (i:Int) = some (.inr bad))) (h':body (a.length:Int) = some (.inr ok)) :
    ∃ g,Fx.loop body 0 = some g ∧ ((g = ok ∧ a = b) ∨ (g = bad ∧ a ≠ b)):=by
  obtain ⟨g,e1,e2⟩:=scan (body:=body) (ok:=ok) (bad:=bad) a.length (fun i=>∀ (h1:i < a.length) (h2:i < b.length),a[i] = b[i]) hn (fun i hi=>by
    rcases h i hi (by omega) with ⟨k1,k2⟩ | ⟨k1,k2⟩
    · exact .inl ⟨fun _ _=>k1,k2⟩
    · exact .inr ⟨fun k=>k1 (k hi (by omega)),k2⟩) h'
  refine ⟨g,e1,?_⟩
  have hiff:(∀ i,i < a.length → ∀ (h1:i < a.length) (h2:i < b.length),a[i] = b[i]) ↔ a = b:=by
    constructor
    · intro k; exact List.ext_getElem hl fun i h1 h2=>k i h1 h1 h2
    · rintro rfl; intros; rfl
  rw [hiff] at e2
  exact e2
theorem vS {a b:List Int} (h:a.length ≤ 1099511627776):Says (Sh.fN a b) (a = b):=by
  unfold Sh.fN
  by_cases hl:a.length = b.length
  · obtain ⟨g,e1,e2⟩:=lS (body:=fun (v:Int)=>Sh.cX a b v) (ok:=Sum.inl ()) (bad:=Sum.inr false) a b hl (by omega) (fun i h1 h2=>by
      simp only [Sh.cX,cS,h1,decide_true,cond_true,bT h1,bT h2,Option.bind_some]
      by_cases c:a[i] = b[i]
      · exact .inl ⟨c,by simp [c]⟩
      · exact .inr ⟨c,by simp [c]⟩) (by simp [Sh.cX])
    rw [show Fx.loop (fun v224=>Sh.cX a b v224) 0 = some g from e1]
    rcases e2 with ⟨rfl,c⟩ | ⟨rfl,c⟩
    · exact ⟨true,by simp [hl,aU,Sh.jG],by simp [c]⟩
    · exact ⟨false,by simp [hl,jA],by simp [c]⟩
  · exact ⟨false,by simp [show ¬ (a.length:Int) = (b.length:Int) by omega],by simp; rintro rfl; exact hl rfl⟩
theorem wF {a b:List (List UInt8)} (h:a.length ≤ 1099511627776):Says (Sh.fO a b) (a = b):=by
  unfold Sh.fO
  by_cases hl:a.length = b.length
  · obtain ⟨g,e1,e2⟩:=lS (body:=fun (v:Int)=>Sh.cY a b v) (ok:=Sum.inl ()) (bad:=Sum.inr false) a b hl (by omega) (fun i h1 h2=>by
      simp only [Sh.cY,cS,h1,decide_true,cond_true,bT h1,bT h2,Option.bind_some,Sh.bA]
      by_cases c:a[i] = b[i]
      · exact .inl ⟨c,by simp [c]⟩
      · exact .inr ⟨c,by simp [c]⟩) (by simp [Sh.cY])
    rw [show Fx.loop (fun v364=>Sh.cY a b v364) 0 = some g from e1]
    rcases e2 with ⟨rfl,c⟩ | ⟨rfl,c⟩
    · exact ⟨true,by simp [hl,aU,Sh.jH],by simp [c]⟩
    · exact ⟨false,by simp [hl,jA],by simp [c]⟩
  · exact ⟨false,by simp [show ¬ (a.length:Int) = (b.length:Int) by omega],by simp; rintro rfl; exact hl rfl⟩
theorem tU {a b:QInput} (h:a.tables.length ≤ 1099511627776):Says (Sh.fY a b) (a = b):=by
  have he:a = b ↔ a.ctx = b.ctx ∧ a.tables = b.tables:=by cases a; cases b; simp
  unfold Sh.fY Sh.bA
  by_cases c:a.ctx = b.ctx
  · obtain ⟨t,e1,e2⟩:=wF (b:=b.tables) h
    rw [e1]
    exact ⟨t,by simp [c,aU,Sh.fM],by rw [he]; simp [c,e2]⟩
  · exact ⟨false,by simp [c,aU,Sh.fM],by rw [he]; simp [c]⟩
theorem qH {a b:QMark} (h:SmallM a):Says (Sh.fP a b) (a = b):=by
  obtain ⟨h1,h2,h3,h4⟩:=h
  have he:a = b ↔ a.at_ = b.at_ ∧ a.next = b.next ∧ a.done = b.done ∧ a.regs = b.regs ∧ a.slots = b.slots ∧ a.pieces = b.pieces ∧ a.sent = b.sent:=by
    cases a; cases b; simp
  have k4:a.pieces.length = b.pieces.length → Says (Sh.gL a b) (a.pieces = b.pieces):=fun hl=>by
    unfold Sh.gL
    obtain ⟨g,e1,e2⟩:=lS (body:=fun (v:Int)=>Sh.dC a b v) (ok:=Sum.inl ()) (bad:=Sum.inr false) a.pieces b.pieces hl (by omega) (fun i h1 h2=>by
      have hp:a.pieces[i] = b.pieces[i] ↔ a.pieces[i].table = b.pieces[i].table ∧ a.pieces[i].from_ = b.pieces[i].from_ ∧ a.pieces[i].old = b.pieces[i].old ∧ a.pieces[i].new = b.pieces[i].new:=by
        generalize a.pieces[i] = x; generalize b.pieces[i] = y; cases x; cases y; simp
      simp only [Sh.dC,cS,h1,decide_true,cond_true,bT h1,bT h2,Option.bind_some,Sh.bA]
      rw [ne_eq,hp]
      by_cases c1:a.pieces[i].table = b.pieces[i].table
      · by_cases c2:a.pieces[i].from_ = b.pieces[i].from_
        · by_cases c3:a.pieces[i].old = b.pieces[i].old
          · by_cases c4:a.pieces[i].new = b.pieces[i].new
            · exact .inl ⟨⟨c1,c2,c3,c4⟩,by simp [c1,c2,c3,c4,aU,Sh.cZ]⟩
            · exact .inr ⟨fun k=>c4 k.2.2.2,by simp [c1,c2,c3,c4,aU,Sh.cZ]⟩
          · exact .inr ⟨fun k=>c3 k.2.2.1,by simp [c1,c2,c3,aU,Sh.cZ]⟩
        · exact .inr ⟨fun k=>c2 k.2.1,by simp [c1,c2,aU,Sh.cZ]⟩
      · exact .inr ⟨fun k=>c1 k.1,by simp [c1,aU,Sh.cZ]⟩) (by simp [Sh.dC])
    rw [show Fx.loop (fun v=>Sh.dC a b v) 0 = some g from e1]
    rcases e2 with ⟨rfl,c⟩ | ⟨rfl,c⟩
    · exact ⟨true,rfl,by simp [c]⟩
    · exact ⟨false,rfl,by simp [c]⟩
  have k2:a.slots.length = b.slots.length → a.pieces.length = b.pieces.length → Says (Sh.gK a b) (a.slots = b.slots ∧ a.pieces = b.pieces):=fun hl hl'=>by
    unfold Sh.gK
    obtain ⟨g,e1,e2⟩:=lS (body:=fun (v:Int)=>Sh.dB a b v) (ok:=Sum.inl ()) (bad:=Sum.inr false) a.slots b.slots hl (by omega) (fun i h1 h2=>by
      simp only [Sh.dB,cS,h1,decide_true,cond_true,bT h1,bT h2,Option.bind_some]
      by_cases c:a.slots[i] = b.slots[i]
      · exact .inl ⟨c,by simp [c]⟩
      · exact .inr ⟨c,by simp [c]⟩) (by simp [Sh.dB])
    rw [show Fx.loop (fun v=>Sh.dB a b v) 0 = some g from e1]
    rcases e2 with ⟨rfl,c⟩ | ⟨rfl,c⟩
    · obtain ⟨t,f1,f2⟩:=k4 hl'
      exact ⟨t,by rw [← f1]; rfl,by simp [c,f2]⟩
    · exact ⟨false,rfl,by simp [c]⟩
  have k1:a.regs.length = b.regs.length → a.slots.length = b.slots.length → a.pieces.length = b.pieces.length → Says (Sh.bE a b false) (a.regs = b.regs ∧ a.slots = b.slots ∧ a.pieces = b.pieces):=fun hl hl' hl''=>by
    unfold Sh.bE
    rw [cond_false]
    obtain ⟨g,e1,e2⟩:=lS (body:=fun (v:Int)=>Sh.dA a b v) (ok:=Sum.inl ()) (bad:=Sum.inr false) a.regs b.regs hl (by omega) (fun i h1 h2=>by
      simp only [Sh.dA,cS,h1,decide_true,cond_true,bT h1,bT h2,Option.bind_some]
      by_cases c:a.regs[i] = b.regs[i]
      · exact .inl ⟨c,by simp [c]⟩
      · exact .inr ⟨c,by simp [c]⟩) (by simp [Sh.dA])
    rw [show Fx.loop (fun v=>Sh.dA a b v) 0 = some g from e1]
    rcases e2 with ⟨rfl,c⟩ | ⟨rfl,c⟩
    · obtain ⟨t,f1,f2⟩:=k2 hl' hl''
      exact ⟨t,by rw [← f1]; rfl,by simp [c,f2]⟩
    · exact ⟨false,rfl,by simp [c]⟩
  have no:∀ {P:Prop},¬ P → (false = true ↔ P):=fun h=>by simp [h]
  unfold Sh.fP
  by_cases c1:a.at_ = b.at_
  · by_cases c2:a.next = b.next
    · by_cases c3:a.done = b.done
      · by_cases c4:a.regs.length = b.regs.length
        · by_cases c5:a.slots.length = b.slots.length
          · by_cases c6:a.pieces.length = b.pieces.length
            · obtain ⟨t,e1,e2⟩:=vS (b:=b.sent) h4
              rw [e1]
              cases t
              · exact ⟨false,by simp [c1,c2,c3,c4,c5,c6,aU,Sh.bE],no fun h=>by rw [he] at h; simpa using e2.2 h.2.2.2.2.2.2⟩
              · obtain ⟨u,f1,f2⟩:=k1 c4 c5 c6
                exact ⟨u,by simp [c1,c2,c3,c4,c5,c6,aU,f1],by rw [f2,he]; simp [c1,c2,c3,e2.1 rfl]⟩
            · exact ⟨false,by simp [c1,c2,c3,c4,c5,show ¬ (a.pieces.length:Int) = (b.pieces.length:Int) by omega,aU,Sh.bE],no fun h=>c6 (by rw [h])⟩
          · exact ⟨false,by simp [c1,c2,c3,c4,show ¬ (a.slots.length:Int) = (b.slots.length:Int) by omega,aU,Sh.bE],no fun h=>c5 (by rw [h])⟩
        · exact ⟨false,by simp [c1,c2,c3,show ¬ (a.regs.length:Int) = (b.regs.length:Int) by omega,aU,Sh.bE],no fun h=>c4 (by rw [h])⟩
      · exact ⟨false,by simp [c1,c2,c3,aU,Sh.bE],no fun h=>c3 (by rw [h])⟩
    · exact ⟨false,by simp [c1,c2,aU,Sh.bE],no fun h=>c2 (by rw [h])⟩
  · exact ⟨false,by simp [c1,aU,Sh.bE],no fun h=>c1 (by rw [h])⟩
theorem nV {a b:QRecord} (h:SmallR a):Says (Sh.cQ a b) (a = b):=by
  obtain ⟨h1,h2,h3⟩:=h
  have he:a = b ↔ a.in_ = b.in_ ∧ a.marks = b.marks ∧ a.end_ = b.end_:=by cases a; cases b; simp
  have no:∀ {P:Prop},¬ P → (false = true ↔ P):=fun h=>by simp [h]
  have k1:a.marks.length = b.marks.length → Says (Sh.cD a b false) (a.marks = b.marks):=fun hl=>by
    unfold Sh.cD
    rw [cond_false]
    obtain ⟨g,e1,e2⟩:=lS (body:=fun (v:Int)=>Sh.cE a b v) (ok:=Sum.inl ()) (bad:=Sum.inr false) a.marks b.marks hl (by omega) (fun i q1 q2=>by
      simp only [Sh.cE,cS,q1,decide_true,cond_true,bT q1,bT q2,Option.bind_some]
      by_cases c:a.marks[i] = b.marks[i]
      · rw [(qH (h3 _ (List.getElem_mem q1))).true c]; exact .inl ⟨c,rfl⟩
      · rw [(qH (h3 _ (List.getElem_mem q1))).false c]; exact .inr ⟨c,rfl⟩) (by simp [Sh.cE])
    rw [show Fx.loop (fun v=>Sh.cE a b v) 0 = some g from e1]
    rcases e2 with ⟨rfl,c⟩ | ⟨rfl,c⟩
    · exact ⟨true,rfl,by simp [c]⟩
    · exact ⟨false,rfl,by simp [c]⟩
  unfold Sh.cQ
  by_cases c1:a.end_ = b.end_
  · by_cases c2:a.marks.length = b.marks.length
    · obtain ⟨t,e1,e2⟩:=tU (b:=b.in_) h1
      rw [e1]
      cases t
      · exact ⟨false,by simp [c1,c2,aU,Sh.cD],no fun h=>by rw [he] at h; simpa using e2.2 h.1⟩
      · obtain ⟨u,f1,f2⟩:=k1 c2
        exact ⟨u,by simp [c1,c2,aU,f1],by rw [f2,he]; simp [c1,e2.1 rfl]⟩
    · exact ⟨false,by simp [c1,show ¬ (a.marks.length:Int) = (b.marks.length:Int) by omega,aU,Sh.cD],no fun h=>c2 (by rw [h])⟩
  · exact ⟨false,by simp [c1,aU,Sh.cD],no fun h=>c1 (by rw [h])⟩
end Go.Sp
end
section
namespace Go.Sp
open Go Go.Fw Go.Fx Go.Proofs
set_option linter.unusedVariables false
set_option linter.unusedSimpArgs false
section
variable {b:List UInt8} {r r1 r2:QReader}
theorem c1 (hb:b.length ≤ 16777216) (hw:Wf b r) {v:Int} (h:Sh.aA r 1 = some (v,r1)):Sh.aC (cur r) 1 = some (v,cur r1):=(fO hb hw 1 (by omega) h).1
theorem c2 (hb:b.length ≤ 16777216) (hw:Wf b r) {v:Int} (h:Sh.aA r 2 = some (v,r1)):Sh.aC (cur r) 2 = some (v,cur r1):=(fO hb hw 2 (by omega) h).1
theorem c4 (hb:b.length ≤ 16777216) (hw:Wf b r) {v:Int} (h:Sh.aA r 4 = some (v,r1)):Sh.aC (cur r) 4 = some (v,cur r1):=(fO hb hw 4 (by omega) h).1
end
end Go.Sp
end
section
namespace Go.Sp
open Go Go.Fw Go.Fx Go.Proofs
set_option linter.unusedVariables false
set_option linter.unusedSimpArgs false
theorem sZ {p:QRecord} (hg:GoodR p) (hl:(encRecord p).length ≤ 16777216):SmallR p:=by
  obtain ⟨h1,h2,h3,h4,h5⟩:=hg
  unfold encRecord at hl
  simp only [List.length_append,List.length_singleton,bJ,List.length_cons,List.length_nil] at hl
  have hml:p.marks.length ≤ (p.marks.flatMap encMark).length:=eC (fun x=>by simp only [encMark,List.length_append,List.length_singleton]; omega) _
  refine ⟨by omega,by omega,fun m hm=>?_⟩
  obtain ⟨-,-,-,k4,k5,k6⟩:=h5 m hm
  have hm1:=qY (enc:=encMark) hm
  have hs:m.sent.length ≤ (m.sent.flatMap (lows 8)).length:=eC (fun x=>by simp [bJ]) _
  have:(m.sent.flatMap (lows 8)).length ≤ (encMark m).length:=by simp only [encMark,List.length_append]; omega
  exact ⟨by omega,by omega,by omega,by omega⟩
end Go.Sp
end
section
namespace Go.Sp
open Go Go.Fw Go.Fx Go.Proofs
set_option linter.unusedVariables false
set_option linter.unusedSimpArgs false
theorem yH (a:Int) {n:Nat} (h0:0 < n) (hn:n ≤ 16777216):∃ k:Nat,Sh.lQ a (n:Int) = some (k:Int) ∧ k < n:=by
  have h1:=Int.tmod_lt_of_pos a (show 0 < (n:Int) by omega)
  have h2:=Int.lt_tmod_of_pos a (show 0 < (n:Int) by omega)
  have e1:IntKind.i64.wrap (Int.tmod a n + n) = Int.tmod a n + n:=w64 (by omega)
  have h3:=Int.tmod_lt_of_pos (Int.tmod a n + n) (show 0 < (n:Int) by omega)
  have h4:=Int.tmod_nonneg (n:Int) (show 0 ≤ Int.tmod a n + n by omega)
  refine ⟨(Int.tmod (Int.tmod a n + n) n).toNat,?_,by omega⟩
  have hne:decide ((n:Int) ≠ 0) = true:=decide_eq_true (by omega)
  simp only [Sh.lQ,hne,Fx.must,cond_true,e1]
  congr 1; omega
theorem uN {l:List UInt8} (h:l.length ≤ 16777216):Sh.dL l = some l:=by
  unfold Sh.dL
  rw [dW (by simp; omega) (by simp; omega)]; rfl
theorem vI (p:QRecord) (at_:Int) (x:UInt8) (more:List UInt8) (hE:SmallE p) (hS:SmallR p) (hR:∀ m ∈ p.marks,RanM m) (hm:more.length ≤ 1099511627776):Sh.iJ p at_ x more = some true:=by
  obtain ⟨o,h1,h2,h3⟩:=aBc hE
  unfold Sh.iJ
  simp only [Sh.lP,Option.bind_some,Bool.not_true,cond_false,h1,h2,decide_true]
  rcases h3 with ⟨h3,h4⟩ | ⟨rfl,hg,hl⟩
  · simp [h3,h4]
  have hparts:=nE p
  have hml:p.marks.length ≤ (p.marks.flatMap encMark).length:=eC (fun x=>by simp only [encMark,List.length_append,List.length_singleton]; omega) _
  have hF:FitR p:=⟨hg,fun m hm=>⟨hR m hm,by have:=hE.pieces m hm; omega⟩,by omega⟩
  have d1:=vL hF hl
  have s1:=(nV (b:=p) hS).true rfl
  generalize hb:encRecord p = b at *
  have h12:decide ((b.length:Int) < 12) = false:=decide_eq_false (by omega)
  simp only [decide_true,Bool.not_true,cond_false,d1,Option.bind_some,s1,h12,aU]
  unfold Sh.iO
  obtain ⟨k,p1,p2⟩:=yH at_ (n:=b.length) (by omega) hl
  have e1:Fx.slc b 0 (k:Int) = some (b.take k):=by
    unfold Fx.slc
    rw [if_pos (by omega)]; simp
  obtain ⟨q,d2⟩:=zR hF (b:=b.take k) (more:=b.drop k) (by simp; omega) (by rw [List.take_append_drop,hb]) (by
    intro h
    have:=congrArg List.length h
    simp at this; omega)
  have e2:((b.take k).length:Int) = k:=by simp; omega
  rw [e2] at d2
  simp only [cond_false,p1,Option.bind_some,e1,d2,decide_true,Bool.not_true,aU]
  have j3:Sh.gV more (b,0) = some true:=by
    unfold Sh.gV
    by_cases h0:more = []
    · subst h0; simp [aU,Sh.gX]
    · have hlen:=List.length_pos_iff.2 h0
      have e3:decide ((more.length:Int) = 0) = false:=decide_eq_false (by omega)
      have e4:IntKind.i64.wrap ((b.length:Int) + (more.length:Int)) = (b.length:Int) + more.length:=w64 (by omega)
      simp only [e3,cond_false,e4,aU]
      by_cases hbig:(16777216:Int) < (b.length:Int) + more.length
      · rw [decide_eq_true hbig]; rfl
      · rw [decide_eq_false hbig]
        obtain ⟨q,d3⟩:=xA hF (ext:=more) (by rw [hb]; simp; omega) h0
        rw [hb] at d3
        simp only [Sh.gX,cond_false,uN hl,Option.bind_some,dW (bytes:=1) (l:=b) (m:=more) (by omega) (by omega),d3,decide_true,cond_true,aU,Sh.iQ]
  unfold Sh.iP
  simp only [cond_false]
  by_cases hx:x = 0
  · have:decide ((x.toNat:Int) = 0) = true:=decide_eq_true (gY.2 hx)
    simp only [this,Bool.not_true,cond_false,aU,j3]
  · have hx':decide ((x.toNat:Int) = 0) = false:=decide_eq_false fun h=>hx (gY.1 h)
    have hget:Fx.get b (k:Int) = some b[k]:=bT p2
    simp only [hx',Bool.not_false,cond_true,uN hl,Option.bind_some,hget,Int.toNat_natCast]
    generalize hd:b.set k (Fw.byteOf ((b[k].toNat:Int) + (x.toNat:Int))) = d
    obtain ⟨c,place,e,d4,d5⟩:=nD d
    simp only [d4,Option.bind_some]
    have hne:d ≠ b:=fun h=>by
      rw [← hd] at h
      have h5:=congrArg (fun l=>l[k]?) h
      simp [p2] at h5
      have h6:=oO ((b[k].toNat:Int) + (x.toNat:Int))
      rw [h5] at h6
      have h7:=b[k].toNat_lt
      have h8:=x.toNat_lt
      have h9:¬ (x.toNat:Int) = 0:=fun h=>hx (gY.1 h)
      omega
    rcases d5 with ⟨he,_⟩ | ⟨rfl,rfl,hdl,hde,hdg⟩
    · simp only [decide_eq_false he,cond_false,aU,Sh.gW,j3]
    · have hno:=(nV (b:=p) (sZ hdg (by rw [← hde]; exact hdl))).false (fun h=>hne (by rw [hde,h,hb]))
      simp only [decide_true,cond_true,hno,Option.bind_some,aU,Sh.gW,cond_false,j3]
end Go.Sp
end
