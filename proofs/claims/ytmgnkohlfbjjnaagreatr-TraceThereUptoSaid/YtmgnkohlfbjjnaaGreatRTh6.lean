/- Ground for this claim: The call of TraceThere returns true. Condition: the arguments are of bulk at most 1048576. -/
import Derived.Test.YtmgnkohlfbjjnaaGreatRTh5
section
namespace Go.Sp
open Go Go.Fw Go.Fx Go.Proofs
set_option linter.unusedVariables false
set_option linter.unusedSimpArgs false
theorem aFi (x:QState):0 < (mem x).length:=by simp [mem]
theorem tC {X Y Z:Type} {key:Y → Nat} {val:Y → X} (f:Z → Y) (l:List X) (T:List Z):setAll key val l (T.map f) = setAll (fun t=>key (f t)) (fun t=>val (f t)) l T:=by
  unfold setAll; rw [List.foldl_map]
theorem zI {val:QPiece → List UInt8} (f:QPiece → QPiece) (hk:∀ p,kp (f p) = kp p) (hf:∀ p,fp (f p) = fp p) (P:List QPiece):∀ M,putAll val M (P.map f) = putAll (fun p=>val (f p)) M P:=by
  induction P with
  | nil=>intro M; rfl
  | cons p P ih =>
    intro M
    have e:putP val M (f p) = putP (fun p=>val (f p)) M p:=by unfold putP; rw [hk,hf]
    show putAll val (putP val M (f p)) (P.map f) = _
    rw [e,ih]; rfl
theorem aFm {M:List (List UInt8)} (h:0 < M.length):pk M 0 :: M.tail = M:=by
  cases M with
  | nil=>simp at h
  | cons a M=>rfl
section
variable {x:QState} {m:QMark} (hp:PlnM m)
include hp
theorem pF:∀ p ∈ m.pieces,p.new.length = wd p:=fun p h=>(hp.piece p h).eq
theorem nP (hr:∀ p ∈ m.pieces,RoomP (mem x) p):(putM x m).map List.length = (mem x).map List.length:=lU hr (pF hp)
theorem xQ (hr:∀ p ∈ m.pieces,RoomP (mem x) p):0 < (putM x m).length:=by
  have:=congrArg List.length (nP hp hr)
  simp only [List.length_map] at this
  rw [this]; exact aFi x
theorem nI (hr:∀ p ∈ m.pieces,RoomP (mem x) p) (l:List Int) (a s:Int) (d:Bool):mem (putS x m l a s d) = putM x m:=aFm (xQ hp hr)
theorem sR (hr:∀ p ∈ m.pieces,RoomP (mem x) p) (l:List Int) (a s:Int) (d:Bool):(putS x m l a s d).ctx.length = x.ctx.length ∧ (putS x m l a s d).tables.map List.length = x.tables.map List.length:=by
  have h:=nP hp hr
  rw [← nI hp hr l a s d] at h
  simp only [mem,List.map_cons,List.cons.injEq] at h
  exact h
theorem xS (hr:∀ p ∈ m.pieces,RoomP (mem x) p) (l:List Int) (a s:Int) (d:Bool) (h:InOk ⟨x.ctx,x.tables⟩):InOk ⟨(putS x m l a s d).ctx,(putS x m l a s d).tables⟩:=by
  obtain ⟨e1,e2⟩:=sR hp hr l a s d
  obtain ⟨h1,h2,h3⟩:=h
  simp only at h1 h2 h3
  have e3:(putS x m l a s d).tables.length = x.tables.length:=by simpa using congrArg List.length e2
  refine ⟨by simp only [e1]; exact h1,by simp only [e3]; exact h2,fun t ht=>?_⟩
  have:t.length ∈ (putS x m l a s d).tables.map List.length:=List.mem_map_of_mem ht
  rw [e2] at this
  obtain ⟨u,hu,e⟩:=List.mem_map.1 this
  rw [← e]; exact h3 u hu
theorem qD (hr:∀ p ∈ m.pieces,RoomP (mem x) p) (l:List Int) (a s:Int) (d:Bool) (h:SmallS x) (hl:l.length ≤ 1099511627776):SmallS (putS x m l a s d):=by
  obtain ⟨e1,e2⟩:=sR hp hr l a s d
  have e3:(putS x m l a s d).tables.length = x.tables.length:=by simpa using congrArg List.length e2
  refine ⟨by rw [e1]; exact h.ctx,by rw [e3]; exact h.tables,fun t ht=>?_,hl⟩
  have:t.length ∈ (putS x m l a s d).tables.map List.length:=List.mem_map_of_mem ht
  rw [e2] at this
  obtain ⟨u,hu,e⟩:=List.mem_map.1 this
  rw [← e]; exact h.each u hu
theorem vS:m.regs.Pairwise (fun a b:LTurn=>a.reg.toNat ≠ b.reg.toNat):=by
  refine List.Pairwise.imp_of_mem ?_ hp.regs_pw
  intro a b ha hb h
  have:=(hp.reg a ha).1; have:=(hp.reg b hb).1
  omega
theorem tF:m.slots.Pairwise (fun a b:LCell=>a.slot.toNat ≠ b.slot.toNat):=by
  refine List.Pairwise.imp_of_mem ?_ hp.slots_pw
  intro a b ha hb h
  have:=(hp.slot a ha).1; have:=(hp.slot b hb).1
  omega
theorem xR (hs:Stand x m) (l l':List Int) (a s a' s':Int) (d d':Bool):putS (putS x m l a s d) (turn m) l' a' s' d' = ⟨x.regs,x.stack,x.ctx,x.tables,l',a',s',d'⟩:=by
  have hr:=hs.room
  have e1:setV (fun t:LTurn=>t.reg.toNat) (fun t=>t.new) (setV (fun t:LTurn=>t.reg.toNat) (fun t=>t.new) x.regs m.regs) (turn m).regs = x.regs:=by
    apply Vec.ext
    rw [kR,kR]
    show setAll _ _ _ (m.regs.map turnR) = _
    rw [tC]
    exact qY (key:=fun t:LTurn=>t.reg.toNat) (val:=fun t=>t.new) (old:=fun t=>t.old) (vS hp) hs.regs
  have e2:setV (fun t:LCell=>t.slot.toNat) (fun t=>t.new) (setV (fun t:LCell=>t.slot.toNat) (fun t=>t.new) x.stack m.slots) (turn m).slots = x.stack:=by
    apply Vec.ext
    rw [kR,kR]
    show setAll _ _ _ (m.slots.map turnC) = _
    rw [tC]
    exact qY (key:=fun t:LCell=>t.slot.toNat) (val:=fun t=>t.new) (old:=fun t=>t.old) (tF hp) hs.slots
  have e3:putM (putS x m l a s d) (turn m) = mem x:=by
    unfold putM
    rw [nI hp hr]
    show putAll _ (putM x m) (m.pieces.map turnP) = _
    rw [zI turnP (fun _=>rfl) (fun _=>rfl)]
    exact xP (val:=fun p=>p.new) (old:=fun p=>p.old) hp.apart (pF hp) (fun _ _=>rfl) hs.pieces
  unfold putS
  rw [show putM ⟨_,_,_,_,_,_,_,_⟩ (turn m) = mem x from e3]
  simp only [e1,e2]
  rfl
theorem sS (hs:Stand x m) (l:List Int) (a s:Int) (d:Bool):Stand (putS x m l a s d) (turn m):=by
  have hr:=hs.room
  refine ⟨fun t ht=>?_,fun t ht=>?_,fun p ht=>?_⟩
  · obtain ⟨u,hu,rfl⟩:=List.mem_map.1 (show t ∈ m.regs.map turnR from ht)
    have:=lZ (key:=fun t:LTurn=>t.reg.toNat) (val:=fun t=>t.new) (old:=fun t=>t.old) (vS hp) hs.regs u hu
    show (setV _ _ x.regs m.regs).l[u.reg.toNat]? = _
    rw [kR]; exact this
  · obtain ⟨u,hu,rfl⟩:=List.mem_map.1 (show t ∈ m.slots.map turnC from ht)
    have:=lZ (key:=fun t:LCell=>t.slot.toNat) (val:=fun t=>t.new) (old:=fun t=>t.old) (tF hp) hs.slots u hu
    show (setV _ _ x.stack m.slots).l[u.slot.toNat]? = _
    rw [kR]; exact this
  · obtain ⟨u,hu,rfl⟩:=List.mem_map.1 (show p ∈ m.pieces.map turnP from ht)
    have:=sQ (val:=fun p=>p.new) hp.apart (pF hp) hr u hu
    rw [nI hp hr]
    exact this
end
theorem zJ (x:QState) (m:QMark) (l:List Int) (a s:Int) (d:Bool):putS x (turn (turn m)) l a s d = putS x m l a s d:=by
  unfold putS putM
  rw [qN,oU,nB]
theorem yB {x:QState} {m:QMark}:Stand x (turn (turn m)) ↔ Stand x m:=by
  constructor
  · rintro ⟨h1,h2,h3⟩
    rw [qN] at h1; rw [oU] at h2; rw [nB] at h3
    exact ⟨h1,h2,h3⟩
  · rintro ⟨h1,h2,h3⟩
    refine ⟨?_,?_,?_⟩
    · rw [qN]; exact h1
    · rw [oU]; exact h2
    · rw [nB]; exact h3
section
variable {x:QState} {m:QMark} (hx:PlainS x) (hp:PlnM m)
include hx hp
theorem oC (c:CanA x m):PlainS (applied x m):=by
  obtain ⟨h1,h2,h3⟩:=hx
  have:=c.steps
  exact ⟨hp.next,by show 0 ≤ x.steps + 1 ∧ x.steps + 1 ≤ _; omega,xS hp c.st.room _ _ _ _ h3⟩
theorem wI (c:CanA x m):CanU (applied x m) m:=by
  obtain ⟨h1,h2,h3⟩:=hx
  refine ⟨rfl,rfl,by show x.steps + 1 ≠ 0; omega,sS hp c.st _ _ _ _,?_,?_⟩
  · show m.sent.length ≤ (x.sent ++ m.sent).length; simp
  · show (x.sent ++ m.sent).drop ((x.sent ++ m.sent).length - m.sent.length) = _
    rw [List.length_append,Nat.add_sub_cancel,List.drop_left]
theorem wC (c:CanU x m):PlainS (undone x m):=by
  obtain ⟨h1,h2,h3⟩:=hx
  have:=c.steps
  exact ⟨hp.at_,by show 0 ≤ x.steps - 1 ∧ x.steps - 1 ≤ _; omega,xS hp.turn c.st.room _ _ _ _ h3⟩
theorem zX (c:CanU x m):CanA (undone x m) m:=by
  obtain ⟨h1,h2,h3⟩:=hx
  refine ⟨rfl,rfl,by show x.steps - 1 ≠ _; omega,?_⟩
  exact yB.1 (sS hp.turn c.st _ _ _ _)
end
section
variable {x:QState} {m:QMark} (hp:PlnM m)
include hp
theorem uU (c:CanA x m):undone (applied x m) m = x:=by
  unfold undone
  have e:=xR hp c.st (x.sent ++ m.sent) ((applied x m).sent.take ((applied x m).sent.length - m.sent.length)) m.next (x.steps + 1) m.at_ ((applied x m).steps - 1) m.done false
  have e':putS (applied x m) (turn m) ((applied x m).sent.take ((applied x m).sent.length - m.sent.length)) m.at_ ((applied x m).steps - 1) false = _:=e
  rw [e']
  have e1:(applied x m).sent.take ((applied x m).sent.length - m.sent.length) = x.sent:=by
    show (x.sent ++ m.sent).take ((x.sent ++ m.sent).length - m.sent.length) = _
    rw [List.length_append,Nat.add_sub_cancel,List.take_left]
  have e2:(applied x m).steps - 1 = x.steps:=by show x.steps + 1 - 1 = _; omega
  rw [e1,e2,← c.at_,← c.done]
theorem yG (c:CanU x m):applied (undone x m) m = x:=by
  unfold applied
  rw [← zJ]
  have e:=xR hp.turn c.st (x.sent.take (x.sent.length - m.sent.length)) ((undone x m).sent ++ m.sent) m.at_ (x.steps - 1) m.next ((undone x m).steps + 1) false m.done
  have e':putS (undone x m) (turn (turn m)) ((undone x m).sent ++ m.sent) m.next ((undone x m).steps + 1) m.done = _:=e
  rw [e']
  have e1:(undone x m).sent ++ m.sent = x.sent:=by
    show x.sent.take (x.sent.length - m.sent.length) ++ m.sent = _
    conv=>lhs; rhs; rw [← c.sent]
    exact List.take_append_drop _ _
  have e2:(undone x m).steps + 1 = x.steps:=by show x.steps - 1 + 1 = _; omega
  rw [e1,e2,← c.at_,← c.done]
end
end Go.Sp
end
section
namespace Go.Sp
open Go Go.Fw Go.Fx Go.Proofs
set_option linter.unusedVariables false
set_option linter.unusedSimpArgs false
theorem uI {X Y:Type} [DecidableEq X] {key:Y → Int} {old new:Y → X} {mk:Int → X → X → Y} (hmk:∀ t,mk (key t) (old t) (new t) = t) {a b:List X} {T:List Y} (hl:a.length = b.length) (pw:T.Pairwise (fun s t=>key s < key t)) (h0:∀ t ∈ T,0 ≤ key t)
    (ho:∀ t ∈ T,a[(key t).toNat]? = some (old t)) (hn:∀ t ∈ T,b[(key t).toNat]? = some (new t)) (hne:∀ t ∈ T,old t ≠ new t) (hu:∀ j:Nat,(∀ t ∈ T,(key t).toNat ≠ j) → a[j]? = b[j]?):∀ n,n ≤ a.length → scanD (fun i x y R=>R ++ [mk (i:Int) x y]) a b [] n = T.filter (fun t=>decide (key t < (n:Int))):=by
  intro n
  induction n with
  | zero =>
    intro _
    rw [tV (key:=key) (n:=((0:Nat):Int)) (fun t ht=>h0 t ht)]; rfl
  | succ n ih =>
    intro h
    have ha:n < a.length:=by omega
    have hb:n < b.length:=by omega
    rw [fL _ ha hb,ih (by omega)]
    have es:=qA (key:=key) (pw.imp fun h=>Int.le_of_lt h) (n:Int)
    rw [show ((n + 1:Nat):Int) = (n:Int) + 1 by omega,es]
    by_cases c:∃ t ∈ T,key t = (n:Int)
    · obtain ⟨t,ht,e⟩:=c
      have e1:=aCv pw ht
      rw [e] at e1
      rw [e1]
      have o:=ho t ht
      have w:=hn t ht
      rw [e,Int.toNat_natCast] at o w
      rw [List.getElem?_eq_getElem ha] at o
      rw [List.getElem?_eq_getElem hb] at w
      have o:=Option.some.inj o
      have w:=Option.some.inj w
      rw [o,w,if_neg (hne t ht),← e,hmk]
    · have e1:T.filter (fun t=>decide (key t = (n:Int))) = []:=by
        rw [List.filter_eq_nil_iff]; intro t ht; simp only [decide_eq_true_eq]; exact fun e=>c ⟨t,ht,e⟩
      have e2:=hu n fun t ht e=>c ⟨t,ht,by have:=h0 t ht; omega⟩
      rw [List.getElem?_eq_getElem ha,List.getElem?_eq_getElem hb] at e2
      rw [e1,List.append_nil,if_pos (Option.some.inj e2)]
section
variable {x:QState} {m:QMark} (hp:PlnM m) (hs:Stand x m)
include hp hs
theorem aBu:scanD turnD x.regs.l (setV (fun t:LTurn=>t.reg.toNat) (fun t=>t.new) x.regs m.regs).l [] 11 = m.regs:=by
  have hl:x.regs.l.length = (setV (fun t:LTurn=>t.reg.toNat) (fun t=>t.new) x.regs m.regs).l.length:=by rw [x.regs.len,Vec.len]
  have:=uI (key:=fun t:LTurn=>t.reg) (old:=fun t=>t.old) (new:=fun t=>t.new) (mk:=fun i a b=>⟨i,a,b⟩) (fun _=>rfl) hl hp.regs_pw (fun t ht=>(hp.reg t ht).1) hs.regs (fun t ht=>by
    rw [kR]; exact lZ (key:=fun t:LTurn=>t.reg.toNat) (val:=fun t=>t.new) (old:=fun t=>t.old) (vS hp) hs.regs t ht) (fun t ht=>(hp.reg t ht).2.2) (fun j hj=>by
    rw [kR,lF hj]) 11 (by rw [x.regs.len]; exact Nat.le_refl _)
  refine Eq.trans this (rZ (key:=fun t:LTurn=>t.reg) fun t ht=>?_)
  have:=(hp.reg t ht).2.1
  omega
theorem zT:scanD cellD x.stack.l (setV (fun t:LCell=>t.slot.toNat) (fun t=>t.new) x.stack m.slots).l [] 32 = m.slots:=by
  have hl:x.stack.l.length = (setV (fun t:LCell=>t.slot.toNat) (fun t=>t.new) x.stack m.slots).l.length:=by rw [x.stack.len,Vec.len]
  have:=uI (key:=fun t:LCell=>t.slot) (old:=fun t=>t.old) (new:=fun t=>t.new) (mk:=fun i a b=>⟨i,a,b⟩) (fun _=>rfl) hl hp.slots_pw (fun t ht=>(hp.slot t ht).1) hs.slots (fun t ht=>by
    rw [kR]; exact lZ (key:=fun t:LCell=>t.slot.toNat) (val:=fun t=>t.new) (old:=fun t=>t.old) (tF hp) hs.slots t ht) (fun t ht=>(hp.slot t ht).2.2) (fun j hj=>by
    rw [kR,lF hj]) 32 (by rw [x.stack.len]; exact Nat.le_refl _)
  refine Eq.trans this (rZ (key:=fun t:LCell=>t.slot) fun t ht=>?_)
  have:=(hp.slot t ht).2.1
  omega
theorem aAh {t:Int} (ht : -1 ≤ t) {a b:List UInt8} (ha:(mem x)[(t + 1).toNat]? = some a) (hb:(putM x m)[(t + 1).toNat]? = some b):grow t a b a.length = m.pieces.filter (fun p=>decide (p.table = t)):=by
  have hr:=hs.room
  have hl:a.length = b.length:=by
    obtain ⟨b',h1,h2⟩:=aC5 (nP hp hr).symm ha
    cases hb.symm.trans h1
    exact h2.symm
  have hk:∀ p ∈ m.pieces,p.table = t → kp p = (t + 1).toNat:=fun p _ e=>by simp only [kp,e]
  have hk':∀ p ∈ m.pieces,kp p = (t + 1).toNat → p.table = t:=fun p hq e=>by
    have:=(hp.piece p hq).lo
    simp only [kp] at e; omega
  have:=xA (t:=t) hl (m.pieces.filter (fun p=>decide (p.table = t))) 0 [] (Nat.zero_le _) rfl (by simp) ?_ ?_ ?_
  · simpa using this
  · refine List.Pairwise.imp_of_mem ?_ (hp.pieces_pw.filter _)
    intro p q h1 h2 h3
    have e1:=(List.mem_filter.1 h1).2
    have e2:=(List.mem_filter.1 h2).2
    simp only [decide_eq_true_eq] at e1 e2
    unfold Behind at h3
    omega
  · intro p h1
    obtain ⟨hq,e1⟩:=List.mem_filter.1 h1
    simp only [decide_eq_true_eq] at e1
    have P:=hp.piece p hq
    have k:=hk p hq e1
    refine ⟨⟨e1,P.from0,P.ne,?_,P.eq,P.df,?_,?_⟩,Nat.zero_le _⟩
    · obtain ⟨b',g1,g2,g3⟩:=hs.pieces p hq
      rw [k] at g1
      cases ha.symm.trans g1
      exact g2
    · obtain ⟨b',g1,g2,g3⟩:=hs.pieces p hq
      rw [k] at g1
      cases ha.symm.trans g1
      exact g3
    · obtain ⟨b',g1,g2,g3⟩:=sQ (val:=fun p=>p.new) hp.apart (pF hp) hr p hq
      rw [k] at g1
      cases hb.symm.trans g1
      simp only [P.eq] at g3
      exact g3
  · intro j _ hj hu
    have:=nO (val:=fun p=>p.new) hr (pF hp) (k:=(t + 1).toNat) (j:=j) (fun p hq hc=>by
      obtain ⟨c1,c2,c3⟩:=hc
      exact hu p (List.mem_filter.2 ⟨hq,by simp only [decide_eq_true_eq]; exact hk' p hq c1⟩) ⟨c2,c3⟩)
    unfold bt at this
    rw [ha,show (putAll (fun p=>p.new) (mem x) m.pieces)[(t + 1).toNat]? = some b from hb] at this
    exact this.symm
theorem xO:tabs x.tables (putM x m).tail (grow (-1) x.ctx (pk (putM x m) 0) x.ctx.length) x.tables.length = m.pieces:=by
  have hr:=hs.room
  have hM:=xQ hp hr
  have hlen:(putM x m).length = x.tables.length + 1:=by
    have:=congrArg List.length (nP hp hr)
    simpa [mem] using this
  have pw:m.pieces.Pairwise (fun p q=>p.table ≤ q.table):=hp.pieces_pw.imp fun h=>by unfold Behind at h; omega
  have h0:grow (-1) x.ctx (pk (putM x m) 0) x.ctx.length = m.pieces.filter (fun p=>decide (p.table < ((0:Nat):Int))):=by
    rw [aAh hp hs (t:=-1) (by omega) (a:=x.ctx) (b:=pk (putM x m) 0) rfl (by
      show (putM x m)[0]? = _
      rw [List.getElem?_eq_getElem hM,uF (List.getElem?_eq_getElem hM)])]
    have es:=qA (key:=fun p:QPiece=>p.table) pw (-1)
    have en:m.pieces.filter (fun p=>decide (p.table < -1)) = []:=tV (key:=fun p:QPiece=>p.table) fun p hq=>(hp.piece p hq).lo
    rw [en,List.nil_append] at es
    exact es.symm
  have step:∀ k,k ≤ x.tables.length → tabs x.tables (putM x m).tail (grow (-1) x.ctx (pk (putM x m) 0) x.ctx.length) k = m.pieces.filter (fun p=>decide (p.table < (k:Int))):=by
    intro k
    induction k with
    | zero=>intro _; rw [← h0]; rfl
    | succ k ih =>
      intro hk
      have ha:k < x.tables.length:=by omega
      have hb:k < (putM x m).tail.length:=by rw [List.length_tail]; omega
      rw [rL _ ha hb,ih (by omega)]
      have e:((k:Int) + 1).toNat = k + 1:=by omega
      rw [aAh hp hs (t:=(k:Int)) (by omega) (a:=x.tables[k]) (b:=(putM x m).tail[k]) (by rw [e]; show x.tables[k]? = _; exact List.getElem?_eq_getElem ha) (by
        rw [e,← List.getElem?_tail]; exact List.getElem?_eq_getElem hb)]
      rw [show ((k + 1:Nat):Int) = (k:Int) + 1 by omega]
      exact (qA (key:=fun p:QPiece=>p.table) pw (k:Int)).symm
  rw [step _ (Nat.le_refl _)]
  refine rZ (key:=fun p:QPiece=>p.table) fun p hq=>?_
  have h1:=aC2 (hr p hq)
  have h2:=(hp.piece p hq).lo
  simp only [mem,List.length_cons,kp] at h1
  omega
end
theorem vB {x:QState} {m:QMark} (hp:PlnM m) (c:CanA x m):diffOf x (applied x m) = m:=by
  unfold diffOf
  have e1:scanD turnD x.regs.l (applied x m).regs.l [] 11 = m.regs:=aBu hp c.st
  have e2:scanD cellD x.stack.l (applied x m).stack.l [] 32 = m.slots:=zT hp c.st
  have e3:tabs x.tables (applied x m).tables (grow (-1) x.ctx (applied x m).ctx x.ctx.length) x.tables.length = m.pieces:=xO hp c.st
  have e4:(applied x m).sent.drop x.sent.length = m.sent:=List.drop_left
  rw [e1,e2,e3,e4,c.at_]
  rfl
theorem wJ {x:QState} {m:QMark} (hx:PlainS x) (hp:PlnM m) (c:CanA x m):Beh x (applied x m):=by
  obtain ⟨e1,e2⟩:=sR hp c.st.room (x.sent ++ m.sent) m.next (x.steps + 1) m.done
  have e3:(putS x m (x.sent ++ m.sent) m.next (x.steps + 1) m.done).tables.length = x.tables.length:=by simpa using congrArg List.length e2
  refine ⟨c.done,?_,e1.symm,e3.symm,?_,?_,?_,?_⟩
  · show x.steps + 1 = _; rw [w64 (by have:=hx.2.1; omega)]
  · intro i _ h k
    have g:((applied x m).tables.map List.length)[i]? = (x.tables.map List.length)[i]?:=congrArg (fun l=>l[i]?) e2
    rw [List.getElem?_map,List.getElem?_map,List.getElem?_eq_getElem h,List.getElem?_eq_getElem k] at g
    simpa using g.symm
  · show x.sent.length ≤ (x.sent ++ m.sent).length; simp
  · show (x.sent ++ m.sent).length ≤ _; simp; exact hp.sent
  · intro i _ h k
    exact (List.getElem_append_left h).symm
theorem told {x:QState} {m:QMark} (hx:PlainS x) (hs:SmallS x) (hp:PlnM m) (c:CanA x m) (hl:x.sent.length ≤ 1099511627775):Sh.fJ x (applied x m) = some (m,0):=by
  have h1:=hp.sent
  have hy:SmallS (applied x m):=qD hp c.st.room _ _ _ _ hs (by simp; omega)
  rw [(aD4 hs hy).1 hx (oC hx hp c) (wJ hx hp c),vB hp c]
theorem aBx {x:QState} {m:QMark} (hx:SmallS x) (hl:x.sent.length ≤ 1099511627775) (hm:SmallM m) (hb:∀ p ∈ m.pieces,p.old.length ≤ 1099511627776):Sh.kL x m = some true:=by
  obtain ⟨e1,c1⟩:=(aAs hx hm).same (aFo hx hm hb)
  obtain ⟨e2,c2⟩:=(aEb hx hm).same (aG5 hx hm hb)
  -- the second half
  have half2:∀ r,Sh.gF x m = some r → Sh.iD x m r = some true:=by
    intro r hr
    unfold Sh.iD
    rcases c2 with ⟨e,he,hn⟩ | ⟨he,hx1,hp,c⟩
    · cases he.symm.trans hr
      rw [decide_eq_false hn]; rfl
    · cases he.symm.trans hr
      have hp':=hp.sent
      have hsy:SmallS (undone x m):=qD hp.turn c.st.room _ _ _ _ hx (by simp; omega)
      have hpy:=wC hx1 hp c
      have hca:=zX hx1 hp c
      have ha:=(aAs hsy hm).ok hpy hp hca
      have hd:=told hpy hsy hp hca (by show (x.sent.take _).length ≤ _; simp; omega)
      rw [yG hp c] at ha hd
      simp only [decide_true,cond_true,ha,hd,Option.bind_some,Bool.not_true,cond_false,iN hx,gU hm,aZ,Sh.kZ,Sh.kY]
  have half1:∀ q r,Sh.gD x m = some q → Sh.gF x m = some r → Sh.iC x m q r false = some true:=by
    intro q r hq hr
    have h2:=half2 r hr
    unfold Sh.iC
    rcases c1 with ⟨e,he,hn⟩ | ⟨he,hx1,hp,c⟩
    · cases he.symm.trans hq
      rw [decide_eq_false hn]; exact h2
    · cases he.symm.trans hq
      have hp':=hp.sent
      have hsy:SmallS (applied x m):=qD hp c.st.room _ _ _ _ hx (by simp; omega)
      have hpy:=oC hx1 hp c
      have hcu:=wI hx1 hp c
      have hu:=(aEb hsy hm).ok hpy hp hcu
      have hd:=told hx1 hx hp c hl
      rw [uU hp c] at hu
      simp only [decide_true,cond_true,hu,hd,Option.bind_some,Bool.not_true,cond_false,iN hx,gU hm,aZ,Sh.kX]
      exact h2
  have g1:∃ q,Sh.gD x m = some q:=by rcases c1 with ⟨e,he,_⟩ | ⟨he,_⟩ <;> exact ⟨_,he⟩
  have g2:∃ r,Sh.gF x m = some r:=by rcases c2 with ⟨e,he,_⟩ | ⟨he,_⟩ <;> exact ⟨_,he⟩
  obtain ⟨q,hq⟩:=g1
  obtain ⟨r,hr⟩:=g2
  have h1:=half1 q r hq hr
  unfold Sh.kL
  rw [← e1,← e2,hq,hr]
  simp only [Sh.iH,Option.bind_some,Bool.not_true,cond_false,decide_true,aZ]
  exact h1
end Go.Sp
end
