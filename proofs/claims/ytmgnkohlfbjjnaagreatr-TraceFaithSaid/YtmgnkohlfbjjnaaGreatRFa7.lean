/- Ground for the claim TraceFaith. -/
import Derived.ScopeJumps
import Derived.Test.YtmgnkohlfbjjnaaGreatRFa6
set_option linter.unusedVariables false
set_option linter.unusedSimpArgs false
open Sum
section
namespace Go.Fx
open Go Go.Fw
section
variable {P:Program}{F:Fence}{n:Nat}{b:Frame}{a:Act}{k:List Item}{cs:List Go.Frame}{w:World}{Q:Exit→Act→World→Prop}
theorem zG{c:Code}:step P (lone (b.atR a (.code (.scope c)::k)) cs w) = .next (lone (b.atR a (.code c :: .inScope c::k)) cs w) :=
 step_lone_go (by simp[stepG,stepG.exec,Frame.atR])
theorem VF{c:Code}:step P (lone (b.atR a (.inScope c::k)) cs w) = .next (lone (b.atR a k) cs w) :=
 step_lone_go (by simp[stepG,stepG.exec,Frame.atR])
theorem VU{I:Machine→Prop}{m:Machine}{c:Code}{e:Exit}(h:ArrivesIn I P m b (.inScope c::k) cs e a w)(h1:e ≠ .normal)(h2:∀ l,e ≠ .goto l):ArrivesIn I P m b k cs e a w:=by
 cases e with
 | normal=>exact absurd rfl h1
 | exit id =>
  have hx:exitTo id (.inScope c::k)=exitTo id k:=by simp[exitTo]
  exact⟨fun k' hk=>h.1 k' (by rw[hx];exact hk),fun hr hk=>h.2 hr (by rw[hx];exact hk)⟩
 | goto l=>exact absurd rfl (h2 l)
 | ret=>exact h
 | panic ch=>exact h
 | outgrown=>exact h
theorem Wq{c rest:Code}(l:Nat)(J:Nat→Act→World→Prop)(hf:findLabel c l=some rest)
  (first:c.wpIn F n P (Exit.jump l (fun a w=>∃ m,J m a w) Q) a w)
  (pass:∀ m a w,J m a w→rest.wpIn F n P (Exit.jump l (fun a' w'=>∃ m',m' < m∧J m' a' w') Q) a w):(Code.scope c).wpIn F n P Q a w:=by
 intro b k cs hro hb hr
 have hg:gotoIn l (.inScope c::k)=some (.code rest :: .inScope c::k):=by simp[gotoIn,hf]
 have h0:(lone (b.atR a (.code (.scope c)::k)) cs w).fenced P F:=fenced_calm hb hr rfl
 have fin:∀ (m₀:Machine) (e:Exit) (a₁:Act) (w₁:World) (J':Act→World→Prop),Exit.jump l J' Q e a₁ w₁→(∀ l',e ≠ .goto l')→ArrivesIn (Machine.fenced P F) P m₀ b (.inScope c::k) cs e a₁ w₁→Q e a₁ w₁∧ArrivesIn (Machine.fenced P F) P m₀ b k cs e a₁ w₁:=by
  intro m₀ e a₁ w₁ J' hq hl pn
  cases e with
  | normal=>exact⟨hq,StepsIn.trans pn (.one (fenced_calm hb hr rfl) VF)⟩
  | goto l'=>exact absurd rfl (hl l')
  | exit id=>exact⟨hq,VU pn (by simp) (by simp)⟩
  | ret=>exact⟨hq,pn⟩
  | panic ch=>exact⟨hq,pn⟩
  | outgrown=>exact⟨hq,pn⟩
 have key:∀ m a w,J m a w → ∃ e a' w',Q e a' w' ∧ ArrivesIn (Machine.fenced P F) P (lone (b.atR a (.code rest :: .inScope c::k)) cs w) b k cs e a' w':=by
  intro m
  induction m using Nat.strongRecOn with
  | _ m ih =>
   intro a w hJ
   obtain⟨e,a₁,w₁,hq,pn⟩:=pass m a w hJ b (.inScope c::k) cs hro hb hr
   by_cases he:∃ l',e = .goto l'
   ·obtain⟨l',rfl⟩:=he
    obtain⟨rfl,m',hlt,Oz⟩:=hq
    obtain⟨e₂,a₂,w₂,zo,rK⟩:=ih m' hlt a₁ w₁ Oz
    exact⟨e₂,a₂,w₂,zo,.of_steps (pn.1 _ hg) rK⟩
   ·obtain⟨h1,h2⟩:=fin _ e a₁ w₁ _ hq (fun l' e'=>he ⟨l',e'⟩) pn
    exact⟨e,a₁,w₁,h1,h2⟩
 obtain⟨e,a₁,w₁,hq,pn⟩:=first b (.inScope c::k) cs hro hb hr
 by_cases he:∃ l',e = .goto l'
 ·obtain⟨l',rfl⟩:=he
  obtain⟨rfl,m',Oz⟩:=hq
  obtain⟨e₂,a₂,w₂,zo,rK⟩:=key m' a₁ w₁ Oz
  exact⟨e₂,a₂,w₂,zo,.of_steps (.head h0 zG (pn.1 _ hg)) rK⟩
 ·obtain⟨h1,h2⟩:=fin _ e a₁ w₁ _ hq (fun l' e'=>he ⟨l',e'⟩) pn
  exact⟨e,a₁,w₁,h1,.of_steps (.one h0 zG) h2⟩
end
section
variable {P:Program}{rr:Option Nat}{n l:Nat}{F:List (Nat×Value)}{a:Act}{dd:List Deferred}{w:World}{L:List dw}{Q:Exit→Act→World→Prop}{σ γ:Type}
theorem Zs(h:Q (.goto l) a w):Wp rr P (.goto l) Q a w:=wpIn_goto h
theorem Zx{J:Act→World→Prop}(h:J a w):Exit.jump l J Q (.goto l) a w:=⟨rfl,h⟩
theorem Xp{pre rest:Code}{body:σ→Option (σ⊕γ)}{s0:σ}{o:γ}(hF:Fr n F a dd)(hM:au w L)(hP:loop body s0=some o)(hf:findLabel (.seq pre (.seq (.label l) rest)) l=some (.seq .skip rest))(I:List (Nat×Value)→σ→Act→World→Prop)
  (h0:Fr n F a dd→au w L→Wp rr P pre (Exit.then (fun a w=>I F s0 a w) (Exit.noGoto Q)) a w)
  (h1:∀ s a w o',body s=some o' → (∀ g,o' = .inr g→g=o)→I F s a w→Wp rr P rest (Exit.jump l (fun a w=>∃ s',o' = .inl s' ∧ I F s' a w) Q) a w):Wp rr P (.scope (.seq pre (.seq (.label l) rest))) Q a w:=by
 obtain⟨m0,hm0⟩:=nU.1 hP
 have pass:∀ m s a w,kn body m s=some o→I F s a w→Wp rr P rest (Exit.jump l (fun a' w'=>∃ m',m' < m ∧ ∃ s',kn body m' s' = some o∧I F s' a' w') Q) a w:=by
  intro m s a w hs hI
  cases m with
  | zero=>cases hs
  | succ m =>
   cases hb:body s with
   | none=>simp[kn,hb]at hs
   | some o' =>
    have h2:=h1 s a w o' hb (fun g hg=>by subst hg;simp only[kn,hb]at hs;exact adp hs) hI
    refine wpIn_mono h2 fun e a' w' q=>?_
    cases e with
    | goto l' =>
     obtain⟨rfl,s',rfl,G9⟩:=q
     exact⟨rfl,m,acU m,s',by simpa only[kn,hb]using hs,G9⟩
    | normal=>exact q
    | exit id=>exact q
    | ret=>exact q
    | panic ch=>exact q
    | outgrown=>exact q
 have more:∀ a w,(∃ s,kn body m0 s=some o∧I F s a w)→Wp rr P rest (Exit.jump l (fun a w=>∃ m,∃ s,kn body m s=some o∧I F s a w) Q) a w:=by
  rintro a w ⟨s,hs,hI⟩
  refine wpIn_mono (pass m0 s a w hs hI) fun e a' w' q=>?_
  cases e with
  | goto l'=>obtain⟨h,m',_,h'⟩:=q;exact⟨h,m',h'⟩
  | normal=>exact q
  | exit id=>exact q
  | ret=>exact q
  | panic ch=>exact q
  | outgrown=>exact q
 refine Wq l (fun m a w=>∃ s,kn body m s=some o∧I F s a w) hf ?_ ?_
 ·refine wpIn_seq (wpIn_mono (h0 hF hM) fun e a' w' q=>?_)
  cases e with
  | normal=>exact wpIn_seq (wpIn_label (more a' w' ⟨s0,hm0,q⟩))
  | goto l'=>exact q.elim
  | exit id=>exact q
  | ret=>exact q
  | panic ch=>exact q
  | outgrown=>exact q
 ·rintro m a w ⟨s,hs,hI⟩
  exact wpIn_seq (wpIn_skip (pass m s a w hs hI))
end
end Go.Fx
end
section
namespace Go.Fw
structure Full(e lo:Nat)(s:SV)(l:List UInt8)(w:World):Prop where
 ex:∃ g fz,s=⟨some ⟨g,0,none⟩,l.length,l.length⟩∧lo≤g∧w.heap[g]? = some (.cells (encs l).toArray e fz)
structure Wr(T e lo wb:Nat)(c:Bool)(l:List UInt8)(fp:Nat→Prop)(w:World):Prop where
 ge:lo≤wb
 ex:∃ s:SV,w.heap[wb]? = some (.cells #[s.v] T (0,0))∧(Own lo w e s l∨(c=false∧Full e lo s l w)) ∧ ∀ k,fp k↔(k=wb∨s.v.ownBlock=some k)
abbrev wrR(T e lo wb:Nat)(c:Bool)(l:List UInt8)(fp:Nat→Prop):dw:=.gen fp (Wr T e lo wb c l fp)
section
variable {T e lo wb:Nat}{c c':Bool}{l l':List UInt8}{fp fp':Nat→Prop}{w w' w0 wb0:World}{L:List dw}
theorem Wr.lt(h:Wr T e lo wb c l fp w){k:Nat}(hk:fp k):lo≤k∧k<w.heap.size:=by
 obtain⟨s,h1,h2,h3⟩:=h.ex
 rcases(h3 k).1 hk with rfl|h4
 ·exact⟨h.ge,(aak.1 h1).1⟩
 ·rcases h2 with h2|⟨_,⟨g,fz,rfl,hg,hh⟩⟩
  ·exact World.ownsRow.lt h2 k h4
  ·simp only[SV.v,Value.ownBlock,adq]at h4
   subst h4
   exact⟨hg,(aak.1 hh).1⟩
theorem Wr.keep(h:Wr T e lo wb c l fp w)(Ez:Io w w')(hs:w.heap.size≤w'.heap.size)(hk:∀ k,fp k→w'.heap[k]? = w.heap[k]?):Wr T e lo wb c l fp w':=by
 obtain⟨s,h1,h2,h3⟩:=h.ex
 refine⟨h.ge,s,by rw[hk wb ((h3 wb).2 (.inl rfl))];exact h1,?_,h3⟩
 rcases h2 with h2|⟨hc,⟨g,fz,rfl,hg,hh⟩⟩
 ·exact .inl (dw.keep (r:=.row lo s.v e (d_.sz UInt8) l.length (encs l)) h2 Ez hs fun k hk'=>hk k ((h3 k).2 (.inr hk')))
 ·exact .inr ⟨hc,⟨g,fz,rfl,hg,by rw[hk g ((h3 g).2 (.inr rfl))];exact hh⟩⟩
theorem Wr.holds(h:Wr T e lo wb c l fp w):(wrR T e lo wb c l fp).holds w:=⟨fun k hk=>(h.lt hk).2,fun w' a b d=>h.keep a b d⟩
end
end Go.Fw
end
section
namespace Go.Fx
open Go Go.Fw
def Ext(e:Nat)(s:SV)(l:List UInt8)(w:World):Prop:=Own 0 w e s l∨Full e 0 s l w
abbrev Oq(e:Nat)(s:SV)(l:List UInt8):dw:=.gen (fun k=>s.v.ownBlock=some k) (Ext e s l)
section
variable {e:Nat}{s:SV}{l:List UInt8}{w w':World}{L:List dw}
theorem Wa(h:Full e 0 s l w):cH 0 w s l:=by
 obtain⟨g,fz,rfl,_,hh⟩:=h.ex
 exact⟨rfl,aah _,.inr rfl,aaF _,oW (n:=(encs l).length) hh (cD rfl)⟩
theorem WJ(h:Full e 0 s l w)(hk:∀ k,s.v.ownBlock=some k→w'.heap[k]? = w.heap[k]?):Full e 0 s l w':=by
 obtain⟨g,fz,rfl,h0,hh⟩:=h.ex
 exact⟨g,fz,rfl,h0,by rw[hk g rfl];exact hh⟩
theorem Ext.slice(h:Ext e s l w):cH 0 w s l:=h.elim Own.slice Wa
theorem Ext.holds(h:Ext e s l w):(Oq e s l).holds w:=by
 refine⟨fun k hk=>?_,fun w' Ez hs hk=>?_⟩
 ·rcases h with h|h
  ·exact(World.ownsRow.lt h k hk).2
  ·obtain⟨g,fz,rfl,_,hh⟩:=h.ex
   simp only[SV.v,Value.ownBlock,adq]at hk;subst hk
   exact(aak.1 hh).1
 ·rcases h with h|h
  ·exact .inl (dw.keep (r:=.row 0 s.v e (d_.sz UInt8) l.length (encs l)) h Ez hs hk)
  ·exact .inr (WJ h hk)
end
section
variable {P:Program}{n:Nat}{F:List (Nat×Value)}{a:Act}{dd:List Deferred}{w:World}{o:Oper}{J:Value→World→Prop}
inductive iF{X:Type}[d_ X]:Nat→List (Nat×Value)→List X→Prop
 | nil {k:Nat}:iF k [] []
 | cons {k:Nat} {v:Value} {y:X} {xO:List (Nat×Value)} {ys:List X}:v.cells=(d_.enc y).toArray→iF (k+1) xO ys→iF k ((k,v)::xO) (y::ys)
theorem Zw{place:Nat→Option (Nat×Nat)}{cs cs' vs:List Value}{v:Value}{i off sz:Nat}{rest:List (Nat×Value)}{r:Array Value}(hp:place i=some (off,sz))(hv:v.cells=vs.toArray)(hl:vs.length=sz)(hle:off+vs.length≤cs.length)(qb:put cs off vs=cs')(h:Instr.fill place cs'.toArray rest=some r) :
  Instr.fill place cs.toArray ((i,v)::rest)=some r:=by
 subst qb hl
 have hf:=pB vs 0 off cs adr
 simp only[ab_]at hf
 simp only[Instr.fill,hp,hv,aca,ne_eq,not_true_eq_false,decide_false,acG,aa6]
 rw[aaK adr,←acH,acI]
 simp only[hf]
 exact h
theorem V_{X:Type}[d_ X]{k:Nat}{xO:List (Nat×Value)}{ys:List X}(h:iF k xO ys):∀ (done:List X) (zs:List Value),done.length=k→zs.length=ys.length*d_.sz X →
  Instr.fill (fun i=>some (i*d_.sz X,d_.sz X)) (encs done++zs).toArray xO=some (encs (done++ys)).toArray:=by
 induction h with
 | nil =>
  intro done zs hd hz
  simp at hz
  subst hz
  simp[Instr.fill]
 | @cons k v y xO ys hv _ ih =>
  intro done zs hd hz
  subst hd
  have hsz:zs.length=d_.sz X+ys.length*d_.sz X:=by rw[hz,abN,aci];omega
  have hel:(encs done).length=done.length*d_.sz X:=dM done
  refine Zw (off:=done.length*d_.sz X) (sz:=d_.sz X) (cs':=encs (done ++ [y])++zs.drop (d_.sz X)) rfl hv (d_.len y) (by rw[d_.len];simp;omega) ?_ ?_
  ·unfold put
   rw[d_.len,dW,wG,acP hel,←hel,aco]
  ·have:=ih (done ++ [y]) (zs.drop (d_.sz X)) (by simp) (by simp;omega)
   rw[this,ade];rfl
theorem eZ{X:Type}[d_ X]{t e m:Nat}{ys:List X}{parts:List (Nat×Operand)}{xO:List (Nat×Value)}{ie:TypeInfo}{z:Value}(hu:P.underlying t=some (.slice e))(hie:P.info? e=some ie)(hz:ie.zero=some z)(hs:ie.size=d_.sz X)(vg:z.cells.size=d_.sz X)
  (hn:ys.length=m) (E2:Nat.ble (m*d_.sz X) 16777216=true) (hpos:0<m) (hF:Fr n F a dd) (ho:o.op = .buildSlice t m parts.toArray) (hp:yd F parts=some xO) (hv:iF 0 xO ys)
  (next:∀ b w',w.heap.size=b→iy (pt b (encs ys) e) w w' → J (SV.v ⟨some ⟨b,0,none⟩,m,m⟩) w'):Yd P o a.eval w J:=by
 have hX:=d_.pos (X:=X)
 refine xE (parts:=parts) (xO:=xO) (cs:=encs ys) hu hie hz hs hF ho hp E2 ?_ ?_ next
 ·cases hq:Nat.beq (m*d_.sz X) 0 with
  | false=>rfl
  | true =>
   have:=aac hq
   rcases Nat.mul_eq_zero.1 this with h|h<;>omega
 ·have hz0:((Array.range (m*d_.sz X)).map (z.cells[· % z.cells.size]!))=(((Array.range (m*d_.sz X)).map (z.cells[· % z.cells.size]!)).toList).toArray:=(acK).symm
  rw[hz0]
  have:=V_ hv [] ((Array.range (m*d_.sz X)).map (z.cells[· % z.cells.size]!)).toList rfl (by simp[hn])
  simpa[jS]using this
end
end Go.Fx
end
section
namespace Go.Fx
open Go Go.Fw
structure cu where
 table:Int
 from_:Int
 old:List UInt8
 new:List UInt8
deriving DecidableEq
def eO(L:World→Prop)(x:bq)(p:cu):Prop:=∃ (mr:SV) (mg:SV),x=(bq.mk p.table p.from_ mr mg)∧cn L mr p.old∧cn L mg p.new
theorem eO.mono{L L':World→Prop}{x:bq}{p:cu}(h:eO L x p)(k:∀ w,L' w→L w):eO L' x p:=by
 obtain⟨mr,mg,e,h0,h1⟩:=h
 exact⟨mr,mg,e,h0.mono k,h1.mono k⟩
structure dD where
 at_:Int
 next:Int
 done:Bool
 bk:List dU
 slots:List eo
 dE:List cu
 bf:List Int
deriving DecidableEq
def ic(L:World→Prop)(x:bS)(p:dD):Prop:=∃ (oq:SV) (lq:SV) (kr:SV) (kR:List bq) (gC:SV),x=(bS.mk p.at_ p.next p.done oq lq kr gC)∧cn L oq p.bk∧cn L lq p.slots∧cn L kr kR∧bw (eO L) kR p.dE∧cn L gC p.bf
theorem ic.mono{L L':World→Prop}{x:bS}{p:dD}(h:ic L x p)(k:∀ w,L' w→L w):ic L' x p:=by
 obtain⟨oq,lq,kr,kR,gC,e,h0,h1,h2,h3,h4⟩:=h
 exact⟨oq,lq,kr,kR,gC,e,h0.mono k,h1.mono k,h2.mono k,h3.mono fun _ _ q=>q.mono k,h4.mono k⟩
structure fj where
 b_:List UInt8
 ah:List (List UInt8)
deriving DecidableEq
def qe(L:World→Prop)(x:br)(p:fj):Prop:=∃ (gI:SV) (ep:SV) (gu:List SV),x=(br.mk gI ep)∧cn L gI p.b_∧cn L ep gu∧bw (cn (X:=UInt8) L) gu p.ah
theorem qe.mono{L L':World→Prop}{x:br}{p:fj}(h:qe L x p)(k:∀ w,L' w→L w):qe L' x p:=by
 obtain⟨gI,ep,gu,e,h0,h1,h2⟩:=h
 exact⟨gI,ep,gu,e,h0.mono k,h1.mono k,h2.mono fun _ _ q=>q.mono k⟩
structure du where
 iz:fj
 cj:List dD
 end_:Int
deriving DecidableEq
def tt(L:World→Prop)(x:bg)(p:du):Prop:=∃ (qs:SV) (nz:SV) (nk:List SV) (qt:SV) (vn:List bS),x=(bg.mk (br.mk qs nz) qt p.end_)∧cn L qs p.iz.b_∧cn L nz nk∧bw (cn (X:=UInt8) L) nk p.iz.ah∧cn L qt vn∧bw (ic L) vn p.cj
theorem tt.mono{L L':World→Prop}{x:bg}{p:du}(h:tt L x p)(k:∀ w,L' w→L w):tt L' x p:=by
 obtain⟨qs,nz,nk,qt,vn,e,h0,h1,h2,h3,h4⟩:=h
 exact⟨qs,nz,nk,qt,vn,e,h0.mono k,h1.mono k,h2.mono fun _ _ q=>q.mono k,h3.mono k,h4.mono fun _ _ q=>q.mono k⟩
structure fh where
 lo:Int
 hi:Int
 data:List UInt8
 ah:List gG
 code:List b9
deriving DecidableEq
def oa(L:World→Prop)(x:bh)(p:fh):Prop:=∃ (ng:SV) (ep:SV) (oo:SV),x=(bh.mk p.lo p.hi ng ep oo)∧cn L ng p.data∧cn L ep p.ah∧cn L oo p.code
theorem oa.mono{L L':World→Prop}{x:bh}{p:fh}(h:oa L x p)(k:∀ w,L' w→L w):oa L' x p:=by
 obtain⟨ng,ep,oo,e,h0,h1,h2⟩:=h
 exact⟨ng,ep,oo,e,h0.mono k,h1.mono k,h2.mono k⟩
structure bj where
 bk:Vec ak 11
 bp:Vec bn 32
 b_:List UInt8
 ah:List (List UInt8)
 bf:List Int
 at_:Int
 steps:Int
 done:Bool
deriving DecidableEq
def vy(L:World→Prop)(x:ay)(p:bj):Prop:=∃ (gI:SV) (ep:SV) (gu:List SV) (gC:SV),x=(ay.mk p.bk p.bp gI ep gC p.at_ p.steps p.done)∧cn L gI p.b_∧cn L ep gu∧bw (cn (X:=UInt8) L) gu p.ah∧cn L gC p.bf
theorem vy.mono{L L':World→Prop}{x:ay}{p:bj}(h:vy L x p)(k:∀ w,L' w→L w):vy L' x p:=by
 obtain⟨gI,ep,gu,gC,e,h0,h1,h2,h3⟩:=h
 exact⟨gI,ep,gu,gC,e,h0.mono k,h1.mono k,h2.mono fun _ _ q=>q.mono k,h3.mono k⟩
structure ot where
 r0:Int
 b_:List UInt8
 ah:List (List UInt8)
 bf:List Int
deriving DecidableEq
def tj(L:World→Prop)(x:ez)(p:ot):Prop:=∃ (gI:SV) (ep:SV) (gu:List SV) (gC:SV),x=(ez.mk p.r0 gI ep gC)∧cn L gI p.b_∧cn L ep gu∧bw (cn (X:=UInt8) L) gu p.ah∧cn L gC p.bf
theorem tj.mono{L L':World→Prop}{x:ez}{p:ot}(h:tj L x p)(k:∀ w,L' w→L w):tj L' x p:=by
 obtain⟨gI,ep,gu,gC,e,h0,h1,h2,h3⟩:=h
 exact⟨gI,ep,gu,gC,e,h0.mono k,h1.mono k,h2.mono fun _ _ q=>q.mono k,h3.mono k⟩
structure Bc where
 b:List UInt8
deriving DecidableEq
def tu(L:World→Prop)(x:gy)(p:Bc):Prop:=∃ (vq:SV),x=(gy.mk vq)∧cn L vq p.b
theorem tu.mono{L L':World→Prop}{x:gy}{p:Bc}(h:tu L x p)(k:∀ w,L' w→L w):tu L' x p:=by
 obtain⟨vq,e,h0⟩:=h
 exact⟨vq,e,h0.mono k⟩
structure gi where
 b:List UInt8
 at_:Int
 place:Int
 e:Int
deriving DecidableEq
def tq(L:World→Prop)(x:h_)(p:gi):Prop:=∃ (vq:SV),x=(h_.mk vq p.at_ p.place p.e)∧cn L vq p.b
theorem tq.mono{L L':World→Prop}{x:h_}{p:gi}(h:tq L x p)(k:∀ w,L' w→L w):tq L' x p:=by
 obtain⟨vq,e,h0⟩:=h
 exact⟨vq,e,h0.mono k⟩
structure gR where
 b:List UInt8
 at_:Int
 place:Int
 e:Int
deriving DecidableEq
def s6(L:World→Prop)(x:g_)(p:gR):Prop:=∃ (vq:SV),x=(g_.mk vq p.at_ p.place p.e)∧cn L vq p.b
theorem s6.mono{L L':World→Prop}{x:g_}{p:gR}(h:s6 L x p)(k:∀ w,L' w→L w):s6 L' x p:=by
 obtain⟨vq,e,h0⟩:=h
 exact⟨vq,e,h0.mono k⟩
structure fq where
 bp:Vec bn 32
 b_:List UInt8
 ah:List (List UInt8)
 data:List UInt8
 sizes:List gG
deriving DecidableEq
def tg(L:World→Prop)(x:bu)(p:fq):Prop:=∃ (gI:SV) (ep:SV) (gu:List SV) (ng:SV) (qu:SV),x=(bu.mk p.bp gI ep ng qu)∧cn L gI p.b_∧cn L ep gu∧bw (cn (X:=UInt8) L) gu p.ah∧cn L ng p.data∧cn L qu p.sizes
theorem tg.mono{L L':World→Prop}{x:bu}{p:fq}(h:tg L x p)(k:∀ w,L' w→L w):tg L' x p:=by
 obtain⟨gI,ep,gu,ng,qu,e,h0,h1,h2,h3,h4⟩:=h
 exact⟨gI,ep,gu,ng,qu,e,h0.mono k,h1.mono k,h2.mono fun _ _ q=>q.mono k,h3.mono k,h4.mono k⟩
structure QM where
 p:fh
 dq:List Int
 bk:Vec ak 11
 cells:Vec Au 256
 ptrs:List ak
 b_:List UInt8
 ah:List (List UInt8)
 bf:List Int
 at_:Int
 steps:Int
 done:Bool
deriving DecidableEq
def Gm(L:World→Prop)(x:RM)(p:QM):Prop:=∃ (sd:SV) (pQ:SV) (r_:SV) (nQ:SV) (wS:SV) (gI:SV) (ep:SV) (gu:List SV) (gC:SV),x=(RM.mk (bh.mk p.p.lo p.p.hi sd pQ r_) nQ p.bk p.cells wS gI ep gC p.at_ p.steps p.done)∧cn L sd p.p.data∧cn L pQ p.p.ah∧cn L r_ p.p.code∧cn L nQ p.dq∧cn L wS p.ptrs∧cn L gI p.b_∧cn L ep gu∧bw (cn (X:=UInt8) L) gu p.ah∧cn L gC p.bf
theorem Gm.mono{L L':World→Prop}{x:RM}{p:QM}(h:Gm L x p)(k:∀ w,L' w→L w):Gm L' x p:=by
 obtain⟨sd,pQ,r_,nQ,wS,gI,ep,gu,gC,e,h0,h1,h2,h3,h4,h5,h6,h7,h8⟩:=h
 exact⟨sd,pQ,r_,nQ,wS,gI,ep,gu,gC,e,h0.mono k,h1.mono k,h2.mono k,h3.mono k,h4.mono k,h5.mono k,h6.mono k,h7.mono fun _ _ q=>q.mono k,h8.mono k⟩
structure qx where
 args:List Int
 ret:dm
deriving DecidableEq
def Av(L:World→Prop)(x:gq)(p:qx):Prop:=∃ (ui:SV),x=(gq.mk ui p.ret)∧cn L ui p.args
theorem Av.mono{L L':World→Prop}{x:gq}{p:qx}(h:Av L x p)(k:∀ w,L' w→L w):Av L' x p:=by
 obtain⟨ui,e,h0⟩:=h
 exact⟨ui,e,h0.mono k⟩
structure Ba where
 room:List UInt8
deriving DecidableEq
def tf(L:World→Prop)(x:jd)(p:Ba):Prop:=∃ (wT:SV),x=(jd.mk wT)∧cn L wT p.room
theorem tf.mono{L L':World→Prop}{x:jd}{p:Ba}(h:tf L x p)(k:∀ w,L' w→L w):tf L' x p:=by
 obtain⟨wT,e,h0⟩:=h
 exact⟨wT,e,h0.mono k⟩
end Go.Fx
end
section
namespace Go.Fx
open Go Go.Fw
structure aj where
 ae:fq
 code:List b9
 dq:List Int
 cg:List (Int×Int)
 bk:Vec ak 11
 bf:List Int
 at_:Int
 steps:Int
 done:Bool
deriving DecidableEq
end Go.Fx
namespace Go.Fw
open Go.Fx
theorem af.ci_memory_stack(x:af)(i:Nat)(y:bn)(h:x.ae.bp.l[i]? = some y):cut x.enc (0+i*13) 13=y.enc :=
 Xu (af.c_memory x) (bu.ci_stack x.ae i y h) (by
  have:=(aaz.1 h).1
  rw[x.ae.bp.len]at this
  omega)
theorem af.pi_memory_stack(x:af)(i:Nat)(y:bn)(h:i<32):put x.enc (0+i*13) (y.enc) = { x with ae:={ x.ae with bp:=x.ae.bp.set i y } }.enc :=
 XG (af.c_memory x) (bu.pi_stack x.ae i y h) (af.p_memory x _) (by rw[bn.len];omega) (by rw[af.len];omega)
abbrev gx(x:aj)(a b c d e f:SV)(g:Nat)(h:SV):af:=af.mk (bu.mk x.ae.bp a b c d) e f (some g) x.bk h x.at_ x.steps x.done
end Go.Fw
end
noncomputable section
namespace Go.Proofs
open Go Go.Fw Go.Fx
set_option maxRecDepth 10000
def Sh.cE:Option Bool:=some true
def Sh.cU(x0:List UInt8):Option (List UInt8):=Fx.app 1 [] x0
def Sh.bH(x0:List Int):Option (List Int):=Fx.app 8 [] x0
def Sh.fR(x0:List b9):Option (List b9):=Fx.app 56 [] x0
def Sh.aM(x0:List UInt8):Option (List UInt8):=Fx.app 1 [] x0
def Sh.eE(x0:List gG):Option (List gG):=Fx.app 16 [] x0
def Sh.fH(x0:List (List UInt8)):Option (List (List UInt8)):=Fx.app 24 [] x0
def Sh.cW(x0:List dU):Option (List dU):=Fx.app 72 [] x0
def Sh.cV(x0:List eo):Option (List eo):=Fx.app 104 [] x0
def Sh.cM(x0:List cu):Option (List cu):=Fx.app 64 [] x0
end Go.Proofs
end
noncomputable section
namespace Go.Proofs
open Go Go.Fw Go.Fx
set_option maxRecDepth 10000
def Sh.aB(x0:gi)(x1:Int)(x2:Int):Option gi :=
 (bif (decide (x0.e=0))then(some (gi.mk x0.b x0.at_ x1 x2))else(some x0))
def Sh.cK(x1:Int)(v40:gi):Option ((List UInt8×gi)) :=
 (bif (!decide (v40.e=0))then(some ([],v40))else((Fx.nj v40.b (IntKind.i64.wrap ((IntKind.i64.wrap (v40.at_+x1))-x1)) (IntKind.i64.wrap (v40.at_+x1))).bind fun x52=>(some (x52,(gi.mk v40.b (IntKind.i64.wrap (v40.at_+x1)) v40.place v40.e)))))
def Sh.aV(x0:gi)(x1:Int):Option ((List UInt8×gi)) :=
 (Fx.seq (bif (decide ((IntKind.i64.wrap ((x0.b.length:Int)-x0.at_))<x1))then((Sh.aB x0 (x0.b.length:Int) 236).bind fun Fq=>(some (inl Fq)))else(some (inl x0))) fun v40=>Sh.cK x1 v40)
def Sh.eS(c1:(List UInt8×gi))(c0:Int)(c2:Int):Option (((Int×Int)⊕((gi×Int)⊕(Int×gi)))) :=
 (bif (decide (c0<(c1.1.length:Int)))then((Fx.get c1.1 c0).bind fun c3=>(Fx.must (decide (0≤(IntKind.i64.wrap (8*c0)))) (some (inl ((IntKind.i64.wrap (c0+1)),(v8 .i64 c2 (shl .i64 (c3.toNat:Int) ((IntKind.i64.wrap (8*c0))).toNat)))))))else(some (inr (inl (c1.2,c2)))))
def Sh.qJ(c0:gi)(c1:Int):Option ((Int×gi)) :=
 (some (c1,c0))
def Sh.aA(x0:gi)(x1:Int):Option ((Int×gi)) :=
 (Fx.seq ((Sh.aV x0 x1).bind fun c4=>(Fx.loop (fun(c2,c3)=>Sh.eS c4 c2 c3) (0,0))) fun(c0,c1)=>Sh.qJ c0 c1)
end Go.Proofs
end
noncomputable section
namespace Go.Proofs
open Go Go.Fw Go.Fx
set_option maxRecDepth 10000
def Sh.vT(v7:Bool):Option Bool :=
 (some v7)
def Sh.bK(x0:Int)(x1:Int)(x2:Int):Option Bool :=
 (Fx.seq (bif (decide (x1≤x0))then(some (inl (decide (x0≤x2))))else(some (inl false))) fun v7=>Sh.vT v7)
def Sh.cT(c0:Int)(c1:List Int):Option (((List Int×Int)⊕(List Int⊕List Int))) :=
 (some (inl (c1,(IntKind.i64.wrap (c0+1)))))
def Sh.aU(x0:List UInt8)(x1:List UInt8)(c1:List Int)(c0:Int):Option (((List Int×Int)⊕(List Int⊕List Int))) :=
 (bif (decide (c0<(x0.length:Int)))then(Fx.seq ((Fx.get x0 c0).bind fun c3=>((Fx.get x1 c0).bind fun c4=>(bif (!decide ((c3.toNat:Int)=(c4.toNat:Int)))then((Fx.app 8 c1 [c0]).bind fun c5=>(some (inl c5)))else(some (inl c1))))) fun c2=>Sh.cT c0 c2)else(some (inr (inl c1))))
def Sh.zZ(c0:List Int):Option (List Int) :=
 (some c0)
def Sh.cN(x0:List UInt8)(x1:List UInt8):Option (List Int) :=
 (Fx.seq (Fx.loop (fun(c1,c2)=>Sh.aU x0 x1 c1 c2) ([],0)) fun c0=>Sh.zZ c0)
def Sh.hJ(c0:Int)(c1:List Int):Option (((List Int×Int)⊕(List Int⊕List Int))) :=
 (some (inl (c1,(IntKind.i64.wrap (c0+1)))))
def Sh.cX(x0:List ak)(x1:List ak)(c1:List Int)(c0:Int):Option (((List Int×Int)⊕(List Int⊕List Int))) :=
 (bif (decide (c0<(x0.length:Int)))then(Fx.seq ((Fx.get x0 c0).bind fun c3=>((Fx.get x1 c0).bind fun c4=>(bif (!(decide (c3=c4)))then((Fx.app 8 c1 [c0]).bind fun c5=>(some (inl c5)))else(some (inl c1))))) fun c2=>Sh.hJ c0 c2)else(some (inr (inl c1))))
def Sh.uA(c0:List Int):Option (List Int) :=
 (some c0)
def Sh.gQ(x0:List ak)(x1:List ak):Option (List Int) :=
 (Fx.seq (Fx.loop (fun(c1,c2)=>Sh.cX x0 x1 c1 c2) ([],0)) fun c0=>Sh.uA c0)
def Sh.iG(c0:Int)(c1:List Int):Option (((List Int×Int)⊕(List Int⊕List Int))) :=
 (some (inl (c1,(IntKind.i64.wrap (c0+1)))))
def Sh.dO(x0:List bn)(x1:List bn)(c1:List Int)(c0:Int):Option (((List Int×Int)⊕(List Int⊕List Int))) :=
 (bif (decide (c0<(x0.length:Int)))then(Fx.seq ((Fx.get x0 c0).bind fun c3=>((Fx.get x1 c0).bind fun c4=>(bif (!(decide (c3=c4)))then((Fx.app 8 c1 [c0]).bind fun c5=>(some (inl c5)))else(some (inl c1))))) fun c2=>Sh.iG c0 c2)else(some (inr (inl c1))))
def Sh.vP(c0:List Int):Option (List Int) :=
 (some c0)
def Sh.hH(x0:List bn)(x1:List bn):Option (List Int) :=
 (Fx.seq (Fx.loop (fun(c1,c2)=>Sh.dO x0 x1 c1 c2) ([],0)) fun c0=>Sh.vP c0)
def Sh.aX(c1:Int)(c0:cu)(c2:Int)(c3:Bool):Option (((Int×Int×Int)⊕(Unit⊕Bool))) :=
 (bif c3 then(some (inr (inr false)))else(some (inl ((IntKind.i64.wrap (c1+1)),c2,(IntKind.i64.wrap ((IntKind.i64.wrap (c0.from_+(c0.old.length:Int)))+1))))))
def Sh.cI(c1:Int)(c0:cu)(c2:Int)(c3:Int):Option (((Int×Int×Int)⊕(Unit⊕Bool))) :=
 (Fx.seq (bif (decide ((c0.old.length:Int)=0))then(some (inl true))else(bif (!decide ((c0.new.length:Int)=(c0.old.length:Int)))then(some (inl true))else(bif (decide (65535<(c0.old.length:Int)))then(some (inl true))else((Sh.bK c0.from_ c3 (IntKind.i64.wrap (65535-(c0.old.length:Int)))).bind fun c5=>(bif (!c5)then(some (inl true))else((Sh.cN c0.old c0.new).bind fun c6=>(some (inl (decide ((c6.length:Int)<(c0.old.length:Int))))))))))) fun c4=>Sh.aX c1 c0 c2 c4)
def Sh.aK(x0:List cu)(c1:Int)(c2:Int)(c3:Int):Option (((Int×Int×Int)⊕(Unit⊕Bool))) :=
 (bif (decide (c1<(x0.length:Int)))then((Fx.get x0 c1).bind fun c0=>(Fx.seq ((Sh.bK c0.table c2 7).bind fun c6=>(bif (!c6)then(some (inr (inr (inr false))))else(bif (decide (c2<c0.table))then(some (inl (c0.table,0)))else(some (inl (c2,c3)))))) fun(c4,c5)=>Sh.cI c1 c0 c4 c5))else(some (inr (inl ()))))
def Sh.nJ:Option Bool :=
 (some true)
def Sh.eB(x0:List cu):Option Bool :=
 (Fx.seq (Fx.loop (fun(c0,c1,c2)=>Sh.aK x0 c0 c1 c2) (0,(-1),0)) fun _=>Sh.nJ)
def Sh.rV(c0:Int)(c2:dU)(c1:Bool):Option (((Int×Int)⊕(Unit⊕Bool))) :=
 (bif c1 then(some (inr (inr false)))else(some (inl ((IntKind.i64.wrap (c0+1)),c2.reg))))
def Sh.bM(x0:dD)(c1:Int)(c2:Int):Option (((Int×Int)⊕(Unit⊕Bool))) :=
 (bif (decide (c1<(x0.bk.length:Int)))then((Fx.get x0.bk c1).bind fun c0=>(Fx.seq ((Sh.bK c0.reg (IntKind.i64.wrap (c2+1)) 10).bind fun c4=>(bif (!c4)then(some (inl true))else(some (inl (decide (c0.old=c0.new)))))) fun c3=>Sh.rV c1 c0 c3))else(some (inr (inl ()))))
def Sh.rW(c0:Int)(c2:eo)(c1:Bool):Option (((Int×Int)⊕(Unit⊕Bool))) :=
 (bif c1 then(some (inr (inr false)))else(some (inl (c2.slot,(IntKind.i64.wrap (c0+1))))))
def Sh.bN(x0:dD)(c2:Int)(c1:Int):Option (((Int×Int)⊕(Unit⊕Bool))) :=
 (bif (decide (c1<(x0.slots.length:Int)))then((Fx.get x0.slots c1).bind fun c0=>(Fx.seq ((Sh.bK c0.slot (IntKind.i64.wrap (c2+1)) 31).bind fun c4=>(bif (!c4)then(some (inl true))else(some (inl (decide (c0.old=c0.new)))))) fun c3=>Sh.rW c1 c0 c3))else(some (inr (inl ()))))
def Sh.dA(x0:dD):Option Bool :=
 ((Sh.eB x0.dE).bind fun c0=>(some c0))
def Sh.cZ(x0:dD):Option Bool :=
 (Fx.seq (Fx.loop (fun(c0,c1)=>Sh.bN x0 c0 c1) ((-1),0)) fun _=>Sh.dA x0)
def Sh.cY(x0:dD)(c0:Bool):Option Bool :=
 (bif c0 then(some false)else(Fx.seq (Fx.loop (fun(c1,c2)=>Sh.bM x0 c1 c2) (0,(-1))) fun _=>Sh.cZ x0))
def Sh.cP(x0:dD):Option Bool :=
 (Fx.seq ((Sh.bK x0.at_ 0 4095).bind fun c1=>(bif (!c1)then(some (inl true))else((Sh.bK x0.next 0 4095).bind fun c2=>(bif (!c2)then(some (inl true))else(some (inl (decide (1<(x0.bf.length:Int))))))))) fun c0=>Sh.cY x0 c0)
def Sh.oV(c0:Int)(c1:Bool):Option ((Int⊕(Unit⊕(Int⊕(Bool⊕(Bool⊕(Bool⊕(Bool⊕Bool)))))))) :=
 (bif c1 then(some (inr (inr (inl c0))))else(some (inl (IntKind.i64.wrap (c0+1)))))
def Sh.hD(x0:bj)(c0:Int):Option ((Int⊕(Unit⊕(Int⊕(Bool⊕(Bool⊕(Bool⊕(Bool⊕Bool)))))))) :=
 (bif (decide (c0<(x0.ah.length:Int)))then((Fx.get x0.ah c0).bind fun c2=>(Fx.seq (some (inl (decide (65535<(c2.length:Int))))) fun c1=>Sh.oV c0 c1))else(some (inr (inl ()))))
def Sh.uY:Option ((Int⊕(Bool⊕(Bool⊕(Bool⊕(Bool⊕Bool)))))) :=
 (some (inl (-1)))
def Sh.oU(c0:Int):Option ((Bool⊕(Bool⊕(Bool⊕(Bool⊕Bool))))) :=
 (some (inl (decide (0≤c0))))
def Sh.oT(c0:Bool):Option ((Bool⊕(Bool⊕(Bool⊕Bool)))) :=
 (some (inl (!c0)))
def Sh.hA(x0:bj)(c0:Bool):Option ((Bool⊕(Bool⊕(Bool⊕Bool)))) :=
 (bif (!c0)then(bif (decide ((x0.ah.length:Int)≤8))then(Fx.seq (Fx.seq (Fx.seq (Fx.loop (fun c3=>Sh.hD x0 c3) 0) fun _=>Sh.uY) fun c2=>Sh.oU c2) fun c1=>Sh.oT c1)else(some (inl false)))else(some (inl false)))
def Sh.hC(c0:Bool):Option ((Bool⊕(Bool⊕Bool))) :=
 (some (inl c0))
def Sh.gZ(c0:Bool):Option ((Bool⊕Bool)) :=
 (some (inl c0))
def Sh.hB(c0:Bool):Option Bool :=
 (some c0)
def Sh.hN(x0:bj):Option Bool :=
 (Fx.seq ((Sh.bK x0.at_ 0 4095).bind fun c4=>(bif c4 then((Sh.bK x0.steps 0 4294967296).bind fun c5=>(bif c5 then(Fx.seq (Fx.seq (Fx.seq (some (inl (decide (65535<(x0.b_.length:Int))))) fun c2=>Sh.hA x0 c2) fun c1=>Sh.hC c1) fun c0=>Sh.gZ c0)else(some (inl false))))else(some (inl false)))) fun c3=>Sh.hB c3)
def Sh.mA(x0:bj)(x1:bj)(c0:Int):Option ((Int⊕(Unit⊕Bool))) :=
 (bif (decide (c0<(x0.ah.length:Int)))then((Fx.get x0.ah c0).bind fun c1=>((Fx.get x1.ah c0).bind fun c2=>(bif (!decide ((c1.length:Int)=(c2.length:Int)))then(some (inr (inr false)))else(some (inl (IntKind.i64.wrap (c0+1)))))))else(some (inr (inl ()))))
def Sh.mB(x0:bj)(c1:List Int)(c0:Int):Option ((Int⊕(Unit⊕(Bool⊕(Bool⊕Bool))))) :=
 (bif (decide (c0<(x0.bf.length:Int)))then((Fx.get x0.bf c0).bind fun c2=>((Fx.get c1 c0).bind fun c3=>(bif (!decide (c2=c3))then(some (inr (inr (inl false))))else(some (inl (IntKind.i64.wrap (c0+1)))))))else(some (inr (inl ()))))
def Sh.GF:Option ((Bool⊕(Bool⊕Bool))) :=
 (some (inl true))
def Sh.aBr(c0:Bool):Option ((Bool⊕Bool)) :=
 (some (inl c0))
def Sh.Jv(c0:Bool):Option Bool :=
 (some c0)
def Sh.vL(x0:bj)(x1:bj):Option Bool :=
 (Fx.seq ((Sh.bK (IntKind.i64.wrap ((x1.bf.length:Int)-(x0.bf.length:Int))) 0 1).bind fun c4=>(bif c4 then((Fx.nj x1.bf 0 (x0.bf.length:Int)).bind fun c0=>(Fx.seq (bif (!decide ((x0.bf.length:Int)=(c0.length:Int)))then(some (inl false))else(Fx.seq (Fx.loop (fun c3=>Sh.mB x0 c0 c3) 0) fun _=>Sh.GF)) fun c2=>Sh.aBr c2))else(some (inl false)))) fun c1=>Sh.Jv c1)
def Sh.vK(x0:bj)(x1:bj)(c0:Bool):Option Bool :=
 (bif c0 then(some false)else(Fx.seq (Fx.loop (fun c1=>Sh.mA x0 x1 c1) 0) fun _=>Sh.vL x0 x1))
def Sh.wB(x0:bj)(x1:bj):Option Bool :=
 (Fx.seq (bif x0.done then(some (inl true))else(bif (!decide (x1.steps=(IntKind.i64.wrap (x0.steps+1))))then(some (inl true))else(bif (!decide ((x0.b_.length:Int)=(x1.b_.length:Int)))then(some (inl true))else(some (inl (!decide ((x0.ah.length:Int)=(x1.ah.length:Int)))))))) fun c0=>Sh.vK x0 x1 c0)
def Sh.rT(x0:bj)(x1:Int):Option ((List UInt8×Bool)) :=
 (bif (decide (x1<0))then(some (x0.b_,true))else(bif (decide (x1<(x0.ah.length:Int)))then((Fx.get x0.ah x1).bind fun U4=>(some (U4,true)))else(some ([],false))))
def Sh.uC(x0:bj)(x1:dD)(c0:Int):Option ((Int⊕(Unit⊕Bool))) :=
 (bif (decide (c0<(x1.bk.length:Int)))then((Fx.get x1.bk c0).bind fun c1=>((Fx.get x0.bk.l c1.reg).bind fun c2=>(bif (!(decide (c2=c1.old)))then(some (inr (inr false)))else(some (inl (IntKind.i64.wrap (c0+1)))))))else(some (inr (inl ()))))
def Sh.uD(x0:bj)(x1:dD)(c0:Int):Option ((Int⊕(Unit⊕Bool))) :=
 (bif (decide (c0<(x1.slots.length:Int)))then((Fx.get x1.slots c0).bind fun c1=>((Fx.get x0.bp.l c1.slot).bind fun c2=>(bif (!(decide (c2=c1.old)))then(some (inr (inr false)))else(some (inl (IntKind.i64.wrap (c0+1)))))))else(some (inr (inl ()))))
def Sh.yX(c0:Bool):Option ((Bool⊕(Int⊕(Unit⊕Bool)))) :=
 (some (inl (!c0)))
def Sh.uB(c0:Int)(c1:Bool):Option ((Int⊕(Unit⊕Bool))) :=
 (bif c1 then(some (inr (inr false)))else(some (inl (IntKind.i64.wrap (c0+1)))))
def Sh.uE(x0:bj)(x1:dD)(c1:Int):Option ((Int⊕(Unit⊕Bool))) :=
 (bif (decide (c1<(x1.dE.length:Int)))then((Fx.get x1.dE c1).bind fun c0=>((Sh.rT x0 c0.table).bind fun c2=>(Fx.seq (bif (!c2.2)then(some (inl true))else(bif (decide ((c2.1.length:Int)<(IntKind.i64.wrap (c0.from_+(c0.old.length:Int)))))then(some (inl true))else((Fx.nj c2.1 c0.from_ (IntKind.i64.wrap (c0.from_+(c0.old.length:Int)))).bind fun c5=>(Fx.seq (some (inl (decide (c5=c0.old)))) fun c4=>Sh.yX c4)))) fun c3=>Sh.uB c1 c3)))else(some (inr (inl ()))))
def Sh.zA(x0:bj)(x1:dD):Option Bool :=
 (some (decide (x0.at_=x1.at_)))
def Sh.yZ(x0:bj)(x1:dD):Option Bool :=
 (Fx.seq (Fx.loop (fun c0=>Sh.uE x0 x1 c0) 0) fun _=>Sh.zA x0 x1)
def Sh.yY(x0:bj)(x1:dD):Option Bool :=
 (Fx.seq (Fx.loop (fun c0=>Sh.uD x0 x1 c0) 0) fun _=>Sh.yZ x0 x1)
def Sh.xB(x0:bj)(x1:dD):Option Bool :=
 (Fx.seq (Fx.loop (fun c0=>Sh.uC x0 x1 c0) 0) fun _=>Sh.yY x0 x1)
end Go.Proofs
end
noncomputable section
namespace Go.Proofs
open Go Go.Fw Go.Fx
set_option maxRecDepth 10000
def Sh.aL(x0:gR)(x1:Int)(x2:Int):Option gR :=
 (bif (decide (x0.e=0))then(some (gR.mk x0.b x0.at_ x1 x2))else(some x0))
def Sh.dL(x0:gR)(c0:Bool):Option ((gR⊕(Int×gR))) :=
 (bif c0 then((Sh.aL x0 (x0.b.length:Int) 236).bind fun c1=>(some (inl c1)))else(some (inl x0)))
def Sh.eQ(c1:gR)(c2:Int)(c0:Int):Option (((Int×Int)⊕(Int⊕(Int×gR)))) :=
 (bif (decide (0≤c0))then((Fx.get c1.b (IntKind.i64.wrap (c1.at_+c0))).bind fun c3=>(some (inl ((IntKind.u64.wrap ((IntKind.u64.wrap (c2*256))+(c3.toNat:Int))),(IntKind.i64.wrap (c0-1))))))else(some (inr (inl c2))))
def Sh.kU(x1:Int)(c0:gR)(c1:Int):Option ((Int×gR)) :=
 (some ((IntKind.i64.wrap c1),(gR.mk c0.b (IntKind.i64.wrap (c0.at_+x1)) c0.place c0.e)))
def Sh.dK(x1:Int)(c0:gR):Option ((Int×gR)) :=
 (bif (!decide (c0.e=0))then(some (0,c0))else(Fx.seq (Fx.loop (fun(c2,c3)=>Sh.eQ c0 c2 c3) (0,(IntKind.i64.wrap (x1-1)))) fun c1=>Sh.kU x1 c0 c1))
def Sh.aC(x0:gR)(x1:Int):Option ((Int×gR)) :=
 (Fx.seq (Fx.seq (bif (decide (x0.e=0))then(some (inl (decide ((x0.b.length:Int)<(IntKind.i64.wrap (x0.at_+x1))))))else(some (inl false))) fun c1=>Sh.dL x0 c1) fun c0=>Sh.dK x1 c0)
end Go.Proofs
end
noncomputable section
namespace Go.Proofs
open Go Go.Fw Go.Fx
set_option maxRecDepth 10000
def Sh.aW(x0:List UInt8)(x1:List UInt8):Option Bool :=
 (some (decide (x0=x1)))
def Sh.eT(x0:List Int)(x1:List Int)(c0:Int):Option ((Int⊕(Unit⊕Bool))) :=
 (bif (decide (c0<(x0.length:Int)))then((Fx.get x0 c0).bind fun c1=>((Fx.get x1 c0).bind fun c2=>(bif (!decide (c1=c2))then(some (inr (inr false)))else(some (inl (IntKind.i64.wrap (c0+1)))))))else(some (inr (inl ()))))
def Sh.qK:Option Bool :=
 (some true)
def Sh.hP(x0:List Int)(x1:List Int):Option Bool :=
 (bif (!decide ((x0.length:Int)=(x1.length:Int)))then(some false)else(Fx.seq (Fx.loop (fun c0=>Sh.eT x0 x1 c0) 0) fun _=>Sh.qK))
def Sh.eU(x0:List (List UInt8))(x1:List (List UInt8))(c0:Int):Option ((Int⊕(Unit⊕Bool))) :=
 (bif (decide (c0<(x0.length:Int)))then((Fx.get x0 c0).bind fun c1=>((Fx.get x1 c0).bind fun c2=>((Sh.aW c1 c2).bind fun c3=>(bif (!c3)then(some (inr (inr false)))else(some (inl (IntKind.i64.wrap (c0+1))))))))else(some (inr (inl ()))))
def Sh.qL:Option Bool :=
 (some true)
def Sh.hQ(x0:List (List UInt8))(x1:List (List UInt8)):Option Bool :=
 (bif (!decide ((x0.length:Int)=(x1.length:Int)))then(some false)else(Fx.seq (Fx.loop (fun c0=>Sh.eU x0 x1 c0) 0) fun _=>Sh.qL))
def Sh.pD(v83:Bool):Option Bool :=
 (some v83)
def Sh.bF(x0:bj)(x1:bj):Option Bool :=
 (Fx.seq (bif (decide (x0.bk=x1.bk))then(bif (decide (x0.bp=x1.bp))then((Sh.aW x0.b_ x1.b_).bind fun Gh=>(bif Gh then((Sh.hQ x0.ah x1.ah).bind fun Vn=>(bif Vn then((Sh.hP x0.bf x1.bf).bind fun Vo=>(bif Vo then(bif (decide (x0.at_=x1.at_))then(bif (decide (x0.steps=x1.steps))then(some (inl (decide (x0.done=x1.done))))else(some (inl false)))else(some (inl false)))else(some (inl false))))else(some (inl false))))else(some (inl false))))else(some (inl false)))else(some (inl false))) fun v83=>Sh.pD v83)
end Go.Proofs
end
section
namespace Go.Fx
open Go Go.Fw
theorem WZ(n:Nat):encs (List.replicate n (0:Int))=List.replicate n (.int .i64 0):=by
 induction n with
 | zero=>rfl
 | succ n ih=>rw[acV,kG,ih];rfl
theorem W9(n:Nat):(madeCells #[.int .i64 0] n).toList=List.replicate n (.int .i64 0):=by
 apply abr
 intro i
 simp only[madeCells,acW,acX,aby,acY,acZ]
 by_cases h:i<n
 ·simp[h,Nat.mod_one]
 ·simp[h]
section
variable {P:Program}{n:Nat}{F:List (Nat×Value)}{a:Act}{dd:List Deferred}{w:World}{o:Oper}{J:Value→World→Prop}
theorem oO{x y:Operand}{t e bytes:Nat}{c:Int}{k k':IntKind}{l:List Int}{i:TypeInfo}(hr:Fx.mk bytes (0:Int) c=some l)(ht:P.underlying t=some (.slice e))(hi:P.info? e=some i)(hz:i.zero=some (.int .i64 0))
  (hsize:i.size=1) (An:i.bytes=bytes) (hF:Fr n F a dd) (ho:o.op = .makeSlice t x y) (hx:ev F x=some (.int k c)) (hy:ev F y=some (.int k' c))
  (next:∀ (s:SV) w',iy (ai 0 s e l) w w' → J s.v w'):Yd P o a.eval w J:=by
 subst An
 obtain⟨hb,rfl⟩:=S1 hr
 have hrun:=run_make (P:=P) w t e i (.int .i64 0) ht hi hz k k' c c hb.1 (Int.le_refl _) hb.2.1 adr
 have hA:iy (ai 0 ⟨some ⟨w.heap.size,0,none⟩,c.toNat,c.toNat⟩ e (List.replicate c.toNat (0:Int))) w (w.alloc (.cells (madeCells (Value.int .i64 0).cells (c.toNat*i.size)) e)):=by
  have hm:(madeCells (Value.int .i64 0).cells (c.toNat*i.size)).toList=List.replicate c.toNat (.int .i64 0):=by rw[hsize,acO];exact W9 _
  refine⟨gw.alloc w _,⟨by rw[dM],.inr ⟨w.heap.size,c.toNat,_,by simp[SV.v],aaF _,heap_alloc_new w _,by simp,by simp only[maxLen];omega,?_,?_⟩⟩,fun k hk=>by simp[dw.fp,SV.v,Value.ownBlock]at hk;omega⟩
  ·rw[size_madeCells,hsize];rfl
  ·rw[hm,WZ,abS]
   exact acn (by rw[abS];exact ac0 (acO _).symm)
 have h:=next _ _ hA
 unfold Yd
 simp only[execOp,ho,hF.eval hx,hF.eval hy,Sem.run_bind,hrun,Result.andThen_ok,Sem.run_pure]
 exact h
end
end Go.Fx
end
noncomputable section
namespace Go.Proofs
open Go Go.Fw Go.Fx
set_option maxRecDepth 10000
def Sh.eN(x0:Int):Option Int :=
 (some (i_ .u64 x0 4294967295))
def Sh.aFl(x0:Int)(x1:Int):Option Int :=
 (some (IntKind.u64.wrap (x0+x1)))
def Sh.JE(x0:Int)(x1:Int):Option Int :=
 (some (IntKind.u64.wrap (x0-x1)))
def Sh.aFr(x0:Int)(x1:Int):Option Int :=
 (some (IntKind.u64.wrap (x0*x1)))
def Sh.aFn(x0:Int)(x1:Int):Option Int :=
 (Fx.must (decide (x1≠0)) (some (IntKind.u64.wrap (Int.tdiv x0 x1))))
def Sh.Ix(x0:Int)(x1:Int):Option Int :=
 (Fx.must (decide (x1≠0)) (some (Int.tmod x0 x1)))
def Sh.Ih(x0:Int)(x1:Int):Option Int :=
 (Fx.must (decide ((IntKind.i64.wrap x1)≠0)) (some (IntKind.u64.wrap (IntKind.i64.wrap (Int.tdiv (IntKind.i64.wrap x0) (IntKind.i64.wrap x1))))))
def Sh.aDn(x0:Int)(x1:Int):Option Int :=
 (Fx.must (decide ((IntKind.i64.wrap x1)≠0)) (some (IntKind.u64.wrap (Int.tmod (IntKind.i64.wrap x0) (IntKind.i64.wrap x1)))))
def Sh.II(x0:Int)(x1:Int):Option Int :=
 (some (v8 .u64 x0 x1))
def Sh.Iu(x0:Int)(x1:Int):Option Int :=
 (some (i_ .u64 x0 x1))
def Sh.IA(x0:Int)(x1:Int):Option Int :=
 (some (ua .u64 x0 x1))
def Sh.Iw(x0:Int)(x1:Int):Option Int :=
 (Fx.must (decide (0≤(i_ .u64 x1 63))) (some (shl .u64 x0 ((i_ .u64 x1 63)).toNat)))
def Sh.Iz(x0:Int)(x1:Int):Option Int :=
 (Fx.must (decide (0≤(i_ .u64 x1 63))) (some (shr .u64 x0 ((i_ .u64 x1 63)).toNat)))
def Sh.EK(x0:Int)(x1:Int):Option Int :=
 (Fx.must (decide (0≤(i_ .u64 x1 63))) (some (IntKind.u64.wrap (shr .i64 (IntKind.i64.wrap x0) ((i_ .u64 x1 63)).toNat))))
def Sh.Iy(x0:Int)(x1:Int):Option Int :=
 (some (IntKind.u64.wrap (0-x0)))
def Sh.aFq(x0:Int)(x1:Int):Option Int :=
 (some x1)
def Sh.aBz(x0:Int)(x1:Int):Option Int :=
 ((Sh.eN x0).bind fun y7=>((Sh.eN x1).bind fun y9=>(Fx.must (decide (y9≠0)) (some (IntKind.u64.wrap (Int.tdiv y7 y9))))))
def Sh.H6(x0:Int)(x1:Int):Option Int :=
 ((Sh.eN x0).bind fun y7=>((Sh.eN x1).bind fun y9=>(Fx.must (decide (y9≠0)) (some (Int.tmod y7 y9)))))
def Sh.zQ(x0:Int)(x1:Int):Option Int :=
 (Fx.must (decide ((IntKind.i32.wrap x1)≠0)) (some (IntKind.u64.wrap (IntKind.u32.wrap (IntKind.i32.wrap (Int.tdiv (IntKind.i32.wrap x0) (IntKind.i32.wrap x1)))))))
def Sh.zR(x0:Int)(x1:Int):Option Int :=
 (Fx.must (decide ((IntKind.i32.wrap x1)≠0)) (some (IntKind.u64.wrap (IntKind.u32.wrap (Int.tmod (IntKind.i32.wrap x0) (IntKind.i32.wrap x1))))))
def Sh.aB0(x0:Int)(x1:Int):Option Int :=
 (Fx.must (decide (0≤(i_ .u64 x1 31))) (some (shl .u64 x0 ((i_ .u64 x1 31)).toNat)))
def Sh.H7(x0:Int)(x1:Int):Option Int :=
 ((Sh.eN x0).bind fun y5=>(Fx.must (decide (0≤(i_ .u64 x1 31))) (some (shr .u64 y5 ((i_ .u64 x1 31)).toNat))))
def Sh.zP(x0:Int)(x1:Int):Option Int :=
 (Fx.must (decide (0≤(i_ .u64 x1 31))) (some (IntKind.u64.wrap (IntKind.u32.wrap (shr .i32 (IntKind.i32.wrap x0) ((i_ .u64 x1 31)).toNat)))))
def Sh.oB(x0:Int):Option Int :=
 (some (v8 .u16 (shr .u16 x0 (8:Int).toNat) (shl .u16 x0 (8:Int).toNat)))
def Sh.oC(x0:Int):Option Int :=
 (some (v8 .u32 (shr .u32 (v8 .u32 (i_ .u32 (shr .u32 x0 (8:Int).toNat) 16711935) (shl .u32 (i_ .u32 x0 16711935) (8:Int).toNat)) (16:Int).toNat) (shl .u32 (v8 .u32 (i_ .u32 (shr .u32 x0 (8:Int).toNat) 16711935) (shl .u32 (i_ .u32 x0 16711935) (8:Int).toNat)) (16:Int).toNat)))
def Sh.oD(x0:Int):Option Int :=
 (some (v8 .u64 (shr .u64 (v8 .u64 (i_ .u64 (shr .u64 (v8 .u64 (i_ .u64 (shr .u64 x0 (8:Int).toNat) 71777214294589695) (shl .u64 (i_ .u64 x0 71777214294589695) (8:Int).toNat)) (16:Int).toNat) 281470681808895) (shl .u64 (i_ .u64 (v8 .u64 (i_ .u64 (shr .u64 x0 (8:Int).toNat) 71777214294589695) (shl .u64 (i_ .u64 x0 71777214294589695) (8:Int).toNat)) 281470681808895) (16:Int).toNat)) (32:Int).toNat) (shl .u64 (v8 .u64 (i_ .u64 (shr .u64 (v8 .u64 (i_ .u64 (shr .u64 x0 (8:Int).toNat) 71777214294589695) (shl .u64 (i_ .u64 x0 71777214294589695) (8:Int).toNat)) (16:Int).toNat) 281470681808895) (shl .u64 (i_ .u64 (v8 .u64 (i_ .u64 (shr .u64 x0 (8:Int).toNat) 71777214294589695) (shl .u64 (i_ .u64 x0 71777214294589695) (8:Int).toNat)) 281470681808895) (16:Int).toNat)) (32:Int).toNat)))
def Sh.vU(v7:Bool):Option Bool :=
 (some v7)
def Sh.wD(x0:Int):Option Bool :=
 (Fx.seq (bif (decide (4≤x0))then(some (inl (decide (x0≤7))))else(some (inl false))) fun v7=>Sh.vU v7)
def Sh.Jy(x2:Int)(v44:Bool):Option ((Int⊕Int)) :=
 (bif v44 then(some (inl (IntKind.i64.wrap (IntKind.i32.wrap x2))))else(some (inl 0)))
def Sh.Jx(x1:Bool)(v39:Int):Option Int :=
 (bif x1 then(some (IntKind.i64.wrap (IntKind.u32.wrap v39)))else(some v39))
def Sh.GM(x0:Int)(x1:Bool)(x2:Int):Option Int :=
 (Fx.seq (bif (decide (x0=8))then(some (inl (IntKind.i64.wrap (IntKind.i8.wrap x2))))else(bif (decide (x0=16))then(some (inl (IntKind.i64.wrap (IntKind.i16.wrap x2))))else(Fx.seq (bif (decide (x0=32))then(some (inl (!x1)))else(some (inl false))) fun v44=>Sh.Jy x2 v44))) fun v39=>Sh.Jx x1 v39)
def Sh.aGv(x0:Int)(x2:Int)(v91:Bool):Option Int :=
 (bif v91 then((Sh.oD (IntKind.u64.wrap x2)).bind fun Vq=>(some (IntKind.i64.wrap Vq)))else(bif (decide (x0=64))then(some x2)else(some 0)))
def Sh.aGu(x0:Int)(x1:Bool)(x2:Int)(v83:Bool):Option Int :=
 (bif v83 then((Sh.oC (IntKind.u32.wrap (IntKind.u64.wrap x2))).bind fun Gh=>(some (IntKind.i64.wrap Gh)))else(bif (decide (x0=32))then(some (IntKind.i64.wrap (IntKind.u32.wrap (IntKind.u64.wrap x2))))else(Fx.seq (bif (decide (x0=64))then(some (inl x1))else(some (inl false))) fun v91=>Sh.aGv x0 x2 v91)))
def Sh.JJ(x0:Int)(x1:Bool)(x2:Int)(v75:Bool):Option Int :=
 (bif v75 then((Sh.oB (IntKind.u16.wrap (IntKind.u64.wrap x2))).bind fun Vk=>(some (IntKind.i64.wrap Vk)))else(bif (decide (x0=16))then(some (IntKind.i64.wrap (IntKind.u16.wrap (IntKind.u64.wrap x2))))else(Fx.seq (bif (decide (x0=32))then(some (inl x1))else(some (inl false))) fun v83=>Sh.aGu x0 x1 x2 v83)))
def Sh.GV(x0:Int)(x1:Bool)(x2:Int):Option Int :=
 (Fx.seq (bif (decide (x0=16))then(some (inl x1))else(some (inl false))) fun v75=>Sh.JJ x0 x1 x2 v75)
def Sh.mX(x0:gp)(x1:Bool)(v21:Bool):Option Bool :=
 (bif v21 then(some true)else(bif x1 then(some (decide (x0.a<x0.b)))else(some (decide (x0.b<x0.a)))))
def Sh.kG(x0:gp)(x1:Bool)(x2:Bool):Option Bool :=
 (Fx.seq (bif x2 then(some (inl (decide (x0.a=x0.b))))else(some (inl false))) fun v21=>Sh.mX x0 x1 v21)
def Sh.nL(x0:gj)(x1:Bool)(v21:Bool):Option Bool :=
 (bif v21 then(some true)else(bif x1 then(some (decide (x0.a<x0.b)))else(some (decide (x0.b<x0.a)))))
def Sh.kW(x0:gj)(x1:Bool)(x2:Bool):Option Bool :=
 (Fx.seq (bif x2 then(some (inl (decide (x0.a=x0.b))))else(some (inl false))) fun v21=>Sh.nL x0 x1 v21)
def Sh.xW(x0:List UInt8)(c0:Int)(c1:Int):Option (((Int×Int)⊕(Int⊕Int))) :=
 (bif (decide (c0<(x0.length:Int)))then((Fx.get x0 c0).bind fun c2=>(Fx.must (decide (0≤(IntKind.i64.wrap (8*c0)))) (some (inl ((IntKind.i64.wrap (c0+1)),(v8 .u64 c1 (shl .u64 (c2.toNat:Int) ((IntKind.i64.wrap (8*c0))).toNat)))))))else(some (inr (inl c1))))
def Sh.GQ(x0:List UInt8)(x1:Bool)(c0:Int):Option Int :=
 (bif x1 then(Fx.must (decide (0≤(IntKind.i64.wrap (64-(IntKind.i64.wrap (8*(x0.length:Int))))))) (Fx.must (decide (0≤(IntKind.i64.wrap (64-(IntKind.i64.wrap (8*(x0.length:Int))))))) (some (shr .i64 (IntKind.i64.wrap (shl .u64 c0 ((IntKind.i64.wrap (64-(IntKind.i64.wrap (8*(x0.length:Int)))))).toNat)) ((IntKind.i64.wrap (64-(IntKind.i64.wrap (8*(x0.length:Int)))))).toNat))))else(some (IntKind.i64.wrap c0)))
def Sh.GN(x0:List UInt8)(x1:Bool)(v93:Bool):Option Int :=
 (bif v93 then(some 0)else(Fx.seq (Fx.loop (fun(c1,c2)=>Sh.xW x0 c1 c2) (0,0)) fun c0=>Sh.GQ x0 x1 c0))
def Sh.aGs(x0:List UInt8)(x1:Bool):Option Int :=
 (Fx.seq (bif (decide ((x0.length:Int)<1))then(some (inl true))else(some (inl (decide (8<(x0.length:Int)))))) fun v93=>Sh.GN x0 x1 v93)
def Sh.xY(x1:Int)(c2:List UInt8)(c0:Int)(c1:List UInt8):Option (((Int×List UInt8)⊕(List UInt8⊕List UInt8))) :=
 (bif (decide (c0<(c2.length:Int)))then(Fx.must (decide (0≤(IntKind.i64.wrap (8*c0)))) ((Fx.get c1 c0).bind fun c3=>(some (inl ((IntKind.i64.wrap (c0+1)),(c1.set (c0:Int).toNat (Fw.byteOf (shr .i64 x1 ((IntKind.i64.wrap (8*c0))).toNat))))))))else(some (inr (inl c1))))
def Sh.aIv(c0:List UInt8):Option (List UInt8) :=
 (some c0)
def Sh.xX(x0:Int)(x1:Int)(c1:Bool):Option (List UInt8) :=
 (bif c1 then(some [])else((Fx.mk 1 (0:UInt8) x0).bind fun c0=>(Fx.seq (Fx.loop (fun(c3,c4)=>Sh.xY x1 c0 c3 c4) (0,c0)) fun c2=>Sh.aIv c2)))
def Sh.aDk(x0:Int)(x1:Int):Option (List UInt8) :=
 (Fx.seq (bif (decide (x0<1))then(some (inl true))else(some (inl (decide (8<x0))))) fun c0=>Sh.xX x0 x1 c0)
end Go.Proofs
end
noncomputable section
namespace Go.Proofs
open Go Go.Fw Go.Fx
set_option maxRecDepth 10000
def Sh.dJ(x0:Int):Option ak :=
 (some (ak.mk 1 0 0 x0))
def Sh.cF(x0:ak):Option Bool :=
 (some (decide (x0.kind=1)))
def Sh.hF(x0:ak):Option Bool :=
 (some (decide (2≤x0.kind)))
def Sh.JA(v12:Bool):Option Bool :=
 (some v12)
def Sh.wL(x0:ak)(x1:ak):Option Bool :=
 (Fx.seq (bif (decide (x0.kind=x1.kind))then(bif (decide (2≤x0.kind))then(some (inl (decide (x0.kind≤4))))else(some (inl false)))else(some (inl false))) fun v12=>Sh.JA v12)
def Sh.yD(x0:ak)(x1:Int)(v45:Bool):Option ((ak×Int)) :=
 (bif v45 then(some (x0,85))else(some ((ak.mk x0.kind x0.table x0.row (IntKind.i64.wrap (x0.x+x1))),0)))
def Sh.tC(x0:ak)(x1:Int):Option ((ak×Int)) :=
 (Fx.seq (bif (decide (x1<(-2097152)))then(some (inl true))else(bif (decide (2097152<x1))then(some (inl true))else(bif (decide ((IntKind.i64.wrap (x0.x+x1))<(-1048576)))then(some (inl true))else(some (inl (decide (1048576<(IntKind.i64.wrap (x0.x+x1))))))))) fun v45=>Sh.yD x0 x1 v45)
def Sh.IE(x1:ak)(x2:ak)(c0:Bool):Option ((ak×Int)) :=
 (bif c0 then((Sh.dJ (IntKind.i64.wrap (x1.x-x2.x))).bind fun c1=>(some (c1,0)))else(some (x1,80)))
def Sh.IC(x0:Int)(x1:ak)(x2:ak)(c1:Bool):Option ((ak×Int)) :=
 (bif c1 then(bif (decide (x2.x<(-2097152)))then(some (x1,85))else((Sh.tC x1 (IntKind.i64.wrap (0-x2.x))).bind fun c0=>(some (c0.1,c0.2))))else(Fx.seq (bif (decide (x0=2))then((Sh.wL x1 x2).bind fun c3=>(some (inl c3)))else(some (inl false))) fun c2=>Sh.IE x1 x2 c2))
def Sh.JH(x0:Int)(x1:ak)(x2:ak)(c1:Bool):Option ((ak×Int)) :=
 (bif c1 then((Sh.tC x2 x1.x).bind fun c0=>(some (c0.1,c0.2)))else(Fx.seq (bif (decide (x0=2))then((Sh.hF x1).bind fun c3=>(bif c3 then((Sh.cF x2).bind fun c4=>(some (inl c4)))else(some (inl false))))else(some (inl false))) fun c2=>Sh.IC x0 x1 x2 c2))
def Sh.JG(x0:Int)(x1:ak)(x2:ak)(c1:Bool):Option ((ak×Int)) :=
 (bif c1 then((Sh.tC x1 x2.x).bind fun c0=>(some (c0.1,c0.2)))else(Fx.seq (bif (decide (x0=1))then((Sh.cF x1).bind fun c3=>(bif c3 then((Sh.hF x2).bind fun c4=>(some (inl c4)))else(some (inl false))))else(some (inl false))) fun c2=>Sh.JH x0 x1 x2 c2))
def Sh.aGf(x0:Int)(x1:ak)(x2:ak):Option ((ak×Int)) :=
 (Fx.seq (bif (decide (x0=1))then((Sh.hF x1).bind fun c1=>(bif c1 then((Sh.cF x2).bind fun c2=>(some (inl c2)))else(some (inl false))))else(some (inl false))) fun c0=>Sh.JG x0 x1 x2 c0)
def Sh.fD(x0:aj)(x1:b9):Option ak :=
 (bif x1.reg then((Fx.get x0.bk.l x1.src).bind fun U8=>(some U8))else((Sh.dJ x1.k_).bind fun Vi=>(some Vi)))
def Sh.vY(x0:aj)(v55:Vec ak 11):Option ((Int×Int×aj)) :=
 (some (0,0,(aj.mk x0.ae x0.code x0.dq x0.cg v55 x0.bf x0.at_ x0.steps x0.done)))
def Sh.fK(x0:aj)(x1:b9):Option ((Int×Int×aj)) :=
 ((Sh.dJ x1.k_).bind fun Fq=>((Fx.get x0.bk.l x1.dst).bind fun x47=>(Fx.seq (bif (decide (x1.op=21))then((Fx.get (x0.bk.set (x1.dst:Int).toNat Fq).l x1.dst).bind fun NT=>(some (inl ((x0.bk.set (x1.dst:Int).toNat Fq).set (x1.dst:Int).toNat (ak.mk 4 NT.table NT.row NT.x)))))else(some (inl (x0.bk.set (x1.dst:Int).toNat Fq)))) fun v55=>Sh.vY x0 v55)))
def Sh.jN(x0:aj)(x1:b9):Option ((Int×Int)) :=
 (bif x1.narrow then(some (x1.k_,0))else(some (x1.off,0)))
def Sh.hS(x0:aj)(x1:b9):Option ((Int×Int×aj)) :=
 ((Fx.get x0.bk.l 0).bind fun U7=>((Sh.cF U7).bind fun Vf=>(bif (!Vf)then(some (0,86,x0))else(some (0,0,(aj.mk x0.ae x0.code x0.dq x0.cg x0.bk x0.bf x0.at_ x0.steps true))))))
def Sh.aAq(x0:aj)(c0:Vec ak 11):Option ((Int×Int×aj)) :=
 (some (0,0,(aj.mk x0.ae x0.code x0.dq x0.cg c0 x0.bf x0.at_ x0.steps x0.done)))
def Sh.Js(x0:aj)(x1:b9)(c0:ak):Option ((Int×Int×aj)) :=
 (Fx.seq ((Sh.cF c0).bind fun c2=>(bif (!c2)then(some (inr (0,80,x0)))else(bif (decide (x1.op=16))then((Sh.GM x1.size x1.narrow c0.x).bind fun c3=>((Sh.dJ c3).bind fun c4=>((Fx.get x0.bk.l x1.dst).bind fun c7=>(some (inl (x0.bk.set (x1.dst:Int).toNat c4))))))else((Sh.GV x1.size (!decide (x1.op=17)) c0.x).bind fun c5=>((Sh.dJ c5).bind fun c6=>((Fx.get x0.bk.l x1.dst).bind fun c8=>(some (inl (x0.bk.set (x1.dst:Int).toNat c6))))))))) fun c1=>Sh.aAq x0 c1)
def Sh.jP(x0:aj)(x1:b9):Option ((Int×Int×aj)) :=
 ((Fx.get x0.bk.l x1.dst).bind fun Vb=>(Fx.seq (bif (decide (x1.op=16))then((Fx.get x0.bk.l x1.src).bind fun c1=>(some (inl c1)))else(some (inl Vb))) fun c0=>Sh.Js x0 x1 c0))
def Sh.pF(x0:aj)(x1:ak):Option Int :=
 (bif (decide (x1.kind=2))then(some 256)else(bif (decide (x1.kind=3))then(some (x0.ae.b_.length:Int))else(bif (decide (x1.kind=4))then(some (x0.ae.data.length:Int))else((Fx.get x0.ae.sizes x1.table).bind fun U6=>(some U6.wide)))))
def Sh.rC(v40:Bool):Option Bool :=
 (some v40)
def Sh.eH(x0:aj)(x1:ak)(x2:Int)(x3:Int):Option Bool :=
 (Fx.seq (bif (decide (0≤x2))then((Sh.pF x0 x1).bind fun Ji=>(some (inl (decide ((IntKind.i64.wrap (x2+x3))≤Ji)))))else(some (inl false))) fun v40=>Sh.rC v40)
def Sh.oX(c0:Int)(c1:Int):Option (((Int×Int)⊕(Int⊕Int))) :=
 (some (inl ((IntKind.i64.wrap (c0+1)),c1)))
def Sh.gP(x0:aj)(x2:Int)(x3:Int)(c0:Int)(c1:Int):Option (((Int×Int)⊕(Int⊕Int))) :=
 (bif (decide (c0<(IntKind.i64.wrap (x2+x3))))then(Fx.seq ((Fx.get x0.ae.bp.l (IntKind.i64.wrap (Int.tdiv c0 8))).bind fun c2=>(bif (!decide (c2.ptr.kind=0))then(some (inr (inr (inr 80))))else(Fx.must (decide (0≤(Int.tmod c0 8))) (bif (decide ((i_ .i64 (shr .i64 c2.mask ((Int.tmod c0 8)).toNat) 1)=0))then(some (inl 82))else(some (inl c1)))))) fun c3=>Sh.oX c0 c3)else(some (inr (inl c1))))
def Sh.oW(c0:Int):Option Int :=
 (some c0)
def Sh.kF(x0:aj)(x2:Int)(x3:Int)(c0:Bool):Option Int :=
 (bif c0 then(some 0)else(Fx.seq (Fx.loop (fun(c2,c3)=>Sh.gP x0 x2 x3 c2 c3) (x2,0)) fun c1=>Sh.oW c1))
def Sh.eJ(x0:aj)(x1:ak)(x2:Int)(x3:Int):Option Int :=
 (Fx.seq (bif (!decide (x1.kind=2))then(some (inl true))else(some (inl (decide (x3=0))))) fun c0=>Sh.kF x0 x2 x3 c0)
def Sh.rA(x2:Int)(CL:ak)(v66:Bool):Option Int :=
 (bif v66 then(some x2)else(some CL.x))
def Sh.qZ(x1:b9)(x2:Int)(CL:ak)(v57:Int):Option Int :=
 (Fx.seq (bif (decide (x1.k_=241))then(some (inl (!decide (x2=v57))))else(some (inl false))) fun v66=>Sh.rA x2 CL v66)
def Sh.kY(x0:aj)(x1:b9)(x2:Int):Option Int :=
 ((Fx.get x0.bk.l x1.src).bind fun CL=>(bif (decide ((uo .i64 x1.k_ 1)=0))then(some (IntKind.i64.wrap (x2+CL.x)))else(bif (decide ((uo .i64 x1.k_ 1)=64))then(some (v8 .i64 x2 CL.x))else(bif (decide ((uo .i64 x1.k_ 1)=80))then(some (i_ .i64 x2 CL.x))else(bif (decide ((uo .i64 x1.k_ 1)=160))then(some (ua .i64 x2 CL.x))else((Fx.get x0.bk.l 0).bind fun Rn=>(Fx.seq (bif (decide (x1.size=4))then(some (inl (IntKind.i64.wrap (IntKind.u32.wrap Rn.x))))else(some (inl Rn.x))) fun v57=>Sh.qZ x1 x2 CL v57)))))))
end Go.Proofs
end
noncomputable section
namespace Go.Proofs
open Go Go.Fw Go.Fx
set_option maxRecDepth 10000
def Sh.pG(x0:aj)(x1:ak)(x2:Int)(x3:Int):Option (List UInt8) :=
 ((Fx.nj x0.ae.b_ x2 (IntKind.i64.wrap (x2+x3))).bind fun x20=>(some x20))
def Sh.qG(x0:aj)(x1:ak)(x2:Int)(x3:Int):Option (List UInt8) :=
 ((Fx.nj x0.ae.data x2 (IntKind.i64.wrap (x2+x3))).bind fun x20=>(some x20))
def Sh.pH(x0:aj)(x1:ak)(x2:Int)(x3:Int):Option ((List UInt8×Int×List UInt8)) :=
 ((Fx.get x0.ae.sizes x1.table).bind fun x20=>((Fx.get x0.ae.ah x1.table).bind fun Rm=>((Fx.nj Rm (IntKind.i64.wrap ((IntKind.i64.wrap (x1.row*x20.wide))+x2)) (IntKind.i64.wrap ((IntKind.i64.wrap ((IntKind.i64.wrap (x1.row*x20.wide))+x2))+x3))).bind fun U5=>(some (Rm,(IntKind.i64.wrap ((IntKind.i64.wrap (x1.row*x20.wide))+x2)),U5)))))
def Sh.kL(x0:aj)(x2:Int)(c2:List UInt8)(c0:Int)(c1:List UInt8):Option (((Int×List UInt8)⊕(List UInt8⊕List UInt8))) :=
 (bif (decide (c0<(c2.length:Int)))then((Fx.get x0.ae.bp.l (IntKind.i64.wrap (Int.tdiv (IntKind.i64.wrap (x2+c0)) 8))).bind fun c3=>((Fx.get c3.bytes.l (Int.tmod (IntKind.i64.wrap (x2+c0)) 8)).bind fun c4=>((Fx.get c1 c0).bind fun c5=>(some (inl ((IntKind.i64.wrap (c0+1)),(c1.set (c0:Int).toNat c4)))))))else(some (inr (inl c1))))
def Sh.FH(c0:List UInt8):Option (List UInt8) :=
 (some c0)
def Sh.kN(x0:aj)(x1:ak)(x2:Int)(x3:Int):Option (List UInt8) :=
 (bif (!decide (x1.kind=2))then(bif (decide (x1.kind=3))then((Sh.pG x0 x1 x2 x3).bind fun c4=>((Sh.aM c4).bind fun c6=>(some c6)))else(bif (decide (x1.kind=4))then((Sh.qG x0 x1 x2 x3).bind fun c5=>((Sh.aM c5).bind fun c7=>(some c7)))else((Sh.pH x0 x1 x2 x3).bind fun c8=>((Sh.aM c8.2.2).bind fun c9=>(some c9)))))else((Fx.mk 1 (0:UInt8) x3).bind fun c0=>(Fx.seq (Fx.loop (fun(c2,c3)=>Sh.kL x0 x2 c0 c2 c3) (0,c0)) fun c1=>Sh.FH c1)))
def Sh.tB(x2:Int)(c0:Int)(c3:UInt8)(c2:Vec bn 32):Option (((Vec bn 32×Int)⊕aj)) :=
 ((Fx.get c2.l (IntKind.i64.wrap (Int.tdiv (IntKind.i64.wrap (x2+c0)) 8))).bind fun c1=>((Fx.get c1.bytes.l (Int.tmod (IntKind.i64.wrap (x2+c0)) 8)).bind fun c6=>((Fx.get (c2.set ((IntKind.i64.wrap (Int.tdiv (IntKind.i64.wrap (x2+c0)) 8)):Int).toNat (bn.mk c1.ptr (c1.bytes.set ((Int.tmod (IntKind.i64.wrap (x2+c0)) 8):Int).toNat c3) c1.mask)).l (IntKind.i64.wrap (Int.tdiv (IntKind.i64.wrap (x2+c0)) 8))).bind fun c5=>(Fx.must (decide (0≤(Int.tmod (IntKind.i64.wrap (x2+c0)) 8))) ((Fx.get (c2.set ((IntKind.i64.wrap (Int.tdiv (IntKind.i64.wrap (x2+c0)) 8)):Int).toNat (bn.mk c1.ptr (c1.bytes.set ((Int.tmod (IntKind.i64.wrap (x2+c0)) 8):Int).toNat c3) c1.mask)).l (IntKind.i64.wrap (Int.tdiv (IntKind.i64.wrap (x2+c0)) 8))).bind fun c4=>(some (inl (((c2.set ((IntKind.i64.wrap (Int.tdiv (IntKind.i64.wrap (x2+c0)) 8)):Int).toNat (bn.mk c1.ptr (c1.bytes.set ((Int.tmod (IntKind.i64.wrap (x2+c0)) 8):Int).toNat c3) c1.mask)).set ((IntKind.i64.wrap (Int.tdiv (IntKind.i64.wrap (x2+c0)) 8)):Int).toNat (bn.mk c4.ptr c4.bytes (v8 .i64 c5.mask (shl .i64 1 ((Int.tmod (IntKind.i64.wrap (x2+c0)) 8)).toNat)))),(IntKind.i64.wrap (c0+1))))))))))
def Sh.iU(x0:aj)(x2:Int)(x3:List UInt8)(c1:Vec bn 32)(c0:Int):Option (((Vec bn 32×Int)⊕aj)) :=
 (bif (decide (c0<(x3.length:Int)))then((Fx.get x3 c0).bind fun c3=>((Fx.get c1.l (IntKind.i64.wrap (Int.tdiv (IntKind.i64.wrap (x2+c0)) 8))).bind fun c4=>(Fx.seq (bif (!decide (c4.ptr.kind=0))then(some (inl (c1.set ((IntKind.i64.wrap (Int.tdiv (IntKind.i64.wrap (x2+c0)) 8)):Int).toNat bn.zero)))else(some (inl c1))) fun c2=>Sh.tB x2 c0 c3 c2)))else(some (inr (aj.mk (fq.mk c1 x0.ae.b_ x0.ae.ah x0.ae.data x0.ae.sizes) x0.code x0.dq x0.cg x0.bk x0.bf x0.at_ x0.steps x0.done))))
def Sh.eY(x0:aj)(x1:ak)(x2:Int)(x3:List UInt8):Option aj :=
 (bif (!decide (x1.kind=2))then(bif (decide (x1.kind=3))then((Sh.pG x0 x1 x2 (x3.length:Int)).bind fun c5=>((Fx.Ey x0.ae.b_ x2 (IntKind.i64.wrap (x2+(x3.length:Int))) x3).bind fun c3=>(some (aj.mk (fq.mk x0.ae.bp c3 x0.ae.ah x0.ae.data x0.ae.sizes) x0.code x0.dq x0.cg x0.bk x0.bf x0.at_ x0.steps x0.done))))else(bif (decide (x1.kind=4))then((Sh.qG x0 x1 x2 (x3.length:Int)).bind fun c6=>(Fx.must (false) none))else((Sh.pH x0 x1 x2 (x3.length:Int)).bind fun c0=>((Fx.Ey c0.1 c0.2.1 (IntKind.i64.wrap (c0.2.1+(x3.length:Int))) x3).bind fun c4=>(some (aj.mk (fq.mk x0.ae.bp x0.ae.b_ (x0.ae.ah.set (x1.table:Int).toNat c4) x0.ae.data x0.ae.sizes) x0.code x0.dq x0.cg x0.bk x0.bf x0.at_ x0.steps x0.done))))))else(Fx.loop (fun(c1,c2)=>Sh.iU x0 x2 x3 c1 c2) (x0.ae.bp,0)))
def Sh.pE(x0:aj)(x1:ak)(x2:Int)(x3:Int)(x4:Bool):Option Int :=
 ((Sh.kN x0 x1 x2 x3).bind fun Vd=>((Sh.aGs Vd x4).bind fun Ve=>(some Ve)))
def Sh.H5(x0:aj)(c1:Int)(c0:Vec ak 11):Option ((Int×Int×aj)) :=
 (some (0,c1,(aj.mk x0.ae x0.code x0.dq x0.cg c0 x0.bf x0.at_ x0.steps x0.done)))
def Sh.nF(x0:aj)(x1:b9)(c0:ak)(c2:Bool):Option ((Int×Int×aj)) :=
 (bif c2 then((Fx.get x0.ae.bp.l (IntKind.i64.wrap (Int.tdiv (IntKind.i64.wrap (c0.x+x1.off)) 8))).bind fun c4=>((Fx.get x0.bk.l x1.dst).bind fun c7=>(some (0,0,(aj.mk x0.ae x0.code x0.dq x0.cg (x0.bk.set (x1.dst:Int).toNat c4.ptr) x0.bf x0.at_ x0.steps x0.done)))))else((Sh.eJ x0 c0 (IntKind.i64.wrap (c0.x+x1.off)) x1.size).bind fun c1=>(Fx.seq (bif (decide (c1=0))then((Sh.pE x0 c0 (IntKind.i64.wrap (c0.x+x1.off)) x1.size (decide (x1.op=23))).bind fun c5=>((Sh.dJ c5).bind fun c6=>((Fx.get x0.bk.l x1.dst).bind fun c8=>(some (inl (x0.bk.set (x1.dst:Int).toNat c6))))))else(some (inl x0.bk))) fun c3=>Sh.H5 x0 c1 c3)))
def Sh.jO(x0:aj)(x1:b9):Option ((Int×Int×aj)) :=
 ((Fx.get x0.bk.l x1.src).bind fun c0=>((Sh.hF c0).bind fun c3=>(bif (!c3)then(some (0,80,x0))else((Sh.eH x0 c0 (IntKind.i64.wrap (c0.x+x1.off)) x1.size).bind fun c4=>(bif (!c4)then(some (0,81,x0))else(Fx.seq (bif (decide (c0.kind=2))then(bif (decide (x1.op=22))then(bif (decide (x1.size=8))then(bif (decide ((Int.tmod (IntKind.i64.wrap (c0.x+x1.off)) 8)=0))then((Fx.get x0.ae.bp.l (IntKind.i64.wrap (Int.tdiv (IntKind.i64.wrap (c0.x+x1.off)) 8))).bind fun c2=>((Sh.hF c2.ptr).bind fun c5=>(some (inl c5))))else(some (inl false)))else(some (inl false)))else(some (inl false)))else(some (inl false))) fun c1=>Sh.nF x0 x1 c0 c1))))))
def Sh.lP(x0:aj)(x1:b9)(c0:ak)(c1:ak)(c2:Bool):Option ((Int×Int×aj)) :=
 (bif c2 then(some (0,86,x0))else((Fx.get x0.ae.bp.l (IntKind.i64.wrap (Int.tdiv (IntKind.i64.wrap (c0.x+x1.off)) 8))).bind fun c3=>(some (0,0,(aj.mk (fq.mk (x0.ae.bp.set ((IntKind.i64.wrap (Int.tdiv (IntKind.i64.wrap (c0.x+x1.off)) 8)):Int).toNat (bn.mk c1 (⟨List.replicate 8 0,rfl⟩ : Vec UInt8 8) 0)) x0.ae.b_ x0.ae.ah x0.ae.data x0.ae.sizes) x0.code x0.dq x0.cg x0.bk x0.bf x0.at_ x0.steps x0.done)))))
def Sh.lO(x0:aj)(x1:b9)(c0:ak)(c1:ak)(c3:Bool):Option ((Int×Int×aj)) :=
 (bif c3 then(some (0,80,x0))else(bif (decide (c0.kind=4))then(some (0,83,x0))else((Sh.eH x0 c0 (IntKind.i64.wrap (c0.x+x1.off)) x1.size).bind fun c5=>(bif (!c5)then(some (0,81,x0))else((Sh.cF c1).bind fun c6=>(bif c6 then((Sh.aDk x1.size c1.x).bind fun c7=>((Sh.eY x0 c0 (IntKind.i64.wrap (c0.x+x1.off)) c7).bind fun c2=>(some (0,0,(aj.mk (fq.mk c2.ae.bp c2.ae.b_ c2.ae.ah x0.ae.data x0.ae.sizes) x0.code x0.dq x0.cg x0.bk x0.bf x0.at_ x0.steps x0.done)))))else(Fx.seq (bif (!decide (c0.kind=2))then(some (inl true))else(bif (!decide (x1.size=8))then(some (inl true))else(some (inl (!decide ((Int.tmod (IntKind.i64.wrap (c0.x+x1.off)) 8)=0)))))) fun c4=>Sh.lP x0 x1 c0 c1 c4)))))))
def Sh.rB(x0:aj)(x1:b9)(c0:ak)(c1:ak):Option ((Int×Int×aj)) :=
 (Fx.seq ((Sh.hF c0).bind fun c3=>(bif (!c3)then(some (inl true))else(some (inl (decide (c1.kind=0)))))) fun c2=>Sh.lO x0 x1 c0 c1 c2)
def Sh.hT(x0:aj)(x1:b9):Option ((Int×Int×aj)) :=
 (Fx.seq ((Fx.get x0.bk.l x1.dst).bind fun c2=>((Sh.fD x0 x1).bind fun c3=>(some (inl (c2,c3))))) fun(c0,c1)=>Sh.rB x0 x1 c0 c1)
def Sh.Jr(x0:aj)(c0:aj)(c1:Vec ak 11):Option ((Int×Int×aj)) :=
 (some (0,0,(aj.mk (fq.mk c0.ae.bp c0.ae.b_ c0.ae.ah x0.ae.data x0.ae.sizes) x0.code x0.dq x0.cg c1 x0.bf x0.at_ x0.steps x0.done)))
def Sh.nC(x0:aj)(x1:b9)(c0:ak)(c3:Bool):Option ((Int×Int×aj)) :=
 (bif c3 then(some (0,80,x0))else(bif (decide (c0.kind=4))then(some (0,83,x0))else((Sh.eH x0 c0 (IntKind.i64.wrap (c0.x+x1.off)) x1.size).bind fun c5=>(bif (!c5)then(some (0,81,x0))else((Sh.eJ x0 c0 (IntKind.i64.wrap (c0.x+x1.off)) x1.size).bind fun c2=>(bif (!decide (c2=0))then(some (0,c2,x0))else((Sh.pE x0 c0 (IntKind.i64.wrap (c0.x+x1.off)) x1.size false).bind fun c1=>((Sh.kY x0 x1 c1).bind fun c6=>((Sh.aDk x1.size c6).bind fun c7=>((Sh.eY x0 c0 (IntKind.i64.wrap (c0.x+x1.off)) c7).bind fun c8=>(Fx.seq (bif (decide (x1.k_=241))then((Sh.dJ c1).bind fun c9=>((Fx.get x0.bk.l 0).bind fun d1=>(some (inl (x0.bk.set (0:Int).toNat c9)))))else(bif (!decide ((i_ .i64 x1.k_ 1)=0))then((Sh.dJ c1).bind fun d0=>((Fx.get x0.bk.l x1.src).bind fun d2=>(some (inl (x0.bk.set (x1.src:Int).toNat d0)))))else(some (inl x0.bk)))) fun c4=>Sh.Jr x0 c8 c4)))))))))))
def Sh.jL(x0:aj)(x1:b9):Option ((Int×Int×aj)) :=
 ((Fx.get x0.bk.l x1.dst).bind fun c0=>(Fx.seq ((Sh.hF c0).bind fun c4=>(bif (!c4)then(some (inl true))else((Fx.get x0.bk.l x1.src).bind fun c2=>((Sh.cF c2).bind fun c5=>(bif (!c5)then(some (inl true))else(bif (decide (x1.k_=241))then((Fx.get x0.bk.l 0).bind fun c3=>((Sh.cF c3).bind fun c6=>(some (inl (!c6)))))else(some (inl false)))))))) fun c1=>Sh.nC x0 x1 c0 c1))
end Go.Proofs
end
section
namespace Go.Fx
open Go Go.Fw
abbrev fv(f:Nat):Value:=.func (.func f) #[] #[]
def ql(l:List (Int×Nat)):Obj:=jZ .i64 (l.map fun p=>(p.1,fv p.2))
theorem bX{X:Type}(b:Int)(y:X)(l:List (Int×X))(a:Int):jy ((b,y)::l) a=if a=b then some y else jy l a:=by
 unfold jy
 simp only[je]
 split
 ·rfl
 ·cases je l a<;>rfl
section
variable {P:Program}{n:Nat}{F:List (Nat×Value)}{a:Act}{dd:List Deferred}{w:World}{o:Oper}{J:Value→World→Prop}
theorem IC{t kt et b:Nat}{q:IntKind}{l:List (Int×Value)}{m k x:Operand}{c:Int}{v:Value}(hm:P.underlying t=some (.map kt et))(hk:P.underlying kt=some (.int q))(hF:Fr n F a dd)(ho:o.op = .insert t m k x)
  (h1:ev F m=some (.map (some b))) (h2:ev F k=some (.int q c)) (h3:ev F x=some v) (hb:(dw.obj b (jZ q l)).holds w)
  (next:∀ w',oc (.obj b (jZ q l)) (.obj b (jZ q (kz l c v))) w w' → J undef w'):Yd P o a.eval w J:=by
 have kT:w.heap[b]? = some (.map (jv q 0 l).toArray l.length):=hb
 have oH:∀ ob,(setObj b ob).run P w = .ok () (w.putObj b ob):=fun ob=>by simp[setObj,Sem.run,kT,World.putObj]
 have Ao:∀ b,(Instr.checkKey b 10000 kt (.int q c)).run P w = .ok () w:=fun b=>Go.Ev.iE hk b q c
 have hU:=Go.Ev.oc.putObj (o':=jZ q (kz l c v)) kT
 have vf:(Instr.findKey kt (.int q c) (jv q 0 l)).run P w = .ok ((je l c).map fun p=>(p.1,p.2)) w:=by
  have:=wH q c l 0 0
  simp only[acr]at this
  exact MapKept.run_findKey hk this
 have h:=next _ hU
 unfold Yd
 cases hf:je l c with
 | none =>
  obtain⟨e1,e2⟩:=sJ q c v l 0 hf
  rw[hf]at vf
  have e3:jZ q (kz l c v) = .map ((jv q 0 l).toArray.push ⟨.int q c,v,l.length⟩) (l.length+1):=by
   simp only[jZ,e1,e2,acr,List.push_toArray]
  rw[e3]at h
  simp only[execOp,ho,hF.eval h1,hF.eval h2,hF.eval h3,Instr.mapUpdate,Sem.run_bind,run_underlying hm,Result.andThen_ok,MapKept.run_getObj_map kT,Ao,vf,acL,oH,Sem.run_pure]
  exact h
 | some p =>
  obtain⟨k',y⟩:=p
  obtain⟨e1,e2,m',e4⟩:=GF q c v y l 0 k' hf
  rw[hf]at vf
  have hst:(Instr.keyThatStays (.int q c) (.int q c)).run P w = .ok (.int q c) w:=MapKept.run_keyThatStays (d:=.int q) rfl
  have Dh:((jv q 0 l).toArray[k']?).map (·.key)=some (.int q c):=by simp[e4]
  have e3:jZ q (kz l c v) = .map ((jv q 0 l).toArray.modify k' fun e=>{ e with key:=.int q c,val:=v }) l.length:=by
   simp only[jZ,e1,e2,adf]
  rw[e3]at h
  simp only[execOp,ho,hF.eval h1,hF.eval h2,hF.eval h3,Instr.mapUpdate,Sem.run_bind,run_underlying hm,Result.andThen_ok,MapKept.run_getObj_map kT,Ao,vf,aaU,Dh,aaV,hst,oH,Sem.run_pure]
  exact h
theorem eD{t kt et b:Nat}{l m:List (Int×Nat)}{y k x:Operand}{c:Int}{f:Nat}(he:kz l c f=m)(hm:P.underlying t=some (.map kt et))(hk:P.underlying kt=some (.int .i64))(hF:Fr n F a dd)(ho:o.op = .insert t y k x)
  (h1:ev F y=some (.map (some b))) (h2:ev F k=some (.int .i64 c)) (h3:ev F x=some (fv f)) (hb:(dw.obj b (ql l)).holds w)
  (next:∀ w',oc (.obj b (ql l)) (.obj b (ql m)) w w' → J undef w'):Yd P o a.eval w J :=
 IC hm hk hF ho h1 h2 h3 hb fun w' h=>next w' (by
  have e:jZ .i64 (kz (l.map fun p=>(p.1,fv p.2)) c (fv f))=ql m:=by
   rw[ql,←he,N3 fv c f l]
  rw[←e];exact h)
theorem RU{t:Nat}(ho:o.op = .makeMap t none)(next:∀ b w',w.heap.size=b→iy (.obj b (ql [])) w w' → J (.map (some b)) w'):Yd P o a.eval w J :=
 yT (q:=.i64) ho next
theorem Wu{t kt et b f:Nat}{l:List (Int×Nat)}{x k:Operand}{c:Int}{z:Value}(hf:jy l c=some f)(hm:P.underlying t=some (.map kt et))(hk:P.underlying kt=some (.int .i64))(hz:∀ w,(zeroValue et).run P w = .ok z w)
  (hF:Fr n F a dd) (ho:o.op = .lookup t x k false) (h1:ev F x=some (.map (some b))) (h2:ev F k=some (.int .i64 c)) (hb:(dw.obj b (ql l)).holds w) :
  (execOp a.eval o).run P w = .ok (.value (fv f)) w:=by
 rw[Jy hm hk hz hF ho h1 h2 hb,sF fv c l,hf];rfl
theorem Wv{t kt et b f:Nat}{l:List (Int×Nat)}{x k:Operand}{c:Int}{z:Value}(hf:jy l c=some f)(hm:P.underlying t=some (.map kt et))(hk:P.underlying kt=some (.int .i64))(hz:∀ w,(zeroValue et).run P w = .ok z w)
  (hF:Fr n F a dd) (ho:o.op = .lookup t x k true) (h1:ev F x=some (.map (some b))) (h2:ev F k=some (.int .i64 c)) (hb:(dw.obj b (ql l)).holds w) :
  (execOp a.eval o).run P w = .ok (.value (.tuple #[fv f,.bool true])) w:=by
 rw[tT hm hk hz hF ho h1 h2 hb,sF fv c l,hf];rfl
theorem JQ{t kt et b:Nat}{l:List (Int×Nat)}{x k:Operand}{c:Int}(hf:(jy l c).isSome=false)(hm:P.underlying t=some (.map kt et))(hk:P.underlying kt=some (.int .i64))(hz:∀ w,(zeroValue et).run P w = .ok .nilFunc w)
  (hF:Fr n F a dd) (ho:o.op = .lookup t x k true) (h1:ev F x=some (.map (some b))) (h2:ev F k=some (.int .i64 c)) (hb:(dw.obj b (ql l)).holds w) :
  (execOp a.eval o).run P w = .ok (.value (.tuple #[.nilFunc,.bool false])) w:=by
 rw[tT hm hk hz hF ho h1 h2 hb,sF fv c l]
 cases h:jy l c with
 | none=>rfl
 | some f=>rw[h]at hf;cases hf
end
end Go.Fx
end
noncomputable section
namespace Go.Proofs
open Go Go.Fw Go.Fx
set_option maxRecDepth 10000
def Sh.EL(c a b:Int):Option Int :=
 (bif (decide (c=1))then Sh.aFl a b else(bif (decide (c=2))then Sh.JE a b else(bif (decide (c=3))then Sh.aFr a b else(bif (decide (c=4))then Sh.aFn a b else(bif (decide (c=5))then Sh.Ix a b else(bif (decide (c=6))then Sh.Ih a b else(bif (decide (c=7))then Sh.aDn a b else(bif (decide (c=8))then Sh.II a b else(bif (decide (c=9))then Sh.Iu a b else(bif (decide (c=10))then Sh.IA a b else(bif (decide (c=11))then Sh.Iw a b else(bif (decide (c=12))then Sh.Iz a b else(bif (decide (c=13))then Sh.EK a b else(bif (decide (c=14))then Sh.Iy a b else(bif (decide (c=15))then Sh.aFq a b else none)))))))))))))))
def w8:List (Int×Nat):=[(1,316),(2,317),(3,318),(4,319),(5,320),(6,321),(7,322),(8,323),(9,324),(10,325),(11,326),(12,327),(13,328),(14,329),(15,330)]
def Sh.GX(c a b:Int):Option Int :=
 (bif (decide (c=4))then Sh.aBz a b else(bif (decide (c=5))then Sh.H6 a b else(bif (decide (c=6))then Sh.zQ a b else(bif (decide (c=7))then Sh.zR a b else(bif (decide (c=11))then Sh.aB0 a b else(bif (decide (c=12))then Sh.H7 a b else(bif (decide (c=13))then Sh.zP a b else none)))))))
def nu:List (Int×Nat):=[(4,331),(5,332),(6,333),(7,334),(11,335),(12,336),(13,337)]
def Sh.aDt(x0:Int)(x1:Bool)(c0:Int)(c1:Int)(c2:Bool):Option ((Int×Int)) :=
 (bif c2 then(some (0,84))else((Fx.jy w8 x0).bind fun c8=>(bif (!x1)then((Sh.EL x0 c0 c1).bind fun c3=>(some ((IntKind.i64.wrap c3),0)))else(bif (Fx.jy nu x0).isSome then((Fx.jy nu x0).bind fun c9=>((Sh.GX x0 c0 c1).bind fun c4=>((Sh.eN c4).bind fun c5=>(some ((IntKind.i64.wrap c5),0)))))else((Sh.EL x0 c0 c1).bind fun c6=>((Sh.eN c6).bind fun c7=>(some ((IntKind.i64.wrap c7),0))))))))
def Sh.aDs(x0:Int)(x1:Bool)(c1:Int)(c0:Int):Option ((Int×Int)) :=
 (Fx.seq (bif (decide (c0=0))then((Sh.wD x0).bind fun c3=>(some (inl c3)))else(some (inl false))) fun c2=>Sh.aDt x0 x1 c1 c0 c2)
def Sh.aDr(x0:Int)(x1:Bool)(x2:Int)(x3:Int)(v84:Bool):Option ((Int×Int)) :=
 (bif v84 then(some (0,1))else(Fx.seq (bif x1 then((Sh.eN (IntKind.u64.wrap x2)).bind fun c2=>((Sh.eN (IntKind.u64.wrap x3)).bind fun c3=>(some (inl (c2,c3)))))else(some (inl ((IntKind.u64.wrap x2),(IntKind.u64.wrap x3))))) fun(c0,c1)=>Sh.aDs x0 x1 c0 c1))
def Sh.GY(x0:Int)(x1:Bool)(x2:Int)(x3:Int):Option ((Int×Int)) :=
 (Fx.seq (bif (decide (x0<1))then(some (inl true))else(some (inl (decide (15<x0))))) fun v84=>Sh.aDr x0 x1 x2 x3 v84)
def Sh.JD(c2:gp)(c0:Bool):Option ((Bool⊕(Bool⊕(Bool⊕Bool)))) :=
 ((Sh.kG c2 false c0).bind fun c1=>(some (inr (inr (inr c1)))))
def Sh.aFj(c2:gp)(c0:Bool):Option ((Bool⊕(Bool⊕Bool))) :=
 ((Sh.kG c2 true c0).bind fun c1=>(some (inr (inr c1))))
def Sh.JC(c2:gj)(c0:Bool):Option ((Bool⊕Bool)) :=
 ((Sh.kW c2 false c0).bind fun c1=>(some (inr c1)))
def Sh.aFh(c2:gj)(c0:Bool):Option Bool :=
 ((Sh.kW c2 true c0).bind fun c1=>(some c1))
def Sh.zG(x0:Int)(c1:gj)(c0:gp):Option Bool :=
 (Fx.seq (Fx.seq (Fx.seq (Fx.seq (bif (decide (x0=27))then(some (inr (inr (inr (inr (decide (c0.a=c0.b)))))))else(bif (decide (x0=28))then(some (inr (inr (inr (inr (!decide (c0.a=c0.b)))))))else(bif (decide (x0=37))then(some (inr (inr (inr (inr (!decide ((i_ .u64 c0.a c0.b)=0)))))))else(bif (decide (x0=30))then(some (inl true))else(bif (decide (x0=29))then(some (inl false))else(bif (decide (x0=32))then(some (inr (inl true)))else(bif (decide (x0=31))then(some (inr (inl false)))else(bif (decide (x0=34))then(some (inr (inr (inl true))))else(bif (decide (x0=33))then(some (inr (inr (inl false))))else(bif (decide (x0=36))then(some (inr (inr (inr (inl true)))))else(bif (decide (x0=35))then(some (inr (inr (inr (inl false)))))else(some (inr (inr (inr (inr false)))))))))))))))) fun c5=>Sh.JD c0 c5) fun c4=>Sh.aFj c0 c4) fun c3=>Sh.JC c1 c3) fun c2=>Sh.aFh c1 c2)
def Sh.xC(x0:Int)(x1:Bool)(x2:Int)(x3:Int):Option Bool :=
 (Fx.seq (bif x1 then(some (inl ((gj.mk (IntKind.i64.wrap (IntKind.i32.wrap x2)) (IntKind.i64.wrap (IntKind.i32.wrap x3))),(gp.mk (IntKind.u64.wrap (IntKind.u32.wrap x2)) (IntKind.u64.wrap (IntKind.u32.wrap x3))))))else(some (inl ((gj.mk x2 x3),(gp.mk (IntKind.u64.wrap x2) (IntKind.u64.wrap x3)))))) fun(c0,c1)=>Sh.zG x0 c0 c1)
end Go.Proofs
end
noncomputable section
namespace Go.Proofs
open Go Go.Fw Go.Fx
set_option maxRecDepth 10000
def Sh.mN(x0:aj)(x1:b9)(c0:ak)(c1:Bool):Option ((ak⊕(Int×Int×aj))) :=
 (bif c1 then((Fx.get x0.bk.l x1.dst).bind fun c3=>(some (inr (0,0,(aj.mk x0.ae x0.code x0.dq x0.cg (x0.bk.set (x1.dst:Int).toNat c0) x0.bf x0.at_ x0.steps x0.done)))))else((Sh.dJ 0).bind fun c2=>(some (inl c2))))
def Sh.tO(x0:aj)(c1:(Int×Int))(c0:Vec ak 11):Option ((Int×Int×aj)) :=
 (some (0,c1.2,(aj.mk x0.ae x0.code x0.dq x0.cg c0 x0.bf x0.at_ x0.steps x0.done)))
def Sh.tP(x0:aj)(c1:(ak×Int))(c0:Vec ak 11):Option ((Int×Int×aj)) :=
 (some (0,c1.2,(aj.mk x0.ae x0.code x0.dq x0.cg c0 x0.bf x0.at_ x0.steps x0.done)))
def Sh.mP(x0:aj)(x1:b9)(c1:ak)(c2:ak)(c3:Bool):Option ((Int×Int×aj)) :=
 (bif c3 then(some (0,80,x0))else((Sh.aGf x1.op c2 c1).bind fun c0=>(Fx.seq (bif (decide (c0.2=0))then((Fx.get x0.bk.l x1.dst).bind fun c5=>(some (inl (x0.bk.set (x1.dst:Int).toNat c0.1))))else(some (inl x0.bk))) fun c4=>Sh.tP x0 c0 c4)))
def Sh.mO(x0:aj)(x1:b9)(c0:ak)(c1:ak)(c3:Bool):Option ((Int×Int×aj)) :=
 (bif c3 then((Sh.GY x1.op x1.narrow c1.x c0.x).bind fun c2=>(Fx.seq (bif (decide (c2.2=0))then((Sh.dJ c2.1).bind fun c6=>((Fx.get x0.bk.l x1.dst).bind fun c7=>(some (inl (x0.bk.set (x1.dst:Int).toNat c6)))))else(some (inl x0.bk))) fun c4=>Sh.tO x0 c2 c4))else(Fx.seq (bif x1.narrow then(some (inl true))else(bif (decide (c1.kind=0))then(some (inl true))else(some (inl (decide (c0.kind=0)))))) fun c5=>Sh.mP x0 x1 c0 c1 c5))
def Sh.tN(x0:aj)(x1:b9)(c0:ak)(c1:ak):Option ((Int×Int×aj)) :=
 (Fx.seq ((Sh.cF c1).bind fun c3=>(bif c3 then((Sh.cF c0).bind fun c4=>(some (inl c4)))else(some (inl false)))) fun c2=>Sh.mO x0 x1 c0 c1 c2)
def Sh.tM(x0:aj)(x1:b9)(c1:ak)(c0:ak):Option ((Int×Int×aj)) :=
 (Fx.seq (bif (decide (x1.op=15))then(Fx.seq (bif (!x1.narrow)then(some (inl (!decide (c0.kind=0))))else(some (inl false))) fun c3=>Sh.mN x0 x1 c0 c3)else(some (inl c1))) fun c2=>Sh.tN x0 x1 c0 c2)
def Sh.mM(x0:aj)(x1:b9)(c0:ak)(c1:ak):Option ((Int×Int×aj)) :=
 (Fx.seq (bif (decide (x1.op=14))then((Sh.dJ 0).bind fun c3=>(some (inl c3)))else(some (inl c1))) fun c2=>Sh.tM x0 x1 c0 c2)
def Sh.eI(x0:aj)(x1:b9):Option ((Int×Int×aj)) :=
 (Fx.seq ((Fx.get x0.bk.l x1.dst).bind fun c2=>((Sh.fD x0 x1).bind fun c3=>(some (inl (c2,c3))))) fun(c0,c1)=>Sh.mM x0 x1 c0 c1)
def Sh.qD(x1:b9)(c0:Bool):Option ((Int⊕(Bool⊕(Int×Int)))) :=
 (bif c0 then(some (inl (IntKind.i64.wrap (x1.op+4))))else(some (inl x1.op)))
def Sh.qC(c0:ak)(c1:ak)(c2:Int):Option ((Bool⊕(Int×Int))) :=
 ((Sh.xC c2 false c0.x c1.x).bind fun c3=>(some (inl c3)))
def Sh.qE(x1:b9)(c0:Bool):Option ((Bool⊕(Int×Int))) :=
 (bif c0 then(some (inl (decide (x1.op=28))))else(some (inr (0,80))))
def Sh.qB(x1:b9)(c0:ak)(c1:ak)(c2:Bool):Option ((Bool⊕(Int×Int))) :=
 (bif c2 then(Fx.seq (Fx.seq (bif (decide (29≤x1.op))then(some (inl (decide (x1.op≤32))))else(some (inl false))) fun c4=>Sh.qD x1 c4) fun c3=>Sh.qC c0 c1 c3)else(Fx.seq (bif (decide (c0.kind=5))then(bif (!x1.reg)then(bif (decide (x1.k_=0))then(bif (decide (x1.op=27))then(some (inl true))else(some (inl (decide (x1.op=28)))))else(some (inl false)))else(some (inl false)))else(some (inl false))) fun c5=>Sh.qE x1 c5))
def Sh.qA(x1:b9)(c0:ak)(c1:ak)(c2:Bool):Option ((Bool⊕(Int×Int))) :=
 (bif c2 then(some (inr (0,80)))else(Fx.seq ((Sh.wL c0 c1).bind fun c4=>(bif c4 then(some (inl (!decide (x1.op=37))))else(some (inl false)))) fun c3=>Sh.qB x1 c0 c1 c3))
def Sh.pZ(x1:b9)(c0:ak)(c1:ak)(c2:Bool):Option ((Bool⊕(Int×Int))) :=
 (bif c2 then((Sh.xC x1.op x1.narrow c0.x c1.x).bind fun c4=>(some (inl c4)))else(Fx.seq (bif x1.narrow then(some (inl true))else(bif (decide (c0.kind=0))then(some (inl true))else(some (inl (decide (c1.kind=0)))))) fun c3=>Sh.qA x1 c0 c1 c3))
def Sh.pY(x1:b9)(c0:Bool):Option ((Int×Int)) :=
 (bif c0 then(some (x1.off,0))else(some (0,0)))
def Sh.pX(x1:b9)(c0:ak)(c1:ak):Option ((Int×Int)) :=
 (Fx.seq (Fx.seq ((Sh.cF c0).bind fun c4=>(bif c4 then((Sh.cF c1).bind fun c5=>(some (inl c5)))else(some (inl false)))) fun c3=>Sh.pZ x1 c0 c1 c3) fun c2=>Sh.pY x1 c2)
def Sh.gX(x0:aj)(x1:b9):Option ((Int×Int)) :=
 (Fx.seq ((Fx.get x0.bk.l x1.dst).bind fun c2=>((Sh.fD x0 x1).bind fun c3=>(some (inl (c2,c3))))) fun(c0,c1)=>Sh.pX x1 c0 c1)
def Sh.nW(x0:List (List UInt8))(c1:List (List UInt8))(c0:Int):Option (((List (List UInt8)×Int)⊕(List (List UInt8)⊕List (List UInt8)))) :=
 (bif (decide (c0<(x0.length:Int)))then((Fx.get x0 c0).bind fun c2=>((Sh.aM c2).bind fun c4=>((Fx.app 24 c1 [c4]).bind fun c3=>(some (inl (c3,(IntKind.i64.wrap (c0+1))))))))else(some (inr (inl c1))))
def Sh.JM(c0:List (List UInt8)):Option (List (List UInt8)) :=
 (some c0)
def Sh.iH(x0:List (List UInt8)):Option (List (List UInt8)) :=
 (Fx.seq (Fx.loop (fun(c1,c2)=>Sh.nW x0 c1 c2) ([],0)) fun c0=>Sh.JM c0)
def Sh.bG(x0:aj):Option bj :=
 ((Sh.aM x0.ae.b_).bind fun Vl=>((Sh.iH x0.ae.ah).bind fun Gh=>((Sh.bH x0.bf).bind fun Vp=>(some (bj.mk x0.bk x0.ae.bp Vl Gh Vp x0.at_ x0.steps x0.done)))))
end Go.Proofs
end
section
namespace Go.Proofs
open Go Go.Fw Go.Fx
set_option maxRecDepth 10000
noncomputable def Sh.JK(x0:fg):Option (List Int) :=
 (some [2,4,1,0,0])
noncomputable def Sh.JL(x0:fg):Option dm :=
 (some (dm.mk x0.least x0.most false false))
noncomputable def Sh.JI(x0:fM):Option (List Int) :=
 (some [3,x0.from_,4,0,0])
noncomputable def Sh.Nz(x0:fM):Option dm :=
 (some dm.zero)
noncomputable def Sh.rZ(x0:dc)(v157:List Int)(v160:Int):Option (((List Int×Int)⊕(List Int⊕List Int))) :=
 (bif (decide (v160<x0.many))then((Fx.get v157 v160).bind fun Rl=>(some (inl ((v157.set (v160:Int).toNat 1),(IntKind.i64.wrap (v160+1))))))else(some (inr (inl v157))))
noncomputable def Sh.Gv(v138:List Int):Option (List Int) :=
 (some v138)
noncomputable def Sh.jH(x0:dc):Option (List Int) :=
 ((Fx.mk 8 (0:Int) 5).bind fun Va=>(Fx.seq (Fx.loop (fun(v157,v160)=>Sh.rZ x0 v157 v160) (Va,0)) fun v138=>Sh.Gv v138))
noncomputable def Sh.Ny(x0:dc):Option dm :=
 (some x0.span)
noncomputable def Sh.aDp(si:Int)(yz:Int):Option ((Int⊕((Int×Int)⊕(Int⊕Int)))) :=
 (bif (decide (65535<(IntKind.i64.wrap (si+yz))))then(some (inl (IntKind.i64.wrap ((IntKind.i64.wrap (si+yz))-65535))))else(some (inl (IntKind.i64.wrap (si+yz)))))
noncomputable def Sh.aG3(sj:Int)(A8:Int):Option (((Int×Int)⊕(Int⊕Int))) :=
 (some (inl (A8,(IntKind.i64.wrap (sj+2)))))
noncomputable def Sh.xQ(x0:List UInt8)(si:Int)(sj:Int):Option (((Int×Int)⊕(Int⊕Int))) :=
 (bif (decide (sj<(x0.length:Int)))then(Fx.seq ((Fx.get x0 sj).bind fun HW=>(Fx.seq (bif (decide ((IntKind.i64.wrap (sj+1))<(x0.length:Int)))then((Fx.get x0 (IntKind.i64.wrap (sj+1))).bind fun Nl=>(some (inl (v8 .i64 (shl .i64 (HW.toNat:Int) (8:Int).toNat) (Nl.toNat:Int)))))else(some (inl (shl .i64 (HW.toNat:Int) (8:Int).toNat)))) fun yz=>Sh.aDp si yz)) fun A8=>Sh.aG3 sj A8)else(some (inr (inl si))))
noncomputable def Sh.IB(A7:Int):Option Int :=
 (some A7)
noncomputable def Sh.aGa(x0:List UInt8)(x1:Int):Option Int :=
 (Fx.seq (Fx.loop (fun(si,sj)=>Sh.xQ x0 si sj) ((i_ .i64 x1 65535),0)) fun A7=>Sh.IB A7)
noncomputable def Sh.aIw(x0:Int)(x1:Int):Option Int :=
 (some (IntKind.i64.wrap (ua .u64 (IntKind.u64.wrap ((ua .u64 (ua .u64 (IntKind.u64.wrap x0) (IntKind.u64.wrap ((IntKind.u64.wrap x1)*14437167314951722571))) (shr .u64 (ua .u64 (IntKind.u64.wrap x0) (IntKind.u64.wrap ((IntKind.u64.wrap x1)*14437167314951722571))) (29:Int).toNat))*10320681969465668653)) (shr .u64 (IntKind.u64.wrap ((ua .u64 (ua .u64 (IntKind.u64.wrap x0) (IntKind.u64.wrap ((IntKind.u64.wrap x1)*14437167314951722571))) (shr .u64 (ua .u64 (IntKind.u64.wrap x0) (IntKind.u64.wrap ((IntKind.u64.wrap x1)*14437167314951722571))) (29:Int).toNat))*10320681969465668653)) (32:Int).toNat))))
end Go.Proofs
end
