/- own texts, made small by a tool (wip/ holds them as they were written): no statement of the seat. -/
import Derived.Test.YtikkpokkcdocoabGreatDoorWe
set_option linter.defProp false
set_option linter.unusedVariables false
set_option linter.unusedSimpArgs false
set_option linter.unnecessarySimpa false
open Array renaming getElem?_eq_some_iff→j4
open Bool renaming not_true→Y7,not_false→W3,and_eq_true→V5,true_and→U8
open Decidable renaming not_not→Z9
open Go renaming Value→x1,World→x3,TypeId→p9,IntKind→o7,FuncId→R7
open Go.Builtin renaming len_→V0
open Go.Instr renaming loadAt→u5,fieldAt→u6,storeAt→o8,indexAt→j9,alloc→Q1
open Go.IntKind renaming i64→X6,u64→U6
open Go.Proofs.Tryz renaming prog→x7
open Int renaming toNat_natCast→u7,eq_ofNat_of_zero_le→X7
open List renaming getElem?_eq_some_iff→x4,mem_of_getElem?→x5,getElem?_eq_getElem→x6,getElem?_map→x8,getD_eq_getElem?_getD→u4,take_add_one→u9,length_map→r8,length_append→r9,mem_append→o5,take_length→o6,mem_singleton→o9,length_take→l9,mem_map→j5,eq_nil_of_length_eq_zero→j6,getElem?_set_self→c8,length_set→c9,length_cons→b6,take_of_length_le→b8,getElem?_eq_none→Z2,map_append→Z4,range→Y1,getElem?_set_ne→Y2,ext_getElem?→Y4,append_nil→W6,length_eq_one_iff→W9,mem_cons→V2,map_set→U5,map_cons→U7,length_singleton→T2,foldl_cons→T5,mem_range→T8,mem_of_mem_take→T9,length→S5,foldl_append→S6,mem_flatMap→R2,length_filter_le→R5
open Nat renaming le_refl→o4,le_trans→Y9,zero_add→X2,mul_one→U2,add_mul→U3,pow_le_pow_right→S2,lt_of_lt_of_le→Q2,eq_zero_or_pos→Q3
open Option renaming toList_some→n9,some→c7,isNone_some→Z5,map_some→Z6,getD_some→V4,isSome_some→T6,isSome_none→R3
open Option.some renaming inj→b9,injEq→Y3
open Prod.mk renaming injEq→T1
set_option maxHeartbeats 16000000
open Option renaming some→σ,none→ν
variable{a k v:Int}{j l pos:Nat}{V aa w:x3}{pl:Λ}
namespace Go.Proofs.YtikkpokkcdocoabGreatDoor
open Go Go.Vc Go.RowKit Go.Proofs Go.Proofs.Tryz
set_option maxRecDepth 100000
def r0(t:aD):Prop:=∀m,t.marks.getLast? =σ m->m.olds+t.cells.length<100000000/\t.olds.length<=m.olds+t.cells.countP λc=>decide (c.st=m.st)
def fE(aB:List aD)(t:aD):Prop:=hM t aB/\r0 t
def hM.m{t:aD}(h:hM t []):fE [] t:=⟨h,λm hm=>by rw[h.1]at hm;cases hm⟩
def fE.room{aB:List aD}{t:aD}(h:fE aB t):Room t:=by
 cases hm:t.marks.getLast? with
 |none=>exact .inl (List.getLast?_eq_none_iff.1 hm)
 |some m=>
  have⟨h1,a⟩:=h.2 m hm;have:=List.countP_le_length (p:=λc:Cell=>decide (c.st=m.st)) (l:=t.cells);exact .inr Ω
def r0.set{t:aD}{i:Nat}{x:Int}(h:r0 t):r0 (t.set i x):=by
 unfold aD.set;cases e:t.cells[i]? with
 |none=>exact h
 |some c=>
  have⟨f,q⟩:=x4.1 e;cases hm:t.marks.getLast? with
  |none=>
   intro m a;have a:t.marks.getLast? =σ m:=a;rw[hm]at a;cases a
  |some m=>
   have⟨h1,r⟩:=h m hm;simp only;split
   .rename_i s;intro b2 a;have a:t.marks.getLast? =σ b2:=a;rw[hm]at a;cases a;show m.olds+(t.cells.set i _).length<_/\(t.olds++[_]).length<=m.olds+(t.cells.set i _).countP _;rw[c9,List.countP_set f,q,r9,T2,if_neg (by rw[decide_eq_true_eq];omega),if_pos Ξ];exact⟨h1,Ω⟩
   .intro b2 a;have a:t.marks.getLast? =σ b2:=a;rw[hm]at a;cases a;show m.olds+(t.cells.set i _).length<_/\t.olds.length<=m.olds+(t.cells.set i _).countP _;rw[c9,List.countP_set f,q];refine⟨h1,?_⟩;by_cases U:c.st=m.st
    .have:=List.countP_pos_iff (p:=λc:Cell=>decide (c.st=m.st)).2 ⟨c,x5 e,decide_eq_true U⟩;rw[if_pos (decide_eq_true U)];omega
    .rw[if_neg (by rw[decide_eq_true_eq];exact U)];omega
def fE.set{aB:List aD}{t:aD}{i:Nat}{x:Int}(h:fE aB t):fE aB (t.set i x):=⟨h.1.set,h.2.set⟩
def eJ(aB:List aD)(w:x3)(af gT:Nat)(A R:ak)(n:aG)(s':ap)(w':x3):Prop:=ai (ew w) w w'/\Laid w'/\∃aR bt,Grow A w aR w'/\bx w' af gT aR R n s' bt/\fE aB bt/\¬aR 0
def fF(aB:List aD)(w:x3)(af gT:Nat)(A R:ak)(n:aG)(m:Nat)(D:Nat->Prop)(s':ap)(w':x3):Prop:=
 ai (λr=>ew w r\/w.heap.size<=r) w w'/\(Laid w'/\w.heap.size<=m/\0<w.heap.size/\(∀r,A r\/R r->r<w.heap.size))/\∃aR bt,Grow A w aR w'/\bx w' af gT aR R n s' bt/\(fE aB bt/\¬aR 0)/\∀r,aR r->r<m\/D r
section
variable{aB:List aD}{w V aa:x3}{af gT m:Nat}{A R:ak}{n:aG}{s s' oT:ap}{t:aD}{D D' S:Nat->Prop}
def fF.start(h:bx w af gT A R n s t)(e:Laid w)(f:¬A 0)(p:fE aB t)(J:Ext w V)(hm:w.heap.size<=m):fF aB w af gT A R n m D s V:=
 ⟨J.ab _,⟨e.ext J,hm,by
  have⟨x,y,z,B,⟨h1,_,_,q⟩,_⟩:=h.1;have:=q _ h1;omega,λr a=>h.lt a⟩,A,t,Grow.ext J,h.ext J,⟨p,f⟩,λr a=>.inl (by have:=h.lt (.inl a);omega)⟩
def fF.own(h:fF aB w af gT A R n m D s' V)(e:ai S V aa)(f:∀r,S r->m<=r/\¬D r):fF aB w af gT A R n m D s' aa:=by
 have⟨h1,⟨x,y,z,p⟩,aR,bt,⟨g1,B,C⟩,q,E,s⟩:=h;refine⟨h1.trans (e.mono λr _ h=>.inr (by have:=(f r h).1;omega)),⟨jw e (λh=>by have:=(f _ h).1;omega) x,y,z,p⟩,aR,bt,⟨?_,B,C⟩,⟨q.1.ab e λr _ a U=>?_,q.2⟩,E,s⟩
 .exact ((g1.mono λr _ h=>.inl h).trans (e.mono λr _ h=>.inr (f r h).1):ai (λr=>A r\/m<=r) w aa).mono λr a h=>h.elim id λh=>Ω
 .obtain⟨G,F⟩:=f r U;rcases a with a|a
  .exact (s r a).elim Ω F
  .have:=p r (.inr a);omega
def fF.ext(h:fF aB w af gT A R n m D s' V)(J:Ext V aa):fF aB w af gT A R n m D s' aa:=h.own (J.ab λ_=>False) λ_ h=>h.elim
def fF.Rv(h:fF aB w af gT A R n m D s' V):∃aR bt,bx V af gT aR R n s' bt/\fE aB bt/\¬aR 0/\∀{aa:x3}{oT:ap}{D' a:Nat->Prop}{p:aD},ai (ew V) V aa->Grow aR V a aa->bx aa af gT a R n oT p->fE aB p->(∀r,D r->D' r)->(∀r,V.heap.size<=r->r<aa.heap.size->D' r)->
  fF aB w af gT A R n m D' oT aa/\ai (λr=>r<m\/D r) V aa/\∀r,a r->r<m\/D' r:=by
 have⟨h1,⟨z,B,C,E⟩,aR,bt,F,G,q,s⟩:=h;refine⟨aR,bt,G,q.1,q.2,λ{aa oT D' a p}H e x I J K=>?_⟩;have:=h1.size;have L:¬a 0:=λh=>(e.2.1 0 h).elim q.2 λh=>Ω
 have y:∀r,a r->r<m\/D' r:=λr f=>(e.2.1 r f).elim (λh=>(s r h).imp id (J r)) λh=>.inr (K r h (x.lt (.inl f)));refine⟨⟨h1.trans (H.mono λr _ h=>?_),⟨jw e.1 q.2 z,B,C,E⟩,a,p,F.trans e,x,⟨I,L⟩,y⟩,e.1.mono λr _ h=>s r h,y⟩;by_cases f:w.heap.size<=r
 .exact .inr f
 .exact .inl (nn (λo M U N=>h1.a6 r o M U λh=>h.elim N f) h)
def fF.open(h:fF aB w af gT A R n m D s' V):∃aR bt,bx V af gT aR R n s' bt/\fE aB bt/\∀{aa:x3}{oT:ap}{D' e:Nat->Prop}{f:aD},ai (ew V) V aa->Grow aR V e aa->bx aa af gT e R n oT f->fE aB f->(∀r,D r->D' r)->(∀r,V.heap.size<=r->r<aa.heap.size->D' r)->
  fF aB w af gT A R n m D' oT aa/\ai (λr=>r<m\/D r) V aa/\∀r,e r->r<m\/D' r:=by
 have⟨aR,bt,a,b,_,d⟩:=h.Rv;exact⟨aR,bt,a,b,d⟩
def fF.done(h:fF aB w af gT A R n m D s' V)(J:Ext V aa):eJ aB w af gT A R n s' aa:=by
 have⟨h1,⟨e,q,s,x⟩,aR,bt,f,p,a,y⟩:=h.ext J;exact⟨h1.mono λr z h=>h.elim id λh=>Ω,e,aR,bt,f,p,a.1,a.2⟩
end
section
variable{aB:List aD}{w:x3}{af gT:Nat}{A R:ak}{n:aG}{s:ap}{t:aD}
def oU{u:Nat}{x:bC}(a:bi n.k n.sizes s)(J:s.vars[u]?=σ x)(ad:v∈aC x):fB n (u:Int) v:=by
 have:=(x4.1 J).1;have:=a.vars;have⟨z,e⟩:=aH (l:=n.sizes) (i:=u) Ω;have:=(a.var _ x z J e).1;have:=a.fz.2.2 z (x5 e);have f:=(gg.1 ad).1;refine⟨Ω,Ω,f.1,?_⟩;rw[u7,u4,e,V4];omega
def Fr{sizes:Λ}{f:bU}{g:Int->Int}(a:bi k sizes s)(ae:s.funs[j]?=σ f):dS s j f (dH g [] f.aj f.cs)=s:=by
 have⟨p,q⟩:=ko a (x5 ae);rw[QU p Ω (λ_ h=>absurd h List.not_mem_nil)];have:s.funs.set j f=s.funs:=by
  apply Y4;intro i;by_cases e:j=i
  .subst e;rw[c8 (x4.1 ae).1,ae]
  .rw[Y2 e]
 unfold dS;show{s with funs:=s.funs.set j f}=s;rw[this]
def Fs{u:Nat}{c:Int}{f:bU}{x:bC}{F1 F2:R7}{tup un:Int->Int}(h:bx w af gT A R n s t)(aP:Laid w)(bj:¬A 0)(bk:fE aB t)(ae:s.funs[j]?=σ f)(bm:f.live≠0)(hu:f.sc[pos]?=σ (u:Int))(J:s.vars[u]?=σ x)(ad:v∈aC x)(h1:∀tl∈bP s f.sc pos v,(0<=tup (bl f.aj f.cs tl)/\tup (bl f.aj f.cs tl)<=n.k)/\∀{w:x3}{A:ak}{s:ap}{t:aD},bx w af gT A R n s t->am x7 F1 [Γ af,Δ (bl f.aj f.cs tl),Δ c] w λr w'=>r=Δ (tup (bl f.aj f.cs tl))/\Ext w w')(aQ:(0<=un (x.un.getD v.toNat 0)/\un (x.un.getD v.toNat 0)<=n.k)/\∀{w:x3}{A:ak}{s:ap}{t:aD},bx w af gT A R n s t->am x7 F2 [Γ af,Δ (x.un.getD v.toNat 0),Δ c] w λr w'=>r=Δ (un (x.un.getD v.toNat 0))/\Ext w w'):
  am x7 In [.agg #[.func (.func F1) #[] #[],.func (.func F2) #[] #[]],Γ af,Δ (j:Int),Δ (pos:Int),Δ v,Δ c] w λ_ w'=>eJ aB w af gT A R n (jl s j f pos u x v tup un) w':=by
 have C:=h.2.2.2.1;have Z:=x5 ae;have⟨ac,b6,_⟩:=C.funs f Z;have aS:∀u',f.sc[pos]?=σ u'->v∈bg s u':=λu' aT=>by
  rw[hu]at aT;cases aT;unfold bg;rw[u7,J];exact ad
 have bq:=Ff C Z aS;apply hG func144;refine bd λbr V b7 aU N=>?_;refine bd λg1 aa b9 al a=>?_;refine bd λbt ca cb W z=>?_;refine bd λbu y cc X O=>?_;have N:ag y br qE [.func (.func F1) #[] #[],.func (.func F2) #[] #[]]:=((ag.ext N al).ext W).ext X;have a:ag y g1 dd [Γ af]:=(ag.ext a W).ext X;have z:ag y bt ah [Δ (j:Int)]:=ag.ext z X;have O:ag y bu aq [Δ c]:=O;have ao:=((aU.trans al).trans W).trans X;have:=aU.size;have:=al.size;have:=W.size;have:=ao.size;have aV:=N.lt;have E:=a.lt;have aW:=z.lt;have aX:=O.lt;rw[ax (v:=Γ af) Ψ (a.Qz T),ax (v:=Δ (j:Int)) Ψ (z.Qz T)];apply(kZ (h.ext ao) ae).mono;rintro ch ci _ ⟨bw,_,_,bz⟩;rw[bc an.u ah.i Ψ bz.ls hu];intro cj bA _ _;have G:=bw.trans bA;have au:=ao.trans G;have:=G.size;rw[ax (v:=Γ af) Ψ ((a.ext G).Qz T),ax (v:=Γ af) Ψ ((a.ext G).Qz T),ax (v:=Δ (j:Int)) Ψ ((z.ext G).Qz T)];refine Fp (h.ext au) (aP.ext au) ae λaK gs bH bn a1 aY av bB bD=>?_;have:=av.size;have bE:=G.trans av;refine⟨Nat,true,false,mb,#[Γ bH,Γ bn,Γ a1,Γ gs],0,_,_,_,
  λD k w'=>fF aB w af gT A R n w.heap.size D (dS s j f (dH tup ((bP s f.sc pos v).take k) f.aj f.cs)) w'/\(ai (λr=>r<w.heap.size\/aY.heap.size<=r) y w'/\aY.heap.size<=w'.heap.size),
  λ_ _ _ _=>False,T,Fm (λu hu=>⟨(ac.scope.1 u hu).1,ac.vars u hu⟩) ac.scope.2,?_,λ_ _ _ J h=>h.ext J,?_,λ_ _ _ _ _ _ _ h=>h,bD,?_,?_,?_,λ_ _ _ h=>h.elim,λ_ _ _ _ h=>h.elim⟩
 .rintro _ _ _ _ ⟨_,_,_,_,rfl,_⟩;rfl
 .rintro D k cl cm P cn ⟨H,I,aw⟩;exact⟨H.own P λr q=>⟨Ω,q.2.2⟩,I.trans (P.mono λr _ h=>.inr h.2.1),Y9 aw P.size⟩
 .refine⟨?_,bE.ab _,o4 _⟩;have e:dS s j f (dH tup ((bP s f.sc pos v).take 0) f.aj f.cs)=s:=Fr C ae;rw[e];exact fF.start h aP bj bk (au.trans av) (o4 _)
 .rintro aM D k cp ay aZ cq bF ⟨rfl,tl,cr,az,e,a2⟩ ⟨H,I,aw⟩;cases e;intro ct Q _ bG;have⟨m,hm⟩:=oS C Z aS (x5 az);have⟨bI,bJ⟩:=Fh (g:=tup) C ae bq az hm;have⟨⟨bK,bL⟩,bM⟩:=h1 tl (x5 az);have a6:∀{S:x3}{g:Nat}{e:p9}{cs:List x1},Ext ay S->w.heap.size<=g->g<y.heap.size->ag y g e cs->ag S g e cs:=λJ K aA aE=>(aE.ab I Ω).ext J;have bN:=(x4.1 ae).1;have a7:(dS s j f (dH tup ((bP s f.sc pos v).take k) f.aj f.cs)).funs[j]?=σ {f with cs:=dH tup ((bP s f.sc pos v).take k) f.aj f.cs}:=c8 bN;have⟨K,P⟩:=Fq (tl:=tl) a7 bm hm;have⟨A9,t9,aF,a8,aG⟩:=H.open;rw[ax (v:=Γ af) Ψ ((a6 Q Ω E a).Qz T),ax (v:=Δ (j:Int)) Ψ ((a6 Q Ω aW z).Qz T)];apply(xH (j:=j) (aF.ext Q) (a2.ext Q)).mono;rintro _ cu bO ⟨rfl,bQ⟩;rw[if_pos K,P,bo,bp];intro bR bS _ bT;have B:=(Q.trans bQ).trans bS;rw[ax (v:=Γ af) Ψ ((a6 B Ω E a).Qz T),ax (v:=Δ (j:Int)) Ψ ((a6 B Ω aW z).Qz T),
   aL qE.p 0 (a6 B Ω aV N) T,ax (v:=Γ af) Ψ ((a6 B Ω E a).Qz T),ax (v:=Δ c) Ψ ((a6 B Ω aX O).Qz T)]
  show am x7 F1 [Γ af,Δ (bl f.aj (dH tup ((bP s f.sc pos v).take k) f.aj f.cs) tl),Δ c] bR _;rw[bI];apply(bM (aF.ext B)).mono;rintro _ cw bV ⟨rfl,ba⟩;have U:=B.trans ba;refine⟨.inl ba,(PV (j:=j) (aF.ext U) a8.room (a2.ext U)).mono ?_⟩;rintro r bb bW ⟨_,_,aH⟩;have⟨_,Y,aR,bX,bY,aI,L⟩:=aH K ⟨bK,bL⟩ _ m a7 hm;rw[bJ]at L;have:=U.size;have:=Y.size;have⟨be,aJ,bZ⟩:=aG (D':=λr=>D r\/ay.heap.size<=r/\r<bb.heap.size) (kf U Y) ((Grow.ext U).trans aI) L a8.set (λr h=>.inl h) λr K aA=>.inr ⟨K,aA⟩;refine⟨⟨λr=>D r\/ay.heap.size<=r/\r<bb.heap.size,λr h=>h,λr h=>.inl h,?_,be,I.trans (aJ.mono λr _ h=>h.imp id λh=>(aZ r h).1),Ω⟩,bG.trans ((((bO.trans bT).trans bV).trans bW).kw),aJ.mono λr _ h=>h.imp (λh=>Ω) id⟩;refine bF.put aJ bB (λr q=>?_) be.2.1.1 L (λ_=>rfl) λr q=>?_
  .rcases q with q|q
   .exact .inl Ω
   .exact .inr (aZ r q).1
  .rcases q with q|q
   .exact (bZ r q).imp (λh=>Ω) id
   .exact .inl (by have:=h.lt (.inr q);omega)
 .rintro D k b0 rfl ⟨H,I,aw⟩;rw[b8 (o4 _)]at H;have bf:=oU C J ad;have⟨cB,cC,aN,bh,aG⟩:=H.open;have a6:∀{S:x3}{g:Nat}{e:p9}{cs:List x1},Ext b0 S->w.heap.size<=g->g<y.heap.size->ag y g e cs->ag S g e cs:=λJ K aA aE=>(aE.ab I Ω).ext J;rw[ax (v:=Γ af) Ψ ((a6 (Ext.refl _) Ω E a).Qz T)];apply(p2 (i:=(u:Int)) (v:=v) aN).mono;rintro _ cD _ ⟨rfl,b1⟩;have b2:iN (dS s j f (dH tup (bP s f.sc pos v) f.aj f.cs)) (u:Int).toNat v.toNat=x.un.getD v.toNat 0:=by
   unfold iN;rw[u7,show(dS s j f (dH tup (bP s f.sc pos v) f.aj f.cs)).vars[u]?=σ x from J]
  rw[if_pos bf,b2,bo,bp];intro b3 b4 _ _;have M:=b1.trans b4;rw[ax (v:=Γ af) Ψ ((a6 M Ω E a).Qz T),aL qE.p 1 (a6 M Ω aV N) T,ax (v:=Γ af) Ψ ((a6 M Ω E a).Qz T),ax (v:=Δ c) Ψ ((a6 M Ω aX O).Qz T)];show am x7 F2 [Γ af,Δ (x.un.getD v.toNat 0),Δ c] b3 _;apply(aQ.2 (aN.ext M)).mono;rintro _ cE _ ⟨rfl,bi⟩;have aO:=M.trans bi;refine⟨.inl bi,(Et (i:=(u:Int)) (v:=v) (aN.ext aO) bh.room).mono ?_⟩;rintro r cF _ ⟨_,_,aH⟩;have⟨_,Y,aR,bX,bY,aI,L⟩:=aH bf aQ.1;have e:kX (dS s j f (dH tup (bP s f.sc pos v) f.aj f.cs)) (u:Int).toNat v.toNat (un (x.un.getD v.toNat 0))=jl s j f pos u x v tup un:=by
   unfold kX jl eI;rw[u7,show(dS s j f (dH tup (bP s f.sc pos v) f.aj f.cs)).vars[u]?=σ x from J]
  rw[e]at L;intro cG b5 _;exact(aG (D':=λ_=>True) (kf aO Y) ((Grow.ext aO).trans aI) L bh.set (λ_ _=>trivial) λ_ _ _=>trivial).1.done b5
end
def r1(h e:Nat){a:Nat}(f:l<256)(hm:a<256):(256*h+l) &&& (256*e+a)=256*(h &&& e)+(l &&& a):=by
 have p:l &&& a<2 ^ 8:=Nat.and_lt_two_pow _ hm;apply Nat.eq_of_testBit_eq;intro i;rw[Nat.testBit_and,show 256=2 ^ 8 from T,Nat.testBit_two_pow_mul_add _ f,Nat.testBit_two_pow_mul_add _ hm,Nat.testBit_two_pow_mul_add _ p];split
 .rw[Nat.testBit_and]
 .rw[Nat.testBit_and]
def hf(m x:Nat):Nat:=(x / 2 &&& m)+(x &&& m)
def h4(m x:Nat):Nat:=(x / 4 &&& m)+(x &&& m)
def jP(m x:Nat):Nat:=(x / 16+x) &&& m
def c0(a:Nat):Nat:=jP 15 (h4 51 (hf 85 a))
def Rw:∀e<2,∀l<256,(128*e+l / 2) &&& 85=l / 2 &&& 85:=by decide+kernel
def Rx:∀e<4,∀l<256,(64*e+l / 4) &&& 51=l / 4 &&& 51:=by decide+kernel
def Ry:∀e<5,∀l<69,(16*e+l / 16+l) &&& 15=(l / 16+l) &&& 15:=by decide+kernel
def nE:∀l<256,hf 85 l<256/\h4 51 (hf 85 l)<69/\h4 51 (hf 85 l) % 16<5/\c0 l<=8/\(c0 l=0->l=0):=by decide+kernel
def uO(h a:Nat)(e:l<256):hf (256*a+85) (256*h+l)=256*hf a h+hf 85 l:=by
 unfold hf;rw[show(256*h+l) / 2=256*(h / 2)+(128*(h % 2)+l / 2) by omega,r1 _ _ Ω Ω,r1 _ _ e Ω,Rw _ Ω _ e];omega
def uP(h a:Nat)(e:l<256):h4 (256*a+51) (256*h+l)=256*h4 a h+h4 51 l:=by
 unfold h4;rw[show(256*h+l) / 4=256*(h / 4)+(64*(h % 4)+l / 4) by omega,r1 _ _ Ω Ω,r1 _ _ e Ω,Rx _ Ω _ e];omega
def uQ(h a:Nat)(e:l<69)(he:h % 16<5):jP (256*a+15) (256*h+l)=256*jP a h+jP 15 l:=by
 unfold jP;rw[show(256*h+l) / 16+(256*h+l)=256*(h / 16+h)+(16*(h % 16)+l / 16+l) by omega,r1 _ _ Ω Ω,Ry _ he _ e]
def four(a b c d:Nat):Nat:=256*(256*(256*d+c)+b)+a
def Rz{a b c d:Nat}(e:a<256)(f:b<256)(h:c<256)(p:d<256):hf 6148914691236517205 (four a b c d)=four (hf 85 a) (hf 85 b) (hf 85 c) (hf 85 d):=by
 unfold four;rw[show 6148914691236517205=256*(256*(256*(256*1431655765+85)+85)+85)+85 from T,uO _ _ e,uO _ _ f,uO _ _ h];have:=uO 0 1431655765 p;rw[show 256*0+d=d by omega,show hf 1431655765 0=0 from by unfold hf;simp]at this;rw[this,Nat.mul_zero,X2]
def RA{a b c d:Nat}(e:a<256)(f:b<256)(h:c<256)(p:d<256):h4 3689348814741910323 (four a b c d)=four (h4 51 a) (h4 51 b) (h4 51 c) (h4 51 d):=by
 unfold four;rw[show 3689348814741910323=256*(256*(256*(256*858993459+51)+51)+51)+51 from T,uP _ _ e,uP _ _ f,uP _ _ h];have:=uP 0 858993459 p;rw[show 256*0+d=d by omega,show h4 858993459 0=0 from by unfold h4;simp]at this;rw[this,Nat.mul_zero,X2]
def RB{a b c d:Nat}(e:a<69)(f:b<69/\b % 16<5)(h:c<69/\c % 16<5)(p:d<69/\d % 16<5):jP 1085102592571150095 (four a b c d)=four (jP 15 a) (jP 15 b) (jP 15 c) (jP 15 d):=by
 unfold four;rw[show 1085102592571150095=256*(256*(256*(256*252645135+15)+15)+15)+15 from T,uQ _ _ e Ω,uQ _ _ f.1 Ω,uQ _ _ h.1 Ω];have:=uQ 0 252645135 p.1 Ω;rw[show 256*0+d=d by omega,show jP 252645135 0=0 from by unfold jP;simp]at this;rw[this,Nat.mul_zero,X2]
def r2(x:Nat):Nat:=c0 (x % 256)+c0 (x / 256 % 256)+c0 (x / 65536 % 256)+c0 (x / 16777216)
def RC{x:Nat}(h:x<4294967296):r2 x=0↔x=0:=by
 constructor
 .intro a;unfold r2 at a;have:=(nE (x % 256) Ω).2.2.2.2 Ω;have:=(nE (x / 256 % 256) Ω).2.2.2.2 Ω;have:=(nE (x / 65536 % 256) Ω).2.2.2.2 Ω;have:=(nE (x / 16777216) Ω).2.2.2.2 Ω;omega
 .rintro rfl;decide
def RD{x:Nat}(J:x<4294967296):am x7 Jh [.int .u64 (x:Int)] w λv w'=>v=Δ (r2 x:Int)/\Ext w w':=by
 obtain⟨a,b,c,d,H,I,L,M,e,S,U,V,W⟩:∃a b c d,a<256/\b<256/\c<256/\d<256/\x=four a b c d/\a=x % 256/\b=x / 256 % 256/\c=x / 65536 % 256/\d=x / 16777216:=
  ⟨x % 256,x / 256 % 256,x / 65536 % 256,x / 16777216,Ω,Ω,Ω,Ω,by unfold four;omega,T,T,T,T⟩
 have⟨X,Y,a3,a4,_⟩:=nE a H;have⟨Z,aa,ab,ap,_⟩:=nE b I;have⟨ad,ae,af,aq,_⟩:=nE c L;have⟨d1,d2,d3,d4,_⟩:=nE d M;have g1:=Rz H I L M;have N:=RA X Z ad d1;have ag:=RB Y ⟨aa,ab⟩ ⟨ae,af⟩ ⟨d2,d3⟩;have ai:r2 x=c0 a+c0 b+c0 c+c0 d:=by unfold r2;rw[<-S,<-U,<-V,<-W]
 rw[<-e]at g1;have aj:hf 6148914691236517205 x<4294967296:=by rw[g1];unfold four;omega
 have O:h4 3689348814741910323 (hf 6148914691236517205 x)<4294967296:=by rw[g1,N];unfold four;omega
 have B:jP 1085102592571150095 (h4 3689348814741910323 (hf 6148914691236517205 x))=four (c0 a) (c0 b) (c0 c) (c0 d):=by rw[g1,N,ag];rfl
 have ak:four (c0 a) (c0 b) (c0 c) (c0 d)<4294967296:=by unfold four;omega
 apply az func223;have A:∀{t:p9}{cx cy:Bool}{K:x1->Prop}(p q:Nat),p+q<18446744073709551616->ac x7 (aO .add t cx cy (.int .u64 (p:Int)) (.int .u64 (q:Int))) w K=K (.int .u64 ((p+q:Nat):Int)):=λp q h=>by
  rw[aN,wrap_u64 Ω Ω];rfl
 have small:∀(p m:Nat),p &&& m<=p:=λp m=>Nat.and_le_left;rw[show(1:Int)=((1:Nat):Int)from T,lq Ω,show(6148914691236517205:Int)=((6148914691236517205:Nat):Int)from T,u64_and Ω Ω,u64_and Ω Ω,A (x / 2 ^ 1 &&& 6148914691236517205) (x &&& 6148914691236517205) (by exact Nat.lt_of_le_of_lt (Nat.add_le_add (small _ _) (small _ _)) Ω)];obtain⟨y,C⟩:∃y,(x / 2 ^ 1 &&& 6148914691236517205)+(x &&& 6148914691236517205)=y:=⟨_,T⟩;rw[C];have C:hf 6148914691236517205 x=y:=C;rw[C]at aj O B;rw[show(2:Int)=((2:Nat):Int)from T,lq Ω,show(3689348814741910323:Int)=((3689348814741910323:Nat):Int)from T,u64_and Ω Ω,u64_and Ω Ω,A (y / 2 ^ 2 &&& 3689348814741910323) (y &&& 3689348814741910323) (by exact Nat.lt_of_le_of_lt (Nat.add_le_add (small _ _) (small _ _)) Ω)];obtain⟨z,E⟩:∃z,(y / 2 ^ 2 &&& 3689348814741910323)+(y &&& 3689348814741910323)=z:=⟨_,T⟩;rw[E];have E:h4 3689348814741910323 y=z:=E;rw[E]at O B;rw[show(4:Int)=((4:Nat):Int)from T,lq Ω,A (z / 2 ^ 4) z Ω,show(1085102592571150095:Int)=((1085102592571150095:Nat):Int)from T,u64_and Ω Ω];have B:z / 2 ^ 4+z &&& 1085102592571150095=four (c0 a) (c0 b) (c0 c) (c0 d):=B;rw[B];obtain⟨r,G⟩:∃r,four (c0 a) (c0 b) (c0 c) (c0 d)=r:=⟨_,T⟩;rw[G]at ak ⊢;unfold four at G;rw[show(8:Int)=((8:Nat):Int)from T,lq Ω,A r (r / 2 ^ 8) Ω];obtain⟨s,P⟩:∃s,r+r / 2 ^ 8=s:=⟨_,T⟩;rw[P];rw[show(16:Int)=((16:Nat):Int)from T,lq Ω,A s (s / 2 ^ 16) Ω];obtain⟨f,Q⟩:∃f,s+s / 2 ^ 16=f:=⟨_,T⟩;rw[Q];rw[show(32:Int)=((32:Nat):Int)from T,lq Ω,A f (f / 2 ^ 32) Ω,fq fL.u ah.u,wrap_i64 Ω Ω,show(127:Int)=((127:Nat):Int)from T,Ef Ω Ω];refine⟨?_,Ext.refl _⟩;rw[ai,show 127=2 ^ 7-1 from T,Nat.and_two_pow_sub_one_eq_mod];have al:r / 2 ^ 8=65536*c0 d+256*c0 c+c0 b:=Ω
 have an:s / 2 ^ 16=256*c0 d+(c0 c+c0 d):=Ω
 have R:f / 2 ^ 32=0:=Ω
 have au:f=128*(131072*c0 d+512*(c0 c+c0 d)+2*(c0 b+c0 c+c0 d))+(c0 a+c0 b+c0 c+c0 d):=Ω
 have ao:(f+f / 2 ^ 32) % 2 ^ 7=c0 a+c0 b+c0 c+c0 d:=by rw[R];clear G P Q al an R;omega
 rw[ao]
def hJ{b n:Nat}(a:mm b n):am x7 Iq [jF b n] w λr w'=>(∃q:Int,r=Δ q/\(q=0↔b=0))/\Ext w w':=by
 have e:b<4294967296:=by
  have:=a.2;have:(2:Nat) ^ n<=2 ^ 32:=S2 Ω a.1;omega
 apply az func147;refine bd λg V x f h=>?_;rw[aL b5.p 0 h T];apply(RD e).mono;rintro _ aa _ ⟨rfl,s⟩;refine⟨⟨_,T,?_⟩,f.trans s⟩;rw[<-RC e];omega
def oV(aB:List aD)(w:x3)(af gT:Nat)(A R:ak)(n:aG)(s:ap)(a:h3)(r:x1)(w':x3):Prop:=r=Δ (cB n.k s a).2/\eJ aB w af gT A R n (cB n.k s a).1 w'
section
variable{aB:List aD}{w:x3}{af gT:Nat}{A R:ak}{n:aG}{s:ap}{t:aD}{a:h3}
def eJ.same{w':x3}(h:bx w af gT A R n s t)(a:Laid w)(e:¬A 0)(f:fE aB t)(J:Ext w w'):eJ aB w af gT A R n s w':=(fF.start (m:=w.heap.size) (D:=λ_=>False) h a e f J (o4 _)).done (Ext.refl _)
def eJ.before{w':x3}{s':ap}(J:Ext w V)(h:eJ aB V af gT A R n s' w'):eJ aB w af gT A R n s' w':=by
 have⟨h1,a,aR,bt,e,f⟩:=h;exact⟨kf J h1,a,aR,bt,(Grow.ext J).trans e,f⟩
def yr{j pos u:Int}{f:bU}{x:bC}(h:et s j pos v=σ (f,u,x)):∃p e u':Nat,j=p/\pos=e/\u=u'/\s.funs[p]?=σ f/\f.live≠0/\f.sc[e]?=σ (u':Int)/\s.vars[u']?=σ x/\v∈aC x/\∀q,f.sc[e]?=σ q->v∈bg s q:=by
 have⟨h1,z,A,B,a,C⟩:=ny h;have⟨E,r,F,w⟩:=k2 C;obtain⟨j,rfl⟩:=X7 h1;obtain⟨pos,rfl⟩:=X7 z;obtain⟨u,rfl⟩:=X7 E;refine⟨j,pos,u,T,T,T,A,B,a,r,w,λu' y=>?_⟩;have a:f.sc[pos]?=σ (u:Int):=a;rw[a]at y;cases y;unfold bg;rw[r];exact w
def RE(hk:a.kind=0)(h:bx w af gT A R n s t)(z:Laid w)(E:¬A 0)(G:fE aB t):am x7 Hw [Γ af,Δ a.i,Δ a.pos,Δ a.v,Δ a.c] w (oV aB w af gT A R n s a):=by
 have I:=h.2.2.2.1;apply az func65;apply(Fi h).mono;rintro _ V _ ⟨y,u,e,rfl,q⟩;rw[bo,bp];have p:cB n.k s a=match et s a.i a.pos a.v with
  |none=>(s,1)
  |some (f,u,x)=>if dv n.k a.c (mE n.k s f a.pos.toNat a.v)≠0 then(s,dv n.k a.c (mE n.k s f a.pos.toNat a.v))else(jl s a.i.toNat f a.pos.toNat u.toNat x a.v (λg=>dR n.k g a.c) λg=>dC n.k g a.c,0):=by unfold cB;rw[if_pos hk]<;>cases et s a.i a.pos a.v<;>rfl
 rcases q with⟨rfl,f,x,q⟩|⟨rfl,q⟩
 rotate_left
 .rw[q]at p;rw[bB,al];exact⟨λ_=>⟨by rw[p],by rw[p];exact eJ.same h z E G y⟩,λh=>absurd Φ h⟩
 rw[q]at p;rw[bB,al];refine⟨λh=>absurd rfl h,λ_=>?_⟩;have⟨j,pos,u,S,T,U,ae,K,hu,J,ad,W⟩:=yr q;have X:=x5 ae;simp only[S,T,U,u7]at p ⊢;apply(Ru (j:=j) (pos:=pos) (h.ext y) (z.ext y) ae K W).mono;rintro _ aa _ ⟨rfl,L⟩;apply(uJ (h.ext (y.trans L))).mono;rintro _ ag _ ⟨Y,rfl⟩;have B:=(y.trans L).trans Y;refine dc (λw'=>eJ aB w af gT A R n (cB n.k s a).1 w') ?_ λaA M=>?_
 .intro w' Z;refine⟨?_,Z⟩;rw[p];split
  .rfl
  .rename_i r;rw[Z9.1 r]
 rw[be,al];refine⟨λr=>?_,λr=>M _ ?_⟩
 .obtain⟨C,hm⟩:=nx (λh=>h r);rw[cY (cs:=#[.func (.func nU) #[] #[],.func (.func nV) #[] #[]]) Ψ];have N:∀t∈bP s f.sc pos a.v,a.c<=bl f.aj f.cs t:=λt ab=>((qe _ _ _).1 hm).2 _ (j5.2 ⟨t,ab,rfl⟩);have O:=hd (v:=a.v.toNat) I J;refine(Fs (t:=t) (F1:=nU) (F2:=nV) (tup:=λg=>dR n.k g a.c) (un:=λg=>dC n.k g a.c) (h.ext B) (z.ext B) E G ae K hu J ad (λtl P=>?_) ⟨nA O C.1,λ{w A s t}H=>rX H O C⟩).mono ?_
  .have Q:=nB (t:=tl) I X;exact⟨nz Q ⟨C.1,N tl P⟩,λ{w A s t}H=>uK H Q C (.inr (N tl P))⟩
  .rintro _ ah _ ac;apply M _;rw[p,if_neg (λh=>h r)];exact ac.before B
 .rw[p,if_pos r];exact eJ.same h z E G B
def RF(hk:a.kind=1)(h:bx w af gT A R n s t)(C:Laid w)(E:¬A 0)(G:fE aB t):am x7 Hx [Γ af,Δ a.i,Δ a.pos,Δ a.v,Δ a.c] w (oV aB w af gT A R n s a):=by
 have H:=h.2.2.2.1;apply az func66;apply(Fi h).mono;rintro _ V _ ⟨y,u,e,rfl,q⟩;rw[bo,bp];have p:cB n.k s a=match et s a.i a.pos a.v with
  |none=>(s,1)
  |some (f,u,x)=>if dv n.k a.c (x.un.getD a.v.toNat 0)≠0 then(s,dv n.k a.c (x.un.getD a.v.toNat 0))else(jl s a.i.toNat f a.pos.toNat u.toNat x a.v (λg=>dC n.k g a.c) λg=>dR n.k g a.c,0):=by unfold cB;rw[if_neg Ω,if_pos hk]<;>cases et s a.i a.pos a.v<;>rfl
 rcases q with⟨rfl,f,x,q⟩|⟨rfl,q⟩
 rotate_left
 .rw[q]at p;rw[bB,al];exact⟨λ_=>⟨by rw[p],by rw[p];exact eJ.same h C E G y⟩,λh=>absurd Φ h⟩
 rw[q]at p;rw[bB,al];refine⟨λh=>absurd rfl h,λ_=>?_⟩;have⟨j,pos,u,O,P,Q,ae,S,hu,J,ad,Z⟩:=yr q;have T:=x5 ae;simp only[O,P,Q,u7]at p ⊢;apply(p2 (i:=(u:Int)) (v:=a.v) (h.ext y)).mono;rintro _ aa _ ⟨rfl,K⟩;have U:iN s (u:Int).toNat a.v.toNat=x.un.getD a.v.toNat 0:=by
  unfold iN;rw[u7,J]
 rw[if_pos (oU H J ad),U,bo,bp];apply(uJ (h.ext (y.trans K))).mono;rintro _ ab _ ⟨W,rfl⟩;have z:=(y.trans K).trans W;refine dc (λw'=>eJ aB w af gT A R n (cB n.k s a).1 w') ?_ λaA L=>?_
 .intro w' X;refine⟨?_,X⟩;rw[p];split
  .rfl
  .rename_i r;rw[Z9.1 r]
 rw[be,al];refine⟨λr=>?_,λr=>L _ ?_⟩
 .obtain⟨B,hm⟩:=nx (λh=>h r);rw[cY (cs:=#[.func (.func nV) #[] #[],.func (.func nU) #[] #[]]) Ψ];have M:=hd (v:=a.v.toNat) H J;refine(Fs (t:=t) (F1:=nV) (F2:=nU) (tup:=λg=>dC n.k g a.c) (un:=λg=>dR n.k g a.c) (h.ext z) (C.ext z) E G ae S hu J ad (λtl ac=>?_) ⟨nz M ⟨B.1,hm⟩,λ{w A s t}I=>uK I M B (.inr hm)⟩).mono ?_
  .have N:=nB (t:=tl) H T;exact⟨nA N B.1,λ{w A s t}I=>rX I N B⟩
  .rintro _ ag _ Y;apply L _;rw[p,if_neg (λh=>h r)];exact Y.before z
 .rw[p,if_pos r];exact eJ.same h C E G z
end
def hg(s:ap)(i:Int):Option bC:=match(if 0<=i then s.vars[i.toNat]? else ν)with
 |some x=>if x.gone=0 then σ x else ν
 |none=>ν
def ys{s:ap}{i:Int}{x:bC}(h:hg s i=σ x):0<=i/\s.vars[i.toNat]?=σ x/\x.gone=0:=by
 unfold hg at h;by_cases a:0<=i
 .rw[if_pos a]at h;cases J:s.vars[i.toNat]? with
  |none=>rw[J]at h;cases h
  |some y=>
   rw[J]at h;simp only at h;split at h
   .rename_i e;cases h;exact⟨a,T,e⟩
   .cases h
 .rw[if_neg a]at h;cases h
def Ft{g:Int->Int}{un L:Λ}(h:L[j]?=σ v):ej g un (L.take (j+1))=(ej g un (L.take j)).set v.toNat (g ((ej g un (L.take j)).getD v.toNat 0)):=by
 unfold ej;rw[u9,h,n9,S6];rfl
theorem Fu{i:Nat}{v:Int}:∀(L M:Λ)(s:ap),gv s i v (L++M)=gv (gv s i v L) i v M
 |[],_,_=>rfl
 |w::L,M,s=>by
  rw[List.cons_append,gv,gv];exact Fu L M _
def RG{s:ap}{i:Nat}{w:Int}{L:Λ}(h:L[j]?=σ w):gv s i v (L.take (j+1))=if w≠v then eo (gv s i v (L.take j)) i w.toNat else gv s i v (L.take j):=by
 rw[u9,h,n9,Fu];rfl
def kt(m u:Int):Int:=if m<0\/u<m then u else m
theorem Fv:∀(l:Λ)(m:Int),0<=m->(∀c∈l,0<=c)->l.foldl kt m=l.foldl min m
 |[],_,_,_=>rfl
 |c::l,m,hm,a=>by
  have:=a c (.head _);have e:kt m c=min m c:=by unfold kt;split<;>omega
  rw[T5,T5,e];exact Fv l _ Ω λc h=>a c (.tail _ h)
def RH{x:bC}(h:∀v∈aC x,0<=x.un.getD v.toNat 0):((aC x).map λv=>x.un.getD v.toNat 0).foldl kt (-1)=jm x:=by
 unfold jm;have a:∀c∈(aC x).map (λv=>x.un.getD v.toNat 0),0<=c:=λc e=>by
  obtain⟨v,ad,rfl⟩:=j5.1 e;exact h v ad
 generalize (aC x).map (λv=>x.un.getD v.toNat 0)=l at a;cases l with
 |nil=>rfl
 |cons c l=>exact Fv l c (a c (.head _)) λc h=>a c (.tail _ h)
section
variable{aB:List aD}{w:x3}{af gT:Nat}{A R:ak}{n:aG}{s:ap}{t:aD}{a:h3}
def Fw{i:Int}(h:bx w af gT A R n s t):am x7 Io [Γ af,Δ i] w λr w'=>Ext w w'/\r=Δ (if(hg s i).isSome=true then 0 else 1):=by
 have p:=h.2.2.2.1;have:=p.vars;apply az func145;rw[di dd.u];simp only[Z5,a8];refine aV (λr V=>r= .bool (!(hg s i).isSome)/\Ext w V) ?_ ?_
 .rintro _ V ⟨rfl,C⟩;rw[ca];exact⟨λq=>⟨C,by rw[if_neg (by simpa using q)]⟩,λq=>⟨C,by rw[if_pos (by simpa using q)]⟩⟩
 intro aA E;apply(xE (i:=i) h).mono;rintro _ aa _ ⟨rfl,y⟩;rw[ca];refine⟨λa=>E _ _ ⟨?_,y⟩,λa=>?_⟩
 .rw[V5,decide_eq_true_eq]at a;have K:hg s i=ν:=by
   unfold hg;rw[if_pos a.1];have B:=a.2;unfold hy at B;cases J:s.vars[i.toNat]? with
   |none=>rfl
   |some x=>
    rw[J]at B;simp only;rw[if_neg λh=>by simp[h]at B]
  rw[K];rfl
 apply(jK (i:=i) (h.ext y)).mono;rintro _ P _ ⟨⟨b,m,rfl,G⟩,L⟩;apply(wm (b:=b) (n:=m)).mono;rintro _ Q _ ⟨rfl,M⟩;rw[be];refine E _ _ ⟨?_,(y.trans L).trans M⟩;congr 1;by_cases f:0<=i/\i<n.sizes.length
 .obtain⟨x,J⟩:=aH (l:=s.vars) (i:=i.toNat) Ω;have⟨z,H⟩:=aH (l:=n.sizes) (i:=i.toNat) Ω;have:=p.fz.2.2 z (x5 H);have:=(p.var _ x z J H).1;have:=(G.2.2 x f.1 J).1;have N:x.gone=0:=by
   rw[decide_eq_true f.1,U8]at a;unfold hy at a;rw[J]at a;simpa using a
  have e:hg s i=σ x:=by
   unfold hg;rw[if_pos f.1,J];simp only;rw[if_pos N]
  rw[e,decide_eq_false Ω];rfl
 .obtain⟨rfl,rfl⟩:=G.2.1 f;have e:hg s i=ν:=by
   unfold hg;by_cases I:0<=i
   .rw[if_pos I,Z2 Ω]
   .rw[if_neg I]
  rw[e];rfl
def Fx{u:Nat}{c:Int}{x:bC}{F1 F2:R7}{g z:Int->Int}(h:bx w af gT A R n s t)(aA:Laid w)(a1:¬A 0)(a2:fE aB t)(J:s.vars[u]?=σ x)(h1:∀v∈aC x,(0<=g (x.un.getD v.toNat 0)/\g (x.un.getD v.toNat 0)<=n.k)/\∀{w:x3}{A:ak}{s:ap}{t:aD},bx w af gT A R n s t->am x7 F1 [Γ af,Δ (x.un.getD v.toNat 0),Δ c] w λr w'=>r=Δ (g (x.un.getD v.toNat 0))/\Ext w w')(aE:(0<=z s.zero/\z s.zero<=n.k)/\∀{w:x3}{A:ak}{s':ap}{t:aD},bx w af gT A R n s' t->am x7 F2 [Γ af,Δ s.zero,Δ c] w λr w'=>r=Δ (z s.zero)/\Ext w w'):
  am x7 Ip [Γ af,Δ (u:Int),Δ c,.func (.func F1) #[] #[],.func (.func F2) #[] #[]] w λ_ w'=>eJ aB w af gT A R n (k1 s u x g z) w':=by
 have a7:=h.2.2.2.1;have U:=(x4.1 J).1;apply hG func146;refine bd λg1 V bD aF a=>?_;refine bd λa8 aa bE W q=>?_;refine bd λba bF bG H B=>?_;refine bd λbb f bH I K=>?_;have a:ag f g1 dd [Γ af]:=((ag.ext a W).ext H).ext I;have q:ag f a8 ah [Δ (u:Int)]:=(ag.ext q H).ext I;have B:ag f ba aq [Δ c]:=ag.ext B I;have K:ag f bb J2 [.func (.func F1) #[] #[]]:=K;have L:=((aF.trans W).trans H).trans I;have bI:=aF.size;have bJ:=W.size;have z3:=H.size;have bK:=L.size;have M:=a.lt;have aG:=q.lt;have aH:=B.lt;have bc:=K.lt;rw[ax (v:=Γ af) Ψ (a.Qz T),ax (v:=Δ (u:Int)) Ψ (q.Qz T)];apply(jK (i:=(u:Int)) (h.ext L)).mono;rintro _ bL _ ⟨⟨b,be,rfl,aI⟩,aJ⟩;apply(ne (b:=b) (n:=be)).mono;rintro _ N _ ⟨bf,aK,rfl,bM,aL⟩;have aM:=mz aI Ω (show s.vars[(u:Int).toNat]?=σ x by rw[u7];exact J);have C:=aJ.trans bf;have z5:=aJ.size;have z46:=C.size;have bN:=aL.lt;have aN:=rV x;have bg:eI s u x (ej g x.un ((aC x).take 0))=s:=by
  unfold eI;show{s with vars:=s.vars.set u x}=s;have:s.vars.set u x=s.vars:=by
   apply Y4;intro i;by_cases e:u=i
   .subst e;rw[c8 U,J]
   .rw[Y2 e]
  rw[this]
 refine jW.old ⟨_,false,iT,#[Γ aK],_,_,_,_,λj w'=>fF aB w af gT A R n w.heap.size (λr=>N.heap.size<=r) (eI s u x (ej g x.un ((aC x).take j))) w'/\ai (λr=>r<w.heap.size\/N.heap.size<=r) N w',λ_ _ _=>False,T,(nc (g:=aK) aI.1).s,?_,
  λ_ _ J h=>⟨h.1.ext J,h.2.ext J⟩,λ_ _ _ J h=>⟨h.1.ext J,h.2.trans (J.ab _)⟩,λ_ _ _ _ _ h=>h,⟨aL,aA.ext (L.trans C)⟩,?_,?_,?_,λ_ _ h=>h.elim,λ_ _ _ h=>h.elim⟩
 .rintro _ _ _ _ ⟨_,_,_,_,rfl⟩;rfl
 .refine⟨?_,ai.refl _ _⟩;rw[bg];exact fF.start h aA a1 a2 (L.trans C) (o4 _)
 .rintro _ j _ bh ⟨bi,bO⟩ ⟨bP,rfl,v,ad,bj⟩ ⟨O,E⟩;cases bj;intro bQ P _ _;have X:(aC x)[j]?=σ (v:Int):=by rw[<-aM,x8,ad];rfl
  have aO:=x5 X;have a6:∀{G:x3}{g:Nat}{e:p9}{cs:List x1},Ext bh G->w.heap.size<=g->g<f.heap.size->ag f g e cs->ag G g e cs:=λJ aP aQ Y=>((Y.ext C).ab E Ω).ext J;have⟨bR,bS,Z,aS,ac⟩:=O.open;have aT:fB n (u:Int) (v:Int):=oU a7 J aO;have bk:∀y∈aC x,0<=y/\y<x.un.length:=λy ae=>(gg.1 ae).1;have aj:=uD (g:=g) ((aC x).take j) x.un (v:Int) (aN.sublist (List.take_sublist _ _)) (λy ae=>bk y (T9 ae)) Ω;rw[if_neg (yl aN X)]at aj;have bl:iN (eI s u x (ej g x.un ((aC x).take j))) (u:Int).toNat (v:Int).toNat=x.un.getD (v:Int).toNat 0:=by
   unfold iN eI;rw[u7,c8 U];exact aj
  rw[ax (v:=Γ af) Ψ ((a6 P Ω M a).Qz T),ax (v:=Δ (u:Int)) Ψ ((a6 P Ω aG q).Qz T)];apply(p2 (i:=(u:Int)) (v:=(v:Int)) (Z.ext P)).mono;rintro _ bT _ ⟨rfl,bm⟩;rw[if_pos aT,bl,bo,bp];intro bn bq _ _;have p:=(P.trans bm).trans bq;rw[ax (v:=Γ af) Ψ ((a6 p Ω M a).Qz T),ax (v:=Δ (u:Int)) Ψ ((a6 p Ω aG q).Qz T),
   ax (v:=.func (.func F1) #[] #[]) Ψ ((a6 p Ω bc K).Qz T),ax (v:=Γ af) Ψ ((a6 p Ω M a).Qz T),ax (v:=Δ c) Ψ ((a6 p Ω aH B).Qz T)]
  show am x7 F1 [Γ af,Δ (x.un.getD (v:Int).toNat 0),Δ c] bn _;have⟨br,bt⟩:=h1 v aO;apply(bt (Z.ext p)).mono;rintro _ bU _ ⟨rfl,aU⟩;have al:=p.trans aU;refine⟨.inl aU,(Et (i:=(u:Int)) (v:=(v:Int)) (Z.ext al) aS.room).mono ?_⟩;rintro r bV _ ⟨_,_,an⟩;have⟨_,ao,aR,bu,bw,au,Q⟩:=an aT br;have e:kX (eI s u x (ej g x.un ((aC x).take j))) (u:Int).toNat (v:Int).toNat (g (x.un.getD (v:Int).toNat 0))=eI s u x (ej g x.un ((aC x).take (j+1))):=by
   rw[Ft X,aj];unfold kX eI;rw[u7,c8 U];simp only[List.set_set]
  rw[e]at Q;have bW:=E.size;have⟨aV,aW,bX⟩:=ac (D':=λr=>N.heap.size<=r) (kf al ao) ((Grow.ext al).trans au) Q aS.set (λr h=>h) λr aP aQ=>Ω
  exact⟨⟨bi.ab aW Ω,aV.2.1.1⟩,⟨aV,E.trans aW⟩,λh=>by cases h⟩
 .rintro k bz rfl ⟨O,E⟩;rw[b8 (by rw[<-aM,r8];exact o4 _)]at O;have⟨bY,bZ,av,aX,ac⟩:=O.open;have a6:∀{G:x3}{g:Nat}{e:p9}{cs:List x1},Ext bz G->w.heap.size<=g->g<f.heap.size->ag f g e cs->ag G g e cs:=λJ aP aQ Y=>((Y.ext C).ab E Ω).ext J;intro b0 S _ _;have aw:=a6 S Ω M a;rw[ax (v:=Γ af) Ψ (aw.Qz T),ax (v:=Γ af) Ψ (aw.Qz T),ax (v:=Γ af) Ψ (aw.Qz T),ax (v:=Δ c) Ψ ((a6 S Ω aH B).Qz T)];apply(uo (av.ext S)).mono;rintro _ bA _ ⟨rfl,ay⟩;have aY:=S.trans ay;refine⟨.inl ay,?_⟩;show am x7 F2 [Γ af,Δ s.zero,Δ c] bA _;apply(aE.2 (av.ext aY)).mono;rintro _ b1 _ ⟨rfl,aZ⟩;have az:=aY.trans aZ;refine⟨.inl (ay.trans aZ),(PU (av.ext az) aX.room).mono ?_⟩;rintro r b2 _ ⟨_,an⟩;have⟨_,ao,aR,bu,bw,au,Q⟩:=an aE.1;intro b3 bB _;exact(ac (D':=λ_=>True) (kf az ao) ((Grow.ext az).trans au) Q aX.set (λ_ _=>trivial) λ_ _ _=>trivial).1.done bB
end
section
variable{w:x3}{af gT ao:Nat}{A R:ak}{A9:Nat->ak}{aJ:ak}{n:aG}{s u:ap}{t:aD}{h:List aD}{cs:List x1}{a:h3}
def RI(hk:a.kind<2):cB n.k u a=match et u a.i a.pos a.v with
  |none=>(u,1)
  |some (f,v,x)=>if dv n.k a.c (if a.kind=1 then x.un.getD a.v.toNat 0 else mE n.k u f a.pos.toNat a.v)≠0 then(u,dv n.k a.c (if a.kind=1 then x.un.getD a.v.toNat 0 else mE n.k u f a.pos.toNat a.v))
   else(jl u a.i.toNat f a.pos.toNat v.toNat x a.v (λg=>if a.kind=0 then dR n.k g a.c else dC n.k g a.c) λg=>if a.kind=0 then dC n.k g a.c else dR n.k g a.c,0):=by
 unfold cB;by_cases e:a.kind=0
 .rw[if_pos e];simp only[e];cases et u a.i a.pos a.v<;>rfl
 .have h1:a.kind=1:=Ω
  rw[if_neg e,if_pos h1];simp only[h1];cases et u a.i a.pos a.v<;>rfl
def getD_some{l:Λ}{i:Nat}(h:i<l.length):l[i]?=σ (l.getD i 0):=by
 rw[u4,x6 h];rfl
theorem RJ(p:cm w af gT ao A R A9 aJ n s u t h cs)(G:bi n.k n.sizes u)(bO:du u)(hk:a.kind<2):am x7 vD [Γ ao,Δ (a.kind:Int),Δ a.i,Δ a.pos,Δ a.v,Δ a.c] w λr w'=>r=Δ (cB n.k u a).2/\dx w af gT ao A R A9 aJ n s t h (cB n.k u a).1 w':=by
 have C:=RI (n:=n) (u:=u) hk;have cZ:=G.vars;have bR:=G.eg;refine az func64 ?_;have bS:cs[0]?=σ (Δ n.k):=by obtain⟨_,_,_,_,_,_,rfl,_⟩:=p.oQ;rfl
 rw[aT aX.p 0 p.box bS,aP,al];refine⟨λ_=>?_,λh=>Ω⟩;rw[bZ];refine p.look.load λdj bT=>?_;refine(Ri bT G bO).mono ?_;rintro _ V _ ⟨aB,rfl⟩;cases aR:et u a.i a.pos a.v with
 |none=>
  rw[aR]at C;simp only;rw[bo,bp,bK,W3,bV];exact⟨by rw[C],by rw[C];exact dx.same p aB⟩
 |some q=>
 obtain⟨f,M,x⟩:=q;rw[aR]at C;simp only;rw[bo,bp,bK,Y7,a8];obtain⟨j,pos,M,bW,bX,bY,ae,c0,hu,J,ad,aS⟩:=yr aR;have aC:=x5 ae;simp only[bW,bX,bY,u7]at C ⊢;have b0:=(x4.1 ae).1;have bn:=(x4.1 J).1;have b1:=(x4.1 hu).1;obtain⟨b2,c1⟩:=ko G aC;have b3:=Ff G aC aS;have b5:=(gg.1 ad).1;obtain⟨v,P⟩:=X7 b5.1;have bq:=hd (v:=a.v.toNat) G J;have aD:=p.ext aB;have br:∀{aa:x3}{eY:ap}{bt:List x1}{bu:Nat->ak}{f2:bU},cm aa af gT ao A R bu aJ n s eY t h bt->eY.funs[j]?=σ f2->∃Q cap S aY y,bt[6]?=σ (.slice (σ ⟨Q,0,ν⟩) eY.funs.length cap)/\j<eY.funs.length/\aa.cell? ⟨Q,0+j*4+0+0,ν⟩=σ S/\aa.cell? ⟨Q,0+j*4+0+2,ν⟩=σ y/\aI .i64 aa S f2.sc/\aI .i64 aa y f2.cs/\
   ∀{w':x3}{m:Nat}{c:Int}{K:Unit->x3->Prop},Ext aa w'->m<f2.cs.length->(∀bw,dx aa af gT ao A R bu aJ n s t h (dS eY j f2 (f2.cs.set m c)) bw->K () bw)->ac x7 (j9 ay y (Δ (m:Int))) w' λa=>aE x7 (o8 aq a (Δ c)) w' K:=λb6 aF=>by
  obtain⟨Q,cap,S,aY,y,b7,bx,b8,b9,U⟩:=Rk b6 aF;exact⟨Q,cap,S,aY,y,b7,(x4.1 aF).1,by rw[X2];exact bx 0 _ T,by rw[X2];exact bx 2 _ T,b8,b9,U⟩
 obtain⟨Q,c2,S,aY,c3,cb,cc,cd,_,cg,_,_⟩:=br aD ae;rw[aT aX.p 6 aD.box cb,fg eC.u c4.i cc λ_=>rfl,aU c4.p T,aU aZ.p T,ax (v:=S) (o:=0+j*4+0+0) Ψ cd,bc an.u ah.i Ψ cg hu];generalize bA:(if a.kind=1 then x.un.getD a.v.toNat 0 else mE n.k u f pos a.v)=most at C;refine aV (λr aa=>r=Δ most/\Ext w aa) ?_ λaA bB=>?_
 rotate_left
 .rw[be,al];refine⟨λh1=>?_,λh1=>bB _ _ ⟨by rw[<-bA,if_neg Ω],aB⟩⟩;have h1:a.kind=1:=Ω
  obtain⟨a1,bC,y,a2,a6,aG,_⟩:=yq aD J;rw[aT aX.p 5 aD.box a2,fg dZ.u ay.i bn λ_=>rfl,ax (v:=y) (o:=0+M*1) Ψ (by rw[X2,U2];exact a6),P,bc ay.u aq.i Ψ aG (getD_some Ω)];refine bB _ _ ⟨?_,aB⟩;rw[<-bA,if_pos h1,P,u7]
 rintro _ aa ⟨rfl,ch⟩;refine AJ.mono ?_;rintro _ c5 _ ⟨rfl,ci⟩;have W:=ch.trans ci;have bD:cu a.c n.k↔0<=a.c/\a.c<=n.k:=⟨λh=>h.2,λaF=>⟨bR,aF⟩⟩;rw[bK,ca];refine⟨λX=>?_,λX=>?_⟩
 .have cj:¬cu a.c n.k:=by simpa using X
  have E:dv n.k a.c most=3:=by unfold dv;rw[if_pos λh=>cj (bD.2 h)]
  rw[if_pos (by rw[E];decide),E]at C;exact⟨by rw[C],by rw[C];exact dx.same p W⟩
 have bE:=bD.1 (show cu a.c n.k by simpa using X);rw[bJ,al];refine⟨λck=>?_,λcl=>?_⟩
 .have E:dv n.k a.c most=7:=by unfold dv;rw[if_neg (λh=>h bE),if_pos ck]
  rw[if_pos (by rw[E];decide),E]at C;exact⟨by rw[C],by rw[C];exact dx.same p W⟩
 have E:dv n.k a.c most=0:=by unfold dv;rw[if_neg (λh=>h bE),if_neg cl]
 rw[if_neg (λh=>h E)]at C;have cn:=p.ext W;rw[bZ];refine cn.look.load λc6 cq=>?_;refine(yp cq G ae b1 aS).mono ?_;rintro aM a7 _ ⟨cr,ba,ct⟩;have bF:=W.trans cr;rw[aW an.u ba];have bG:(jn u f pos a.v).length=(bP u f.sc pos a.v).length:=by unfold jn;rw[r8]
 rw[bG];obtain⟨tup,bb⟩:∃tup:Int->Int,tup=λg=>if a.kind=0 then dR n.k g a.c else dC n.k g a.c:=⟨_,T⟩;obtain⟨un,bd⟩:∃un:Int->Int,un=λg=>if a.kind=0 then dC n.k g a.c else dR n.k g a.c:=⟨_,T⟩;rw[<-bb,<-bd]at C;have cw:=p.olds.ext bF;have c7:=p.box.lt;have c9:=W.size;have cz:∀{w':x3},ai (λr=>(∃q,A9 q r/\r<w.heap.size)\/r=ao) a7 w'->aI .i64 w' aM (jn u f pos a.v):=λcA=>ia ba cA λr E b n c e X=>by
  have:=ct r ⟨b,n,c,e,X⟩;rcases E with⟨q,E⟩|E
  .have:=E.2;omega
  .omega
 refine cp.range (bP u f.sc pos a.v).length (λq w'=>dx a7 af gT ao A R (λq r=>A9 q r/\r<w.heap.size) aJ n s t h (dS u j f (dH tup ((bP u f.sc pos a.v).take q) f.aj f.cs)) w') (by rw[<-bG];exact ba.le) ?_ ?_ ?_
 .rw[List.take_zero,Fr G ae];exact dx.same cw (Ext.refl _)
 .rintro q Y cC cD aK cE;obtain⟨tl,bf⟩:=aH (l:=bP u f.sc pos a.v) cD;obtain⟨m,hm⟩:=oS G aC aS (x5 bf);have cF:(jn u f pos a.v)[q]?=σ (m:Int):=by
   unfold jn;rw[x8,bf];unfold mF;rw[Z6,hm];rfl
  obtain⟨bH,bI⟩:=Fh (g:=tup) G ae b3 bf hm;have cG:=(x4.1 (kK b2 hm)).1;have da:m<f.cs.length:=by rw[u7]at cG;omega
  obtain⟨U,cH,bL,O,bg⟩:=id aK;obtain⟨ce,bM⟩:∃ce,ce=dH tup ((bP u f.sc pos a.v).take q) f.aj f.cs:=⟨_,T⟩;have db:ce.length=f.cs.length:=by rw[bM,oK _ _ _ _ Ω]
  rw[<-bM]at O bH bI;have bN:(dS u j f ce).funs[j]?=σ {f with cs:=ce}:=c8 b0;obtain⟨aL,cI,dd,de,aO,cJ,cK,_,bh,_,cL,cM⟩:=br O bN;have cN:ce[m]?=σ (bl f.aj f.cs tl):=by
   rw[getD_some Ω,<-bH];unfold bl;rw[hm];simp
  have df:=nB (t:=tl) G aC;have dg:bL[0]?=σ (Δ n.k):=by obtain⟨_,_,_,_,_,_,rfl,_⟩:=O.oQ;rfl
  have cO:=cz U;refine bz Ω ?_;refine dc (λH=>dx a7 af gT ao A R (λq r=>A9 q r/\r<w.heap.size) aJ n s t h (dS u j f (dH tup ((bP u f.sc pos a.v).take (q+1)) f.aj f.cs)) H) (λH N=>by rw[aN];exact cE _ N) λcP cQ=>?_;have Z:∀{I:x3},Ext Y I->ac x7 (j9 ay aO (Δ (m:Int))) I λa'=>aE x7 (o8 aq a' (Δ (tup (bl f.aj f.cs tl)))) I λ(_:Unit)H=>cP H:=λbj=>by
   refine cM bj (by show m<ce.length;omega) λH N=>cQ _ (dx.comp U bg ?_);have cR:dS (dS u j f ce) j {f with cs:=ce} (ce.set m (tup (bl f.aj f.cs tl)))=kY (dS u j f ce) j m (tup (bl f.aj f.cs tl)):=by unfold kY;rw[bN];rfl
   rw[cR,bI]at N;exact N
  have row:∀{z:x3}{K:x1->x1->x1->x1->x1->x1->Prop},Ext Y z->K (Γ ao) (.pointer (σ ⟨ao,0+6,ν⟩)) (.slice (σ ⟨aL,0,ν⟩) (dS u j f ce).funs.length cI) (.pointer (σ ⟨aL,0+j*4,ν⟩)) (.pointer (σ ⟨aL,0+j*4+0,ν⟩)) (.pointer (σ ⟨aL,0+j*4+0+2,ν⟩))->
    ac x7 (bQ (Γ ao)) z λag=>ac x7 (u6 aX ag 6) z λau=>ac x7 (u5 eC au) z λav=>ac x7 (j9 eC av (Δ (j:Int))) z λaw=>ac x7 (u6 c4 aw 0) z λaQ=>ac x7 (u6 aZ aQ 2) z λcS=>K ag au av aw aQ cS:=λJ bk=>by
   rw[aT aX.p 6 (O.box.ext J) cJ,fg eC.u c4.i cK λ_=>rfl,aU c4.p T,aU aZ.p T];exact bk
  rw[bc an.u ah.i Ψ cO cF];refine row (Ext.refl _) ?_;rw[ax (v:=aO) (o:=0+j*4+0+2) Ψ bh,bc ay.u aq.i Ψ cL cN,be,al];refine⟨λbm=>?_,λbm=>?_⟩
  .intro z B _ _;refine row B ?_;rw[ax (v:=aO) (o:=0+j*4+0+2) Ψ (iW B bh)];refine(uL Ω Ω).mono ?_;rintro _ I _ ⟨rfl,L⟩;refine⟨.inl L,?_⟩;have:=Z (B.trans L);rw[bb]at this;simp only[if_pos (show a.kind=0 by omega)]at this;exact this
  .intro z B _ _;refine row B ?_;rw[ax (v:=aO) (o:=0+j*4+0+2) Ψ (iW B bh)];refine(mp Ω Ω).mono ?_;rintro _ I _ ⟨rfl,L⟩;refine⟨.inl L,?_⟩;have:=Z (B.trans L);rw[bb]at this;simp only[if_neg (show¬a.kind=0 by omega)]at this;exact this
 .rintro Y cC aK;rw[o6]at aK;refine b4 Ω ?_;obtain⟨U,cH,bL,O,bg⟩:=id aK;have cT:(dS u j f (dH tup (bP u f.sc pos a.v) f.aj f.cs)).vars[M]?=σ x:=J;obtain⟨a1,bC,y,a2,a6,aG,cU⟩:=yq O cT;refine dc (λH=>dx w af gT ao A R A9 aJ n s t h (jl u j f pos M x a.v tup un) H) (λH N=>⟨by rw[C],by rw[C];exact N⟩) λcV cW=>?_;have cX:M<(dS u j f (dH tup (bP u f.sc pos a.v) f.aj f.cs)).vars.length:=bn;have row:∀{z:x3}{K:x1->x1->x1->x1->x1->Prop},Ext Y z->K (Γ ao) (.pointer (σ ⟨ao,0+5,ν⟩)) (.slice (σ ⟨a1,0,ν⟩) (dS u j f (dH tup (bP u f.sc pos a.v) f.aj f.cs)).vars.length bC) (.pointer (σ ⟨a1,0+M*1,ν⟩)) y->
    ac x7 (bQ (Γ ao)) z λag=>ac x7 (u6 aX ag 5) z λau=>ac x7 (u5 dZ au) z λav=>ac x7 (j9 dZ av (Δ (M:Int))) z λaw=>ac x7 (u5 ay aw) z λaQ=>K ag au av aw aQ:=λJ bk=>by
   rw[aT aX.p 5 (O.box.ext J) a2,fg dZ.u ay.i cX λ_=>rfl,ax (v:=y) (o:=0+M*1) Ψ (by rw[X2,U2];exact iW J a6)];exact bk
  have Z:∀{I:x3},Ext Y I->ac x7 (j9 ay y (Δ (v:Int))) I λa'=>aE x7 (o8 aq a' (Δ (un (x.un.getD v 0)))) I λ(_:Unit)H=>cV H:=λbj=>by
   refine cU bj Ω λH N=>cW _ ?_;have cY:=dx.comp U bg N.Fl;have:=dx.comp (A9:=A9) (w:=w) (bF.ab _) (λq r E=>.inl ⟨q,E.1⟩) cY;unfold jl;rw[show a.v.toNat=v by omega];exact this
  rw[be,al];refine⟨λbm=>?_,λbm=>?_⟩
  .intro z B _ _;refine row B (row B ?_);rw[P,bc ay.u aq.i Ψ (aG.ext B) (getD_some Ω)];rw[P,u7]at bq;refine(mp Ω Ω).mono ?_;rintro _ I _ ⟨rfl,L⟩;refine⟨.inl L,?_⟩;have:=Z (B.trans L);rw[bd]at this;simp only[if_pos (show a.kind=0 by omega)]at this;exact this
  .intro z B _ _;refine row B (row B ?_);rw[P,bc ay.u aq.i Ψ (aG.ext B) (getD_some Ω)];rw[P,u7]at bq;refine(uL Ω Ω).mono ?_;rintro _ I _ ⟨rfl,L⟩;refine⟨.inl L,?_⟩;have:=Z (B.trans L);rw[bd]at this;simp only[if_neg (show¬a.kind=0 by omega)]at this;exact this
end
section
variable{aB:List aD}{w:x3}{af gT:Nat}{A R:ak}{n:aG}{s:ap}{t:aD}{a:h3}
def eJ.step{aR:ak}{s':ap}{bt:aD}(h:bx w af gT A R n s t)(f:Laid w)(e:¬A 0)(J:Ext w V)(p:ai (ew V) V aa)(a:Grow A V aR aa)(q:bx aa af gT aR R n s' bt)(r:fE aB bt):eJ aB w af gT A R n s' aa:=by
 refine⟨kf J p,jw a.1 e (f.ext J),aR,bt,(Grow.ext J).trans a,q,r,λx=>(a.2.1 0 x).elim e λy=>?_⟩;have⟨z,B,C,E,⟨h1,_⟩,_⟩:=h.1;have:=h.lt (.inl h1);have:=J.size;omega
def yt(hk:a.kind=2):cB n.k s a=match hg s a.i with
  |none=>(s,1)
  |some x=>if dv n.k a.c (jm x)≠0 then(s,dv n.k a.c (jm x))else(k1 s a.i.toNat x (λg=>dR n.k g a.c) λg=>dC n.k g a.c,0):=by
 unfold cB hg;rw[if_neg Ω,if_neg Ω,if_pos hk];cases (if 0<=a.i then s.vars[a.i.toNat]? else ν)with
 |none=>rfl
 |some x=>
  simp only;by_cases e:x.gone=0
  .rw[if_neg Ω,if_pos e]
  .rw[if_pos e,if_neg e]
def yu(hk:a.kind=3):cB n.k s a=match hg s a.i with
  |none=>(s,1)
  |some x=>if dv n.k a.c (if aC x=[]then-1 else s.zero)≠0 then(s,dv n.k a.c (if aC x=[]then-1 else s.zero))else(k1 s a.i.toNat x (λg=>dC n.k g a.c) λg=>dR n.k g a.c,0):=by
 unfold cB hg;rw[if_neg Ω,if_neg Ω,if_neg Ω,if_pos hk];cases (if 0<=a.i then s.vars[a.i.toNat]? else ν)with
 |none=>rfl
 |some x=>
  simp only;by_cases e:x.gone=0
  .rw[if_neg Ω,if_pos e]
  .rw[if_pos e,if_neg e]
def RK(hk:a.kind=2)(h:bx w af gT A R n s t)(K:Laid w)(X:¬A 0)(Y:fE aB t):am x7 Hy [Γ af,Δ a.i,Δ a.c] w (oV aB w af gT A R n s a):=by
 have B:=h.2.2.2.1;have e:=yt (n:=n) (s:=s) hk;apply hG func67;refine bd λg1 V bG aD C=>?_;refine bd λZ aa bH ac E=>?_;have C:ag aa g1 dd [Γ af]:=ag.ext C ac;have E:ag aa Z ah [Δ a.i]:=E;have ae:=aD.trans ac;have:=aD.size;have:=ac.size;have:=C.lt;have:=E.lt;rw[ax (v:=Γ af) Ψ (C.Qz T),ax (v:=Δ a.i) Ψ (E.Qz T)];apply(Fw (i:=a.i) (h.ext ae)).mono;rintro _ bM _ ⟨aj,rfl⟩;have aY:=ae.trans aj;have:=aj.size;cases ad:hg s a.i with
 |none=>
  rw[ad]at e;rw[if_neg Ξ,bB,al];refine⟨λ_=>?_,λh=>absurd Φ h⟩;intro aZ a1 _;exact⟨by rw[e],by rw[e];exact eJ.same h K X Y (aY.trans a1)⟩
 |some x=>
 rw[ad]at e;simp only at e;have⟨aE,J,bN⟩:=ys ad;have⟨u,hu⟩:=X7 aE;rw[hu,u7]at J;rw[hu,u7]at e;rw[if_pos (by rfl),bB,al];refine⟨λh=>absurd T h,λ_=>?_⟩;refine bu aq.i λL bO bP aF aG=>?_;refine bq aq.i T rfl aG (by simp[x1.cells]) λM ak bQ N=>?_;have N:ag M L aq [Δ (-1)]:=N;have:=aF.size;have:=aG.lt;have an:=aj.trans aF;have ao:ag M g1 dd [Γ af]:=(C.ext an).ab ak Ω;have ap:ag M Z ah [Δ a.i]:=(E.ext an).ab ak Ω;have O:Ext w M:=(ae.trans an).then ak (by rintro r aH rfl;omega);rw[ax (v:=Γ af) Ψ (ao.Qz T),ax (v:=Δ a.i) Ψ (ap.Qz T)];apply(jK (i:=a.i) (h.ext O)).mono;rintro _ bS _ ⟨⟨b,a2,rfl,aI⟩,aJ⟩;apply(ne (b:=b) (n:=a2)).mono;rintro _ a6 _ ⟨a7,aK,rfl,bT,aL⟩;have aM:=mz aI aE (show s.vars[a.i.toNat]?=σ x by rw[hu,u7];exact J);have f:=aJ.trans a7;have:=aJ.size;have:=aL.lt;have:=N.lt;have aN:∀j (v:Nat),(aC x)[j]?=σ (v:Int)->(((aC x).take (j+1)).map λv=>x.un.getD v.toNat 0).foldl kt (-1)=kt ((((aC x).take j).map λv=>x.un.getD v.toNat 0).foldl kt (-1)) (x.un.getD v 0):=λj v aO=>by
  rw[u9,aO,n9,Z4,S6];rfl
 refine jW.old ⟨_,false,iT,#[Γ aK],_,_,_,_,λj w'=>ai (λr=>r=L) a6 w'/\ag w' L aq [Δ ((((aC x).take j).map λv=>x.un.getD v.toNat 0).foldl kt (-1))],λ_ _ _=>False,T,(nc (g:=aK) aI.1).s,?_,
  λ_ _ J h=>⟨h.1.ext J,h.2.ext J⟩,λ_ _ _ J h=>⟨h.1.trans (J.ab _),h.2.ext J⟩,λ_ _ _ _ _ h=>h,⟨aL,K.ext (O.trans f)⟩,⟨ai.refl _ _,N.ext f⟩,?_,?_,λ_ _ h=>h.elim,λ_ _ _ h=>h.elim⟩
 .rintro _ _ _ _ ⟨_,_,_,_,rfl⟩;rfl
 .rintro _ j _ a8 ⟨aQ,aS⟩ ⟨aO,rfl,v,ba,bb⟩ ⟨q,P⟩;cases bb;intro bc aT _ _;have au:(aC x)[j]?=σ (v:Int):=by rw[<-aM,x8,ba];rfl
  have bf:=oU B J (x5 au);have av:=q.trans (aT.ab _);have bg:Ext w bc:=(O.trans f).then av (by rintro r aH rfl;omega);rw[ax (v:=Γ af) Ψ (((ao.ext f).ab av Ω).Qz T),ax (v:=Δ a.i) Ψ (((ap.ext f).ab av Ω).Qz T)];apply(p2 (i:=a.i) (v:=(v:Int)) (h.ext bg)).mono;rintro _ bh _ ⟨rfl,bi⟩;have bj:iN s a.i.toNat (v:Int).toNat=x.un.getD v 0:=by
   unfold iN;rw[hu,u7,J];rfl
  rw[if_pos (by rw[hu];exact bf),bj,bo,bp];have G:=aT.trans bi;have H:=P.ext G;refine aV (λr bk=>(r= .bool (decide ((((aC x).take j).map λv=>x.un.getD v.toNat 0).foldl kt (-1)<0\/x.un.getD v 0<(((aC x).take j).map λv=>x.un.getD v.toNat 0).foldl kt (-1))))/\bk=bh) ?_ λaA I=>?_
  .rintro _ _ ⟨rfl,rfl⟩;rw[al];refine⟨λQ=>?_,λS=>?_⟩
   .refine bq aq.i T rfl H Ξ λbl bm bX bn=>?_;have p:ai (λr=>r=L) a8 bl:=(G.ab _).trans bm;refine⟨⟨aQ.ab p Ω,jw p Ω aS⟩,⟨q.trans p,?_⟩,λh=>by cases h⟩;rw[aN j v au];unfold kt at Q ⊢;rw[if_pos Q];exact bn
   .refine⟨⟨aQ.ext G,aS.ext G⟩,⟨q.trans (G.ab _),?_⟩,λh=>by cases h⟩;rw[aN j v au];unfold kt at S H ⊢;rw[if_neg S];exact H
  rw[ax (v:=Δ _) Ψ (H.Qz T),aP,al];refine⟨λQ=>I _ _ ⟨by rw[decide_eq_true (Or.inl Q)],T⟩,λS=>?_⟩;rw[ax (v:=Δ _) Ψ (H.Qz T),aP];refine I _ _ ⟨?_,T⟩;congr 1;exact decide_eq_decide.2 ⟨.inr,λh=>h.resolve_left S⟩
 .rintro k aw rfl ⟨q,P⟩;rw[b8 (by rw[<-aM,r8];exact o4 _),RH λv _=>(hd B J).1]at P;have aU:Ext w aw:=(O.trans f).then q (by rintro r aH rfl;omega);have aW:ag aw g1 dd [Γ af]:=(ao.ext f).ab q Ω;have br:ag aw Z ah [Δ a.i]:=(ap.ext f).ab q Ω;rw[ax (v:=Γ af) Ψ (aW.Qz T),ax (v:=Δ (jm x)) Ψ (P.Qz T)];apply(uJ (h.ext aU)).mono;rintro _ bY _ ⟨ay,rfl⟩;have U:=aU.trans ay;refine dc (λw'=>eJ aB w af gT A R n (cB n.k s a).1 w') ?_ λaA I=>?_
  .intro w' bw bZ W _;have⟨bz,bA,aR,bt,bC,bD,bE⟩:=bw;refine⟨?_,bz.trans (W.ab _),bA.ext W,aR,bt,bC.trans (Grow.ext W),bD.ext W,bE⟩;rw[e];split
   .rfl
   .rename_i y;rw[Z9.1 y]
  rw[be,al];refine⟨λy=>?_,λy=>I _ ?_⟩
  .obtain⟨p,hm⟩:=nx (λh=>h y);rw[ax (v:=Γ af) Ψ ((aW.ext ay).Qz T),ax (v:=Δ a.i) Ψ ((br.ext ay).Qz T),hu];refine(Fx (t:=t) (u:=u) (F1:=nU) (F2:=nV) (g:=λg=>dR n.k g a.c) (z:=λg=>dC n.k g a.c) (h.ext U) (K.ext U) X Y J (λv ad=>?_) ⟨nA B.zero p.1,λ{w A s' t}az=>rX az B.zero p⟩).mono ?_
   .have aX:=hd (v:=v.toNat) B J;exact⟨nz aX ⟨p.1,yh ad hm⟩,λ{w A s t}az=>uK az aX p (.inr (yh ad hm))⟩
   .rintro _ aZ _ bF;apply I _;rw[e,if_neg (λh=>h y)];exact bF.before U
  .rw[e,if_pos y];exact eJ.same h K X Y U
def RL{b m:Nat}{i:Int}{x:bC}(f:uq s n i b m)(hi:0<=i)(J:s.vars[i.toNat]?=σ x):b=0↔aC x=[]:=by
 have a:=mz f hi J;constructor
 .rintro rfl;rw[<-a];have:fU 0 m=[]:=List.eq_nil_iff_forall_not_mem.2 λv ad=>by
   have:=(wj.1 ad).2;simp at this
  rw[this];rfl
 .intro he;rw[he]at a;have ad:=List.map_eq_nil_iff.1 a;refine Nat.eq_of_testBit_eq λj=>?_;rw[Nat.zero_testBit];cases e:b.testBit j with
  |false=>rfl
  |true=>
   have p:j<m:=by
    rcases Nat.lt_or_ge j m with h|h
    .exact h
    .have:=Nat.testBit_lt_two_pow (x:=b) (i:=j) (Q2 f.1.2 (S2 Ω h));rw[this]at e;cases e
   have:j∈fU b m:=wj.2 ⟨p,e⟩;rw[ad]at this;cases this
def RM(hk:a.kind=3)(h:bx w af gT A R n s t)(E:Laid w)(G:¬A 0)(H:fE aB t):am x7 Hz [Γ af,Δ a.i,Δ a.c] w (oV aB w af gT A R n s a):=by
 have I:=h.2.2.2.1;have f:=yu (n:=n) (s:=s) hk;apply az func68;apply(Fw (i:=a.i) h).mono;rintro _ V _ ⟨K,rfl⟩;cases ad:hg s a.i with
 |none=>
  rw[ad]at f;rw[if_neg Ξ,bB,al];exact⟨λ_=>⟨by rw[f],by rw[f];exact eJ.same h E G H K⟩,λh=>absurd Φ h⟩
 |some x=>
 rw[ad]at f;simp only at f;have⟨M,J,ah⟩:=ys ad;rw[if_pos (by rfl),bB,al];refine⟨λh=>absurd rfl h,λ_=>?_⟩;apply(uo (h.ext K)).mono;rintro _ aa _ ⟨rfl,X⟩;have N:=K.trans X;refine aV (λr w'=>r=Δ (if aC x=[]then-1 else s.zero)/\Ext w w') ?_ λaA y=>?_
 .rintro _ ai ⟨rfl,O⟩;apply(uJ (h.ext O)).mono;rintro _ aj _ ⟨Y,rfl⟩;have B:=O.trans Y;refine dc (λw'=>eJ aB w af gT A R n (cB n.k s a).1 w') ?_ λaA y=>?_
  .intro w' Z;refine⟨?_,Z⟩;rw[f];generalize (if aC x=[]then(-1:Int)else s.zero)=ak;split
   .rfl
   .rename_i p;rw[Z9.1 p]
  rw[be,al];refine⟨λp=>?_,λp=>y _ ?_⟩
  .obtain⟨C,hm⟩:=nx (λh=>h p);have P:a.c<=s.zero:=by
    split at hm
    .omega
    .exact hm
   have⟨u,hu⟩:=X7 M;rw[hu,u7]at J;rw[hu];refine(Fx (t:=t) (u:=u) (F1:=nV) (F2:=nU) (g:=λg=>dC n.k g a.c) (z:=λg=>dR n.k g a.c) (h.ext B) (E.ext B) G H J (λv ad=>?_) ⟨nz I.zero ⟨C.1,P⟩,λ{w A s' t}L=>uK L I.zero C (.inr P)⟩).mono ?_
   .have Q:=hd (v:=v.toNat) I J;exact⟨nA Q C.1,λ{w A s t}L=>rX L Q C⟩
   .rintro _ an _ ab;apply y _;rw[f,if_neg (λh=>h p),hu,u7];exact ab.before B
  .rw[f,if_pos p];exact eJ.same h E G H B
 apply(jK (i:=a.i) (h.ext N)).mono;rintro _ ao _ ⟨⟨b,ac,rfl,S⟩,ae⟩;apply(hJ (b:=b) (n:=ac) S.1).mono;rintro _ ap _ ⟨⟨q,rfl,T⟩,ag⟩;have U:=(N.trans ae).trans ag;have W:=RL S M J;rw[be,al];refine⟨λh=>y _ _ ⟨by rw[if_pos (W.1 (T.1 h))],U⟩,λh=>y _ _ ⟨by rw[if_neg λe=>h (T.2 (W.2 e))],U⟩⟩
def RN(hk:a.kind=4)(h:bx w af gT A R n s t)(p:Laid w)(q:¬A 0)(f:fE aB t):am x7 HA [Γ af,Δ a.i,Δ a.v] w (oV aB w af gT A R n s a):=by
 have z:=h.2.2.2.1;have e:cB n.k s a=match er s a.i a.v with
  |none=>(s,1)
  |some x=>if dC n.k s.zero (x.un.getD a.v.toNat 0)<n.k then(s,7)else(eo s a.i.toNat a.v.toNat,0):=by
  unfold cB;rw[if_neg Ω,if_neg Ω,if_neg Ω,if_neg Ω,if_pos hk]<;>cases er s a.i a.v<;>rfl
 apply az func69;apply(ym h).mono;rintro _ V _ ⟨B,rfl⟩;cases ad:er s a.i a.v with
 |none=>
  rw[ad]at e;rw[if_neg Ξ,bB,al];exact⟨λ_=>⟨by rw[e],by rw[e];exact eJ.same h p q f B⟩,λh=>absurd Φ h⟩
 |some x=>
 rw[ad]at e;simp only at e;have⟨Y,J,Z,K⟩:=k2 ad;rw[if_pos (by rfl),bB,al];refine⟨λh=>absurd rfl h,λ_=>?_⟩;have E:fB n a.i a.v:=by
  have:=oU z J K;rwa [show((a.i.toNat:Nat):Int)=a.i by omega]at this
 apply(p2 (i:=a.i) (v:=a.v) (h.ext B)).mono;rintro _ aa _ ⟨rfl,L⟩;have M:iN s a.i.toNat a.v.toNat=x.un.getD a.v.toNat 0:=by
  unfold iN;rw[J]
 rw[if_pos E,M,bo,bp];have G:=B.trans L;apply(uo (h.ext G)).mono;rintro _ ab _ ⟨rfl,N⟩;have H:=G.trans N;apply(rX (h.ext H) z.zero (hd z J)).mono;rintro _ ac _ ⟨rfl,O⟩;have I:=H.trans O;apply(ki (h.ext I)).mono;rintro _ ae _ ⟨rfl,P⟩;have C:=I.trans P;rw[aP,al];refine⟨λQ=>?_,λS=>?_⟩
 .rw[if_pos Q]at e;exact⟨by rw[e],by rw[e];exact eJ.same h p q f C⟩
 .rw[if_neg S]at e;apply(xI (i:=a.i) (v:=a.v) (h.ext C) f.room).mono;rintro r ag _ ⟨_,T⟩;obtain⟨rfl,U,aR,y,W,X⟩:=T E;refine⟨by rw[e],?_⟩;rw[e];exact eJ.step h p q C U W X f.set
def RO(hk:5<=a.kind)(h:bx w af gT A R n s t)(O:Laid w)(Q:¬A 0)(S:fE aB t):am x7 HB [Γ af,Δ a.i,Δ a.v] w (oV aB w af gT A R n s a):=by
 have au:=h.2.2.2.1;have p:cB n.k s a=match er s a.i a.v with
  |none=>(s,1)
  |some x=>(gv s a.i.toNat a.v (aC x),0):=by
  unfold cB;rw[if_neg Ω,if_neg Ω,if_neg Ω,if_neg Ω,if_neg Ω]<;>cases er s a.i a.v<;>rfl
 apply hG func70;refine bd λg1 V aX U q=>?_;refine bd λav aa aY P z=>?_;refine bd λaw B aZ I C=>?_;have q:ag B g1 dd [Γ af]:=(ag.ext q P).ext I;have z:ag B av ah [Δ a.i]:=ag.ext z I;have C:ag B aw ah [Δ a.v]:=C;have K:=(U.trans P).trans I;have a1:=U.size;have a2:=P.size;have z3:=I.size;have ay:=q.lt;have az:=z.lt;have aA:=C.lt;rw[ax (v:=Γ af) Ψ (q.Qz T),ax (v:=Δ a.i) Ψ (z.Qz T),ax (v:=Δ a.v) Ψ (C.Qz T)];apply(ym (h.ext K)).mono;rintro _ a7 _ ⟨E,rfl⟩;have W:=K.trans E;have z4:=E.size;cases ad:er s a.i a.v with
 |none=>
  rw[ad]at p;rw[if_neg Ξ,bB,al];refine⟨λ_=>?_,λh=>absurd Φ h⟩;intro a8 aD _;exact⟨by rw[p],by rw[p];exact eJ.same h O Q S (W.trans aD)⟩
 |some x=>
 rw[ad]at p;simp only at p;have⟨aE,J,ba,bb⟩:=k2 ad;rw[if_pos (by rfl),bB,al];refine⟨λh=>absurd T h,λ_=>?_⟩;rw[ax (v:=Γ af) Ψ ((q.ext E).Qz T),ax (v:=Δ a.i) Ψ ((z.ext E).Qz T)];apply(jK (i:=a.i) (h.ext W)).mono;rintro _ bc _ ⟨⟨b,aF,rfl,X⟩,Y⟩;apply(ne (b:=b) (n:=aF)).mono;rintro _ L _ ⟨aG,Z,rfl,be,ac⟩;have ae:=mz X aE J;have M:=(E.trans Y).trans aG;have bf:=Y.size;have bg:=M.size;have bh:=ac.lt;refine jW.old ⟨_,false,iT,#[Γ Z],_,_,_,_,λj w'=>fF aB w af gT A R n w.heap.size (λr=>L.heap.size<=r) (gv s a.i.toNat a.v ((aC x).take j)) w'/\ai (λr=>r<w.heap.size\/L.heap.size<=r) L w',λ_ _ _=>False,T,(nc (g:=Z) X.1).s,?_,
  λ_ _ J h=>⟨h.1.ext J,h.2.ext J⟩,λ_ _ _ J h=>⟨h.1.ext J,h.2.trans (J.ab _)⟩,λ_ _ _ _ _ h=>h,⟨ac,O.ext (K.trans M)⟩,⟨fF.start h O Q S (K.trans M) (o4 _),ai.refl _ _⟩,?_,?_,λ_ _ h=>h.elim,λ_ _ _ h=>h.elim⟩
 .rintro _ _ _ _ ⟨_,_,_,_,rfl⟩;rfl
 .rintro _ j _ bi ⟨aj,aH⟩ ⟨bj,rfl,v,aI,aJ⟩ ⟨G,H⟩;cases aJ;intro aK f _ _;have ak:(aC x)[j]?=σ (v:Int):=by rw[<-ae,x8,aI];rfl
  have aL:fB n a.i (v:Int):=by
   have:=oU au J (x5 ak);rwa [show((a.i.toNat:Nat):Int)=a.i by omega]at this
  have a6:∀{g:Nat}{e:p9}{cs:List x1},w.heap.size<=g->g<B.heap.size->ag B g e cs->ag aK g e cs:=λaM aN aO=>((aO.ext M).ab H Ω).ext f;have N:=RG (s:=s) (i:=a.i.toNat) (v:=a.v) ak;have⟨bk,bl,aP,an,aQ⟩:=G.open;rw[ax (v:=Δ a.v) Ψ ((a6 Ω aA C).Qz T),bB,al];refine⟨λaS=>?_,λhe=>?_⟩
  .rw[if_pos aS]at N;rw[ax (v:=Γ af) Ψ ((a6 Ω ay q).Qz T),ax (v:=Δ a.i) Ψ ((a6 Ω az z).Qz T)];apply(xI (i:=a.i) (v:=(v:Int)) (aP.ext f) an.room).mono;rintro r bm _ ⟨_,aT⟩;obtain⟨rfl,aU,aR,y,aV,ao⟩:=aT aL;rw[<-N]at ao;have bn:=H.size;have⟨ap,aq,bo⟩:=aQ (D':=λr=>L.heap.size<=r) (kf f aU) ((Grow.ext f).trans aV) ao an.set (λr h=>h) λr aM aN=>Ω
   exact⟨⟨aj.ab aq Ω,ap.2.1.1⟩,⟨ap,H.trans aq⟩,λh=>by cases h⟩
  .rw[if_neg he]at N;exact⟨⟨aj.ext f,aH.ext f⟩,⟨by rw[N];exact G.ext f,H.trans (f.ab _)⟩,λh=>by cases h⟩
 .rintro k bp rfl ⟨G,H⟩;rw[b8 (by rw[<-ae,r8];exact o4 _)]at G;intro bq aW _;exact⟨by rw[p],by rw[p];exact G.done aW⟩
end
def RP{dn:x1}{l:Λ}(h:aI .i64 w dn l)(O:l.length<=1000000):am x7 Ij [dn,Δ v] w λr w'=>Ext w w'/\(∃g,av .i64 ah w' g r (l.filter λy=>!decide (y=v)))/\∀q,leads r q->w.heap.size<=q:=by
 apply az func138;rw[aW an.u h];refine bT.range l.length (λi out f=>Ext w f/\(∃g,av .i64 ah f g out ((l.take i).filter λy=>!decide (y=v)))/\∀r,leads out r->w.heap.size<=r) h.le ⟨Ext.refl _,⟨0,av.nil _ _ _ _⟩,λr C=>by have⟨_,_,_,e,_⟩:=C;cases e⟩ ?_ ?_
 .rintro q out f E G ⟨a,⟨g,hm⟩,p⟩ H;have⟨y,s⟩:=aH (l:=l) G;have x:(l.take (q+1)).filter (λy=>!decide (y=v))=(l.take q).filter (λy=>!decide (y=v))++(if y≠v then[y]else[]):=by
   rw[u9,s,n9,List.filter_append];congr 1;by_cases aB:y=v<;>simp[aB]
  apply bz Ω;refine aV (λz A=>Ext w A/\(∃g,av .i64 ah A g z ((l.take (q+1)).filter λy=>!decide (y=v)))/\∀r,leads z r->w.heap.size<=r) (λ_ _ I=>by rw[aN];exact H _ _ I) λaA B=>?_;rw[bc an.u ah.i Ψ (h.ext a) s,bB,al];refine⟨λJ=>?_,λhe=>B _ _ ⟨a,⟨g,by rw[x,if_neg he,W6];exact hm⟩,p⟩⟩;refine Fk (w0:=w) a hm p ?_ λP w' K L M N=>B _ _ ⟨L,⟨K,by rw[x,if_pos J];exact M⟩,N⟩;have h1:=R5 (λy=>!decide (y=v)) (l.take q);rw[l9]at h1;omega
 .rintro out f E ⟨a,hm,p⟩;rw[o6]at hm;apply b4 Ω;exact⟨a,hm,p⟩
theorem yv{i:Nat}{v:Int}:∀(L:Λ)(s:ap)(x:bC),s.vars[i]?=σ x->(∀y∈L,0<=y)->∃m,gv s i v L={s with vars:=s.vars.set i {x with mask:=m}}/\aC {x with mask:=m}=(aC x).filter λy=>!(decide (y∈L)&& !decide (y=v))
 |[],s,x,J,_=>by
  refine⟨x.mask,?_,(List.filter_eq_self.2 λy _=>Ξ).symm⟩;have:s.vars.set i x=s.vars:=by
   apply Y4;intro q;by_cases e:i=q
   .subst e;rw[c8 (x4.1 J).1,J]
   .rw[Y2 e]
  show s={s with vars:=s.vars.set i x};rw[this]
 |w::L,s,x,J,f=>by
  have hw:=f w (.head _);have z:=(x4.1 J).1;rw[gv];by_cases e:w≠v
  .rw[if_pos e];have r:eo s i w.toNat={s with vars:=s.vars.set i {x with mask:=((x.mask.toNat ||| 2 ^ w.toNat:Nat):Int)}}:=by unfold eo;rw[J]
   obtain⟨m,h1,p⟩:=yv L (eo s i w.toNat) {x with mask:=((x.mask.toNat ||| 2 ^ w.toNat:Nat):Int)} (by rw[r];exact c8 z) λy a=>f y (.tail _ a);refine⟨m,?_,?_⟩
   .rw[h1,r];simp only[List.set_set]
   .rw[p,yg hw,List.filter_filter];refine List.filter_congr λy _=>?_;by_cases a:y=w
    .subst a;simp[e]
    .simp[a]
  .rw[if_neg e];obtain⟨m,h1,p⟩:=yv L s x J λy a=>f y (.tail _ a);refine⟨m,h1,?_⟩;rw[p];have e:=Z9.1 e;refine List.filter_congr λy _=>?_;by_cases a:y=v
   .simp[a]
   .have:y≠w:=λh=>a (h.trans e);simp[a,this]
def filter_one{l:Λ}(h:l.Nodup)(ad:v∈l):l.filter (λy=>decide (y=v))=[v]:=by
 induction l with
 |nil=>cases ad
 |cons a l p=>
  have f:=List.nodup_cons.1 h;by_cases e:a=v
  .subst e;rw[List.filter_cons_of_pos Ξ,List.filter_eq_nil_iff.2 λx J=>by simp;intro q;exact f.1 (q▸J)]
  .rw[List.filter_cons_of_neg (by simpa using e)];exact p f.2 ((V2.1 ad).resolve_left (Ne.symm e))
def jQ(u:ap)(a:h3):Option bC:=if 3<a.kind then er u a.i a.v else hg u a.i
section
variable{w:x3}{af gT ao:Nat}{A R:ak}{A9:Nat->ak}{aJ:ak}{n:aG}{s u:ap}{t:aD}{h:List aD}{cs:List x1}{a:h3}
def Fy{x:bC}(h:jQ u a=σ x):0<=a.i/\u.vars[a.i.toNat]?=σ x/\x.gone=0/\(3<a.kind->a.v∈aC x):=by
 unfold jQ at h;split at h
 .obtain⟨h1,e,f,p⟩:=k2 h;exact⟨h1,e,f,λ_=>p⟩
 .rename_i hk;have⟨h1,e,f⟩:=ys h;exact⟨h1,e,f,λh=>absurd h hk⟩
def RQ(h:¬(0<=a.i/\a.i<u.vars.length)):jQ u a=ν:=by
 cases he:jQ u a with
 |none=>rfl
 |some x=>
  have⟨h1,e,_⟩:=Fy he;exact absurd ⟨h1,by have:=(x4.1 e).1;omega⟩ h
def RR{x:bC}(e:0<=a.i)(J:u.vars[a.i.toNat]?=σ x):jQ u a=if x.gone=0/\(3<a.kind->a.v∈aC x)then σ x else ν:=by
 unfold jQ;by_cases hk:3<a.kind
 .rw[if_pos hk];unfold er;rw[if_pos e,J];simp only[hk,true_implies]
 .rw[if_neg hk];unfold hg;rw[if_pos e,J];simp only[hk,false_implies,and_true]
def RS(hk:2<=a.kind/\a.kind<=5)(h:jQ u a=ν):cB n.k u a=(u,1):=by
 unfold jQ at h;by_cases e:3<a.kind
 .rw[if_pos e]at h;unfold cB;rw[if_neg Ω,if_neg Ω,if_neg Ω,if_neg Ω,h];split<;>rfl
 .rw[if_neg e]at h;by_cases f:a.kind=2
  .rw[yt f,h]
  .rw[yu Ω,h]
theorem Fz{x:bC}{c:Int}(q:0<=c):jm x<c↔aC x=[]\/∃v∈aC x,x.un.getD v.toNat 0<c:=by
 unfold jm;constructor
 .intro h;cases a:aC x with
  |nil=>exact .inl T
  |cons b l=>
   refine .inr ?_;rw[a]at h;simp only[U7]at h;by_cases e:∀v∈b::l,c<=x.un.getD v.toNat 0
   .have:=(qe (l.map λv=>x.un.getD v.toNat 0) (x.un.getD b.toNat 0) c).2 ⟨e b (.head _),λy f=>by obtain⟨v,ad,rfl⟩:=j5.1 f;exact e v (.tail _ ad)⟩;omega
   .simp only[Classical.not_forall]at e;obtain⟨v,ad,r⟩:=e;exact⟨v,ad,Ω⟩
 .rintro (h|⟨v,ad,s⟩)
  .rw[h];show(-1:Int)<c;omega
  .cases a:aC x with
   |nil=>rw[a]at ad;cases ad
   |cons b l=>
    rw[a]at ad;simp only[U7];rcases Int.lt_or_le ((l.map λv=>x.un.getD v.toNat 0).foldl min (x.un.getD b.toNat 0)) c with aB|aB
    .exact aB
    .obtain⟨w,p⟩:=(qe _ _ _).1 aB;rcases V2.1 ad with rfl|ad
     .omega
     .have:=p _ (j5.2 ⟨v,ad,T⟩);omega
def yw(n:aG)(u:ap)(x:bC)(a:h3):Prop:=aC x=[]\/(a.kind=3/\u.zero<a.c)\/(a.kind=2/\∃v∈aC x,x.un.getD v.toNat 0<a.c)
def RT{x:bC}(hk:a.kind=2\/a.kind=3)(h:jQ u a=σ x):(¬(0<=a.c/\a.c<=n.k)->cB n.k u a=(u,3))/\((0<=a.c/\a.c<=n.k)->yw n u x a->cB n.k u a=(u,7))/\
  ((0<=a.c/\a.c<=n.k)->¬yw n u x a->cB n.k u a=(k1 u a.i.toNat x (λg=>if a.kind=2 then dR n.k g a.c else dC n.k g a.c) (λg=>if a.kind=2 then dC n.k g a.c else dR n.k g a.c),0)/\(a.kind=2->∀v∈aC x,a.c<=x.un.getD v.toNat 0)/\(a.kind=3->a.c<=u.zero)):=by
 have ad:hg u a.i=σ x:=by unfold jQ at h;rwa [if_neg Ω]at h
 rcases hk with hk|hk
 .have e:=yt (n:=n) (s:=u) hk;rw[ad]at e;simp only at e;simp only[hk];refine⟨λf=>?_,λf hi=>?_,λf hi=>?_⟩
  .have p:∀m,dv n.k a.c m=3:=λm=>by unfold dv;rw[if_pos f]
   rw[p,if_pos Φ]at e;exact e
  .have q:jm x<a.c:=(Fz f.1).2 (hi.elim .inl λh=>h.elim (λh=>Ω) λh=>.inr h.2);have p:∀m,m<a.c->dv n.k a.c m=7:=λm hm=>by unfold dv;rw[if_neg (λh=>h f),if_pos hm]
   rw[p _ q,if_pos Φ]at e;exact e
  .have q:¬jm x<a.c:=λh=>hi (((Fz f.1).1 h).elim .inl λh=>.inr (.inr ⟨hk,h⟩));have p:dv n.k a.c (jm x)=0:=by unfold dv;rw[if_neg (λh=>h f),if_neg q]
   rw[p,if_neg Φ]at e;refine⟨by rw[e];simp,λ_ v ad=>?_,λh=>absurd h Φ⟩;rcases Int.lt_or_le (x.un.getD v.toNat 0) a.c with aB|aB
   .exact absurd (.inr (.inr ⟨hk,v,ad,aB⟩)) hi
   .exact aB
 .have e:=yu (n:=n) (s:=u) hk;rw[ad]at e;simp only at e;simp only[hk];refine⟨λf=>?_,λf hi=>?_,λf hi=>?_⟩
  .have p:∀m,dv n.k a.c m=3:=λm=>by unfold dv;rw[if_pos f]
   rw[p,if_pos Φ]at e;exact e
  .have q:(if aC x=[]then-1 else u.zero)<a.c:=by
    by_cases r:aC x=[]
    .rw[if_pos r];omega
    .rw[if_neg r];rcases hi with hi|hi|hi
     .exact absurd hi r
     .exact hi.2
     .omega
   have p:∀m,m<a.c->dv n.k a.c m=7:=λm hm=>by unfold dv;rw[if_neg (λh=>h f),if_pos hm]
   rw[p _ q,if_pos Φ]at e;exact e
  .have r:¬aC x=[]:=λh=>hi (.inl h);have w:¬u.zero<a.c:=λh=>hi (.inr (.inl ⟨hk,h⟩));have p:dv n.k a.c u.zero=0:=by unfold dv;rw[if_neg (λh=>h f),if_neg w]
   rw[if_neg r,p,if_neg Φ]at e;exact⟨by rw[e];simp,λh=>absurd h Φ,λ_=>Ω⟩
end
section
variable{w:x3}{af gT ao:Nat}{A R:ak}{A9:Nat->ak}{aJ:ak}{n:aG}{s u:ap}{t:aD}{h:List aD}{cs:List x1}{a:h3}
def RU(p:cm w af gT ao A R A9 aJ n s u t h cs)(au:bi n.k n.sizes u)(hk:2<=a.kind/\a.kind<=5):am x7 vD [Γ ao,Δ (a.kind:Int),Δ a.i,Δ a.pos,Δ a.v,Δ a.c] w λr w'=>r=Δ (cB n.k u a).2/\dx w af gT ao A R A9 aJ n s t h (cB n.k u a).1 w':=by
 have cr:=au.vars;have ct:=au.eg;apply az func64;have bN:cs[0]?=σ (Δ n.k):=by obtain⟨_,_,_,_,_,_,rfl,_⟩:=p.oQ;rfl
 rw[aT aX.p 0 p.box bN,aP,al];refine⟨λh=>Ω,λ_=>?_⟩;refine aV (λr w'=>r= .bool (!(jQ u a).isSome)/\Ext w w') ?_ λaA a7=>?_
 rotate_left
 .rw[bZ];refine p.look.load λdj cw=>?_;apply(QM (i:=a.i) cw).mono;rintro _ V _ ⟨rfl,W⟩;rw[bK,ca];refine⟨λO=>a7 _ _ ⟨by rw[RQ (λh=>by rw[cr]at h;rw[decide_eq_true h]at O;cases O)];rfl,W⟩,λO=>?_⟩;have ba:0<=a.i/\a.i<n.sizes.length:=by simpa using O
  have⟨x,J⟩:=aH (l:=u.vars) (i:=a.i.toNat) Ω;have bp:=RR ba.1 J;have⟨szv,cz,dm,aS,dn,bq,bO,_,_,cA,cC,dp,dq,dr⟩:=(p.look).ext W;rw[aT aX.p 4 bO T];refine gj (α:=Bool) (a:=decide (x.gone≠0)) (i:=a.i.toNat) T Ω jt.u e5.i Ψ cC (by rw[x8,J];rfl) λbP br=>?_;have br:[bP]=[x1.bool (decide (x.gone≠0))]:=br;obtain rfl:bP=x1.bool (decide (x.gone≠0)):=by simpa using br
  rw[al];refine⟨λP=>a7 _ _ ⟨by rw[bp,if_neg λh=>P h.1];rfl,W⟩,λP=>?_⟩;have P:=Z9.1 P;rw[bJ,al];refine⟨λbt=>?_,λbt=>a7 _ _ ⟨by rw[bp,if_pos ⟨P,λh=>absurd h Ω⟩];rfl,W⟩⟩;rw[aT aX.p 3 bO T];refine gj (α:=Λ) (a:=aC x) (i:=a.i.toNat) T Ω cU.u an.i Ψ cA (by rw[x8,J];rfl) λds cD=>?_;apply(xJ (de cD)).mono;rintro _ aa _ ⟨rfl,I⟩;rw[bK];refine a7 _ _ ⟨?_,W.trans I⟩;rw[bp];by_cases ad:a.v∈aC x
  .rw[if_pos ⟨P,λ_=>ad⟩,decide_eq_true ad];rfl
  .rw[if_neg λh=>ad (h.2 Ω),decide_eq_false ad];rfl
 rintro _ V ⟨rfl,W⟩;cases hm:jQ u a with
 |none=>
  have f:=RS (n:=n) hk hm;rw[R3,W3,bV];exact⟨by rw[f],by rw[f];exact dx.same p W⟩
 |some x=>
 rw[T6,Y7,a8];have⟨cE,J,dt,cF⟩:=Fy hm;have⟨C,aK⟩:=X7 cE;rw[aK,u7]at J;have bu:=(x4.1 J).1;have H:∀y∈aC x,0<=y/\y<x.un.length:=λy N=>(gg.1 N).1;simp only[aK];have bR:∀v:Nat,0<=x.un.getD v 0/\x.un.getD v 0<=n.k:=λv=>hd au J;have M:=p.ext W;have du:cs[0]?=σ (Δ n.k):=bN;have bw:∀{aa:x3}{eY:ap}{bU:List x1}{bx:Nat->ak}{aL:bC},cm aa af gT ao A R bx aJ n s eY t h bU->eY.vars[C]?=σ aL->∃aS av y,aI .i64 aa y aL.un/\(∀{B:x3}{K:x1->x1->x1->x1->x1->Prop},Ext aa B->K (Γ ao) (.pointer (σ ⟨ao,0+5,ν⟩)) aS (.pointer (σ ⟨av,0+C*1,ν⟩)) y->
    ac x7 (bQ (Γ ao)) B λaw=>ac x7 (u6 aX aw 5) B λaD=>ac x7 (u5 dZ aD) B λaM=>ac x7 (j9 dZ aM (Δ (C:Int))) B λbb=>ac x7 (u5 ay bb) B λcG=>K aw aD aM bb cG)/\
   ∀{w':x3}{v:Nat}{c:Int}{K:Unit->x3->Prop},Ext aa w'->v<aL.un.length->(∀bW,jO aa af gT ao A R bx aJ n s t h (eI eY C aL (aL.un.set v c)) bW->K () bW)->ac x7 (j9 ay y (Δ (v:Int))) w' λa=>aE x7 (o8 aq a (Δ c)) w' K:=λ{aa eY bU bx aL}bX E=>by
  have⟨av,cH,y,cI,cJ,Z,bA⟩:=yq bX E;have cK:=(x4.1 E).1;refine⟨.slice (σ ⟨av,0,ν⟩) eY.vars.length cH,av,y,Z,λ{B K}aF aY=>?_,bA⟩;rw[aT aX.p 5 (bX.box.ext aF) cI,fg dZ.u ay.i cK λ_=>rfl,ax (v:=y) (o:=0+C*1) Ψ (by rw[X2,U2];exact iW aF cJ)];exact aY
 have⟨cL,cM,bd,bY,cN,ag,cO,b0⟩:=Rm M J;have b1:∀{B:x3}{K:x1->x1->x1->Prop},Ext V B->K (Γ ao) (.pointer (σ ⟨ao,0+3,ν⟩)) (.slice (σ ⟨cL,0,ν⟩) u.vars.length cM)->
   ac x7 (bQ (Γ ao)) B λaw=>ac x7 (u6 aX aw 3) B λaD=>ac x7 (u5 cU aD) B λaM=>K aw aD aM:=λaF aY=>by
  rw[aT aX.p 3 (M.box.ext aF) bY];exact aY
 have oR:∀{B:x3}{K:x1->Prop},Ext V B->K bd->
   ac x7 (bQ (Γ ao)) B λaw=>ac x7 (u6 aX aw 3) B λaD=>ac x7 (u5 cU aD) B λaM=>ac x7 (j9 cU aM (Δ (C:Int))) B λbb=>ac x7 (u5 an bb) B K:=λaF aY=>by
  rw[aT aX.p 3 (M.box.ext aF) bY,fg cU.u an.i bu λ_=>rfl,ax (v:=bd) (o:=0+C*1) Ψ (by rw[X2,U2];exact iW aF cN)];exact aY
 have low:∀{u':ap}{w':x3},dx V af gT ao A R A9 aJ n s t h u' w'->dx w af gT ao A R A9 aJ n s t h u' w':=λbf=>dx.comp (W.ab _) (λq r H=>.inl ⟨q,H⟩) bf;refine aV (λ_ w'=>dx w af gT ao A R A9 aJ n s t h (cB n.k u a).1 w'/\(cB n.k u a).2=0) (λ_ w' bf=>⟨by rw[bf.2],bf.1⟩) λcP bB=>?_;refine aV (λr w'=>r= .bool (decide (a.kind=2\/a.kind=3))/\V=w') ?_ λdv b2=>?_
 rotate_left
 .rw[be,al];refine⟨λE=>b2 _ _ ⟨?_,T⟩,λE=>?_⟩
  .congr 1;exact decide_eq_decide.2 ⟨λ_=>.inl Ω,λ_=>E⟩
  .rw[be];refine b2 _ _ ⟨?_,T⟩;congr 1;exact decide_eq_decide.2 ⟨λh=>.inr Ω,λh=>Ω⟩
 rintro _ _ ⟨rfl,rfl⟩;rw[al];refine⟨λcQ=>?_,λdw=>?_⟩
 .
  have⟨cR,bg,bD⟩:=RT (n:=n) cQ hm;apply AJ.mono;rintro _ aa _ ⟨rfl,I⟩;have dy:=I;have b3:cu a.c n.k↔0<=a.c/\a.c<=n.k:=⟨λh=>h.2,λE=>⟨ct,E⟩⟩;rw[bK,ca];refine⟨λO=>?_,λO=>?_⟩
  .have f:=cR λh=>absurd (b3.2 h) (by simpa using O);exact⟨by rw[f],by rw[f];exact low (dx.same M I)⟩
  have ba:=b3.1 (show cu a.c n.k by simpa using O);have bg:=bg ba;have bD:=bD ba;refine aV (λr w'=>Ext V w'/\∃b,r= .bool b/\(b=true↔aC x=[]\/(a.kind=3/\u.zero<a.c))) ?_ λdz bE=>?_
  rotate_left
  .refine oR I ?_;rw[aW an.u (ag.ext I),be,al];refine⟨λhe=>bE _ _ ⟨I,true,T,⟨λ_=>.inl (j6 Ω),λ_=>rfl⟩⟩,λbh=>?_⟩;have bh:aC x≠[]:=λh=>bh (by rw[h];rfl);rw[be,al];refine⟨λbt=>?_,λbt=>bE _ _ ⟨I,false,T,⟨(λh=>by cases h),λh=>h.elim (λh=>absurd h bh) λh=>Ω⟩⟩⟩;have bF:cs[2]?=σ (Δ u.zero):=by obtain⟨_,_,_,_,_,_,rfl,_⟩:=p.oQ;rfl
   rw[aT aX.p 2 (M.box.ext I) bF,bJ];exact bE _ _ ⟨I,_,T,by rw[decide_eq_true_eq];exact⟨λh=>.inr ⟨Ω,h⟩,λh=>h.elim (λh=>absurd h bh) λh=>h.2⟩⟩
  rintro _ cS ⟨aO,b,rfl,b5⟩;rw[ca];refine⟨λcT=>?_,λae=>?_⟩
  .have f:=bg ((b5.1 cT).elim .inl λh=>.inr (.inl h));exact⟨by rw[f],by rw[f];exact low (dx.same M aO)⟩
  have b6:¬(aC x=[]\/(a.kind=3/\u.zero<a.c)):=λh=>by rw[b5.2 h]at ae;cases ae
  apply oR aO;rw[aW an.u (ag.ext aO)];refine bT.range (aC x).length (λq _ w'=>Ext V w'/\(a.kind=2->∀v∈(aC x).take q,a.c<=x.un.getD v.toNat 0)) ag.le ⟨aO,λ_ v ad=>by simp at ad⟩ ?_ ?_
  .rintro q b7 aG cV bG ⟨L,bj⟩ cW;have⟨v,ad⟩:=aH (l:=aC x) bG;have aj:=x5 ad;have bk:=H v aj;obtain⟨G,rfl⟩:=X7 bk.1;apply bz Ω;rw[bc an.u ah.i Ψ (ag.ext L) ad];refine aV (λr w'=>aG=w'/\r= .bool (decide (a.kind=2/\x.un.getD G 0<a.c))) ?_ λdA b8=>?_
   .rintro _ _ ⟨rfl,rfl⟩;rw[al];refine⟨λaZ=>?_,λbH=>?_⟩
    .have f:=bg (.inr (.inr ⟨aZ.1,_,aj,aZ.2⟩));exact⟨by rw[f],by rw[f];exact low (dx.same M L)⟩
    .rw[aN];refine cW _ _ ⟨L,λE y N=>?_⟩;rw[u9,ad,n9,o5,o9]at N;rcases N with N|rfl
     .exact bj E y N
     .rcases Int.lt_or_le (x.un.getD G 0) a.c with aB|aB
      .exact absurd ⟨E,aB⟩ bH
      .exact aB
   rw[be,al];refine⟨λE=>?_,λE=>b8 _ _ ⟨T,by rw[decide_eq_false λh=>E Ω]⟩⟩;have⟨aS,av,y,Z,look,_⟩:=bw (M.ext L) J;apply look (Ext.refl _);rw[bc ay.u aq.i Ψ Z (getD_some (i:=G) Ω),bJ];refine b8 _ _ ⟨T,?_⟩;congr 1;exact decide_eq_decide.2 ⟨λh=>⟨Ω,h⟩,λh=>h.2⟩
  rintro b7 aG cV ⟨L,bj⟩;rw[o6]at bj;have cX:¬yw n u x a:=λhi=>hi.elim (λh=>b6 (.inl h)) λh=>h.elim (λh=>b6 (.inr h)) λ⟨E,v,ad,aZ⟩=>by have:=bj E v ad;omega
  have⟨f,dD,dE⟩:=bD cX;rw[aK,u7]at f;apply b4 Ω;apply oR L;rw[aW an.u (ag.ext L)];obtain⟨g,P⟩:∃g:Int->Int,g=λg=>if a.kind=2 then dR n.k g a.c else dC n.k g a.c:=⟨_,T⟩;obtain⟨z,bI⟩:∃z:Int->Int,z=λg=>if a.kind=2 then dC n.k g a.c else dR n.k g a.c:=⟨_,T⟩;rw[<-P,<-bI]at f;have cY:=M.ext L;have cZ:=ag.ext L;have b9:=rV x;obtain⟨cb,dF⟩:∃cb,bd=cb:=⟨_,T⟩;have c0:eI u C x (ej g x.un ((aC x).take 0))=u:=by
   unfold eI;show{u with vars:=u.vars.set C x}=u;have:u.vars.set C x=u.vars:=by
    apply Y4;intro i;by_cases e:C=i
    .subst e;rw[c8 bu,J]
    .rw[Y2 e]
   rw[this]
  have c1:∀{w':x3},ai (A9 2) aG w'->aI .i64 w' bd (aC x):=λc2=>ia cZ c2 λr H b n c e O=>M.gR.1 0 2 r Φ (cO r ⟨b,n,c,e,O⟩) H;refine cp.range (aC x).length (λq w'=>jO aG af gT ao A R A9 aJ n s t h (eI u C x (ej g x.un ((aC x).take q))) w') ag.le (by rw[c0];exact jO.same cY (Ext.refl _)) ?_ ?_
  .rintro q bl c3 bG aQ c4;have⟨bm,cc,cd,aR,bL,c5⟩:=id aQ;have⟨v,ad⟩:=aH (l:=aC x) bG;have aj:=x5 ad;have bk:=H v aj;obtain⟨G,rfl⟩:=X7 bk.1;have bn:(eI u C x (ej g x.un ((aC x).take q))).vars[C]?=σ {x with un:=ej g x.un ((aC x).take q)}:=c8 bu;have dG:(ej g x.un ((aC x).take q)).length=x.un.length:=uC _ _;have bM:=uD (g:=g) ((aC x).take q) x.un (G:Int) (b9.sublist (List.take_sublist _ _)) (λy N=>H y (T9 N)) Ω;rw[if_neg (yl b9 ad),u7]at bM;have c6:=bR G;have⟨aS,av,y,Z,look,bA⟩:=bw aR bn;apply bz Ω;refine dc (λQ=>jO aG af gT ao A R A9 aJ n s t h (eI u C x (ej g x.un ((aC x).take (q+1)))) Q) (λQ S=>by rw[aN];exact c4 _ S) λc7 c9=>?_;have a1:∀{U:x3},Ext bl U->ac x7 (j9 ay y (Δ (G:Int))) U λa'=>aE x7 (o8 aq a' (Δ (g (x.un.getD G 0)))) U λ(_:Unit)Q=>c7 Q:=λbo=>by
    refine bA bo (by show G<(ej g x.un ((aC x).take q)).length;omega) λQ S=>c9 _ (jO.comp bm bL c5 ?_);have e:eI (eI u C x (ej g x.un ((aC x).take q))) C {x with un:=ej g x.un ((aC x).take q)} ((ej g x.un ((aC x).take q)).set G (g (x.un.getD G 0)))=eI u C x (ej g x.un ((aC x).take (q+1))):=by
     rw[Ft ad,u7,bM];unfold eI;simp only[List.set_set]
    rw[e]at S;exact S
   have ce:(ej g x.un ((aC x).take q))[G]?=σ (x.un.getD G 0):=by rw[getD_some Ω,bM]
   rw[bc an.u ah.i Ψ (c1 bm) ad,be,al];refine⟨λE=>?_,λE=>?_⟩
   .intro B X _ _;refine look X (look X ?_);rw[bc ay.u aq.i Ψ (Z.ext X) ce];apply(uL Ω Ω).mono;rintro _ U _ ⟨rfl,Y⟩;refine⟨.inl Y,?_⟩;have:=a1 (X.trans Y);rw[P]at this;simp only[if_pos (show a.kind=2 by omega)]at this;exact this
   .intro B X _ _;refine look X (look X ?_);rw[bc ay.u aq.i Ψ (Z.ext X) ce];apply(mp Ω Ω).mono;rintro _ U _ ⟨rfl,Y⟩;refine⟨.inl Y,?_⟩;have:=a1 (X.trans Y);rw[P]at this;simp only[if_neg (show¬a.kind=2 by omega)]at this;exact this
  .rintro bl c3 aQ;rw[o6]at aQ;apply b4 Ω;have aQ:=aQ.Fl;have⟨bm,cc,cd,aR,bL⟩:=id aQ;have cg:cd[2]?=σ (Δ u.zero):=by obtain⟨_,_,_,_,_,_,rfl,_⟩:=aR.oQ;rfl
   have da:=au.zero;have a1:∀{U:x3},Ext bl U->aE x7 (o8 aq (.pointer (σ ⟨ao,0+2,ν⟩)) (Δ (z u.zero))) U λ(_:Unit)Q=>cP b7 Q:=λbo=>by
    refine Rl (aR.ext bo) λQ S=>bB _ _ ⟨?_,by rw[f]⟩;rw[f];have ch:=dx.comp (A9:=cc) (bo.ab _) (λq r H=>.inl ⟨q,H⟩) S;have a2:=dx.comp bm bL ch;exact low (dx.comp (L.ab _) (λq r H=>.inl ⟨q,H⟩) a2)
   rw[be,al];refine⟨λE=>?_,λE=>?_⟩
   .rw[aT aX.p 2 aR.box cg];apply(mp Ω Ω).mono;rintro _ U _ ⟨rfl,Y⟩;rw[bZ,aU aX.p T];have:=a1 Y;rw[bI]at this;simp only[if_pos (show a.kind=2 by omega)]at this;exact this
   .rw[aT aX.p 2 aR.box cg];apply(uL Ω Ω).mono;rintro _ U _ ⟨rfl,Y⟩;rw[bZ,aU aX.p T];have:=a1 Y;rw[bI]at this;simp only[if_neg (show¬a.kind=2 by omega)]at this;exact this
 .
  have ci:3<a.kind:=Ω
  have aj:=cF ci;have⟨G,bq⟩:=X7 (H _ aj).1;have bk:=(H _ aj).2;have cj:er u a.i a.v=σ x:=by unfold jQ at hm;rwa [if_pos ci]at hm
  rw[be,al];refine⟨λa2=>?_,λa2=>?_⟩
  .have a2:a.kind=4:=Ω
   have f:cB n.k u a=if dC n.k u.zero (x.un.getD a.v.toNat 0)<n.k then(u,7)else(eo u a.i.toNat a.v.toNat,0):=by
    unfold cB;rw[if_neg Ω,if_neg Ω,if_neg Ω,if_neg Ω,if_pos a2,cj]
   have da:=au.zero;have c6:=bR G;intro aa I _ _;have bF:cs[2]?=σ (Δ u.zero):=by obtain⟨_,_,_,_,_,_,rfl,_⟩:=p.oQ;rfl
   have⟨aS,av,y,Z,look,_⟩:=bw (M.ext I) J;rw[aT aX.p 2 (M.box.ext I) bF];apply look (Ext.refl _);rw[bq,bc ay.u aq.i Ψ Z (getD_some (i:=G) Ω)];apply(mp Ω Ω).mono;rintro _ cS _ ⟨rfl,aO⟩;have ck:=I.trans aO;rw[bq,u7]at f;unfold dC at f;rw[aP,al];refine⟨λaZ=>?_,λbH=>?_⟩
   .rw[if_pos aZ]at f;exact⟨by rw[f],by rw[f];exact low (dx.same M ck)⟩
   .rw[if_neg bH]at f;intro aG L _ _;have a6:=ck.trans L;apply b1 a6;apply oR a6;have dH:=qg x;have db:=au.fz.2.2;refine(RP (v:=(G:Int)) (ag.ext a6) (by
     have⟨cl,cn⟩:=aH (l:=n.sizes) (i:=C) Ω;have h1:=(au.var C x cl J cn).1;have E:=db cl (x5 cn);omega)).mono ?_
    rintro cz bl _ ⟨bn,⟨gz,dd⟩,df⟩;refine⟨.inl bn,?_⟩;have dg:=a6.trans bn;have dI:=a6.size;refine b0 (m:=((x.mask.toNat ||| 2 ^ G:Nat):Int)) dg (gz:=gz) (by rw[show G=(G:Int).toNat from T,yg Ω];exact dd) (λr H=>by have:=df r H;omega) λQ S=>bB _ _ ⟨?_,by rw[f]⟩;rw[f,aK,u7];unfold eo;rw[J];exact low S
  .have ch:a.kind=5:=Ω
   have⟨m,dh,di⟩:=yv (i:=a.i.toNat) (v:=a.v) (aC x) u x (by rw[aK,u7];exact J) λy N=>(H y N).1;have f:cB n.k u a=(gv u a.i.toNat a.v (aC x),0):=by
    unfold cB;rw[if_neg Ω,if_neg Ω,if_neg Ω,if_neg Ω,if_neg Ω,cj]
   have dk:aC {x with mask:=m}=[a.v]:=by
    rw[di,<-filter_one (rV x) aj];refine List.filter_congr λy N=>?_;rw[decide_eq_true N,U8,Bool.not_not]
   rw[be,al];refine⟨λ_=>?_,λh=>Ω⟩;apply b1 (Ext.refl _);refine eD (k:=.i64) an.u ah.i T λv4 dl aG dJ L cq=>?_;refine b0 (m:=m) L (gz:=dl) (by rw[dk];exact cq) (λr H=>by have:=bS cq H;omega) λQ S=>bB _ _ ⟨?_,by rw[f]⟩;rw[f,dh,aK,u7];exact low S
end
def yx(T:Nat)(acc:List cn)(s:aF):Prop:=∃M,(∀x∈acc,x.lines.length<=M)/\(∀q∈s.shared,q.2.length<=M)/\3*acc.length+M+s.toks.length<=T
def RV{sizes:Λ}{s s':aF}{l:List (Λ×Int)}{M:Nat}(x:∀q∈s.shared,q.2.length<=M)(h:dF sizes s=σ (l,s')):
  s'.shared=s.shared/\∃e,M<=e/\l.length<=e/\e+s'.toks.length+1<=M+s.toks.length:=by
 unfold dF at h;cases f:bh (-aw) aw s with
 |none=>rw[f]at h;cases h
 |some q=>
  have⟨n,s1⟩:=q;rw[f]at h;simp only at h;have h1:=dl f;have⟨A,B,p⟩:=h1.eqs;have C:=h1.1;split at h
  .cases U:s1.shared[(-n-1).toNat]? with
   |none=>rw[U]at h;cases h
   |some q=>
    have⟨z,l'⟩:=q;rw[U]at h;simp only at h;split at h
    .simp only[Y3,T1]at h;obtain⟨rfl,rfl⟩:=h;have hm:=x5 U;rw[p]at hm;exact⟨p,M,o4 _,x _ hm,Ω⟩
    .cases h
  .have:=i7 (λacc t=>t.shared=s.shared/\t.toks.length+acc.length<=s1.toks.length) (λacc t a bt ⟨r,y⟩ g=>by
    have⟨E,F,G,w⟩:=oj g;have⟨f1,f2,f3⟩:=w.eqs;exact⟨by rw[f3,r],by have:=w.1;simp only[r9,T2];omega⟩) n.toNat [] (bb (decide (16384<min (s1.told+n) aw)) {s1 with told:=min (s1.told+n) aw}) l s' ⟨p,by simp[bb]⟩ h
   have⟨⟨r,y⟩,_⟩:=this;exact⟨r,M+l.length,Ω,Ω,Ω⟩
def RW{all:Λ}{T:Nat}{acc:List cn}{s s':aF}{f:cn}(K:yx T acc s)(h:cZ all s=σ (f,s')):yx T (acc++[f]) s':=by
 have⟨M,L,B,N⟩:=K;unfold cZ at h;cases y:bh (-aw) aw s with
 |none=>rw[y]at h;cases h
 |some q=>
 have⟨a,s1⟩:=q;rw[y]at h;simp only at h;have t0:=dl y;cases h1:eW all.length a.natAbs s1 with
 |none=>rw[h1]at h;cases h
 |some q=>
 have⟨sc,r⟩:=q;rw[h1]at h;simp only at h;have⟨C,_⟩:=tj h1;generalize sc.map (λv=>all.getD v.toNat 0)=sizes at h;cases z:bh 0 aw (bb (decide (6<a.natAbs)||dq sizes) r)with
 |none=>rw[z]at h;cases h
 |some q=>
 have⟨other,A⟩:=q;rw[z]at h;simp only at h;have E:=dl z;have F:A.shared=s.shared:=by rw[E.eqs.2.2];show r.shared=_;rw[C.eqs.2.2,t0.eqs.2.2]
 have O:A.toks.length+2<=s.toks.length:=by
  have:=t0.1;have:=C.1;have w:=E.1;have:(bb (decide (6<a.natAbs)||dq sizes) r).toks.length=r.toks.length:=rfl;omega
 cases w:dF sizes A with
 |none=>rw[w]at h;cases h
 |some q=>
 have⟨lines,p⟩:=q;rw[w]at h;simp only[Y3,T1]at h;obtain⟨rfl,rfl⟩:=h;have⟨g1,G,P,H,Q⟩:=RV (M:=M) (by rw[F];exact B) w;have I:∀q∈p.shared,q.2.length<=G:=λq e=>by rw[g1,F]at e;have:=B q e;omega
 refine⟨G,λx J=>?_,λq e=>?_,?_⟩
 .rcases o5.1 J with J|J
  .have:=L x J;omega
  .rw[o9.1 J];exact H
 .split at e
  .rcases o5.1 e with e|e
   .exact I q e
   .rw[o9.1 e];exact H
  .exact I q e
 .have:(if a<0 then{p with shared:=p.shared++[(sizes,lines)]}else p).toks=p.toks:=by split<;>rfl
  rw[this,r9,T2];omega
theorem FA{M:Nat}:∀(l:List cn),(∀x∈l,x.lines.length<=M)->jd l<=l.length*M
 |[],_=>by simp[jd]
 |x::l,h=>by
  have h1:=FA l λy a=>h y (.tail _ a);have:=h x (.head _);unfold jd at h1 ⊢;rw[U7,List.sum_cons,b6,U3,Nat.one_mul];omega
def RX{q:Λ}{f:b3}(W:q.length<=300)(h:fs q=σ f):jd f.funs<=16384/\f.funs.length<=100:=by
 have X:=pw q.length q (o4 _);unfold fs at h;rw[if_neg Ω]at h;cases ae:hn ⟨(lex q).1,0,false,[]⟩with
 |none=>rw[ae]at h;cases h
 |some p=>
 have⟨Y,s'⟩:=p;rw[ae]at h;simp only at h;split at h
 rotate_left
 .cases h
 cases h;have r:(⟨(lex q).1,0,false,[]⟩:aF).toks.length<=300:=by show(lex q).1.length<=300;omega
 have H:(⟨(lex q).1,0,false,[]⟩:aF).shared=[]:=rfl;generalize (⟨(lex q).1,0,false,[]⟩:aF)=s at ae r H;unfold hn at ae;cases w:dO s with
 |none=>rw[w]at ae;cases ae
 |some p=>
 have⟨name,s0⟩:=p;rw[w]at ae;simp only at ae;have⟨V,aa⟩:=q1 w;have a0:s0.toks.length<=300/\s0.shared=[]:=⟨by rw[V]at r;simp at r;omega,by rw[aa];exact H⟩;have num:∀{lo hi n:Int}{b:Bool}{s t:aF},(s.toks.length<=300/\s.shared=[])->bh lo hi (bb b s)=σ (n,t)->t.toks.length<=300/\t.shared=[]:=λ{lo hi n b s t}L N=>by
  have:=dl N;have h1:(bb b s).toks.length=t.toks.length+1:=this.1;have e:s.toks.length=t.toks.length+1:=h1;exact⟨Ω,by rw[this.eqs.2.2];exact L.2⟩
 cases h1:bh 1 aw (bb (decide (64<name.length)) s0)with
 |none=>rw[h1]at ae;cases ae
 |some p=>
 have⟨n,s1⟩:=p;rw[h1]at ae;simp only at ae;have O:=num a0 h1;cases e:bh 1 aw (bb (decide (64<n)) s1)with
 |none=>rw[e]at ae;cases ae
 |some p=>
 have⟨most,P⟩:=p;rw[e]at ae;simp only at ae;have Q:=num O e;cases x:bh 0 aw P with
 |none=>rw[x]at ae;cases ae
 |some p=>
 have⟨y,A⟩:=p;rw[x]at ae;simp only at ae;have a3:A.toks.length<=300/\A.shared=[]:=by
  have:=dl x;exact⟨by have:=this.1;omega,by rw[this.eqs.2.2];exact Q.2⟩
 cases B:bh 1 aw (bb (decide (256<y)) A)with
 |none=>rw[B]at ae;cases ae
 |some p=>
 have⟨k,I⟩:=p;rw[B]at ae;simp only at ae;have a4:=num a3 B;cases C:cK (fi most) n.toNat [] (bb (decide (2147483648<k)) I)with
 |none=>rw[C]at ae;cases ae
 |some p=>
 have⟨sizes,E⟩:=p;rw[C]at ae;simp only at ae;have J:=i7 (f:=fi most) (λ(acc:Λ)t=>t.toks.length<=300/\t.shared=[]) (λacc t a bt g1 g=>by
  unfold fi at g;cases F:bh 1 most t with
  |none=>rw[F]at g;cases g
  |some p=>
   have⟨z,K⟩:=p;rw[F]at g;simp only[Y3,T1]at g;obtain⟨rfl,rfl⟩:=g;have:=dl F;exact⟨by show K.toks.length<=300;have:=this.1;omega,by show K.shared=[];rw[this.eqs.2.2];exact g1.2⟩) n.toNat [] (bb (decide (2147483648<k)) I) sizes E a4 C
 cases G:cK (λ_ s=>cZ sizes s) y.toNat [] E with
 |none=>rw[G]at ae;cases ae
 |some p=>
 have⟨funs,R⟩:=p;rw[G]at ae;simp only[Y3,T1]at ae;obtain⟨rfl,rfl⟩:=ae;have⟨⟨M,S,_,Z⟩,_⟩:=i7 (yx 300) (λacc t a bt T g=>RW T g) y.toNat [] E funs R ⟨0,Ξ,by rw[J.1.2];simp,by have:=J.1.1;simp;omega⟩ G;have ab:=FA funs S;show jd funs<=16384/\funs.length<=100;refine⟨?_,Ω⟩;have U:∀k<101,k*(300-3*k)<=16384:=Φ
 have ac:=Nat.mul_le_mul_left funs.length (show M<=300-3*funs.length by omega);have:=U funs.length Ω;omega
def jR(A R:ak)(A9:Nat->ak)(aJ:ak)(ao:Nat)(r:Nat):Prop:=A r\/R r\/(∃q,A9 q r)\/aJ r\/r=ao
section
variable{P:ak}{hl w w':x3}{af gT ao TJ TK TL:Nat}{A R aR R':ak}{A9 cr:Nat->ak}{aJ E8:ak}{n:aG}{s s':ap}{t bt:aD}{h h':List aD}{cs ce:List x1}{m b2:Nat}
variable{Z nF:ak}
end
def FB(h:Laid w):0<w.heap.size:=by
 rcases Q3 w.heap.size with e|e
 .have a:=h 0 _ T;unfold x3.cell? at a;rw[Array.getElem?_eq_none Ω]at a;cases a
 .exact e
def fG(Z aJ:ak)(w:x3)(af gT ao:Nat)(n:aG)(s:ap):Prop:=∃A R A9 t cs,cm w af gT ao A R A9 aJ n s s t [] cs/\(Laid w/\¬Z 0)/\(du s/\e3 (dh n) s/\n.funs.length<=256)/\(∀r,Z r↔jR A R A9 aJ ao r)/\∀q r,A9 q r->r<w.heap.size
section
variable{Z aJ S:ak}{w w' V:x3}{af gT ao:Nat}{A R:ak}{A9:Nat->ak}{n:aG}{s u:ap}{t:aD}{cs:List x1}
def fG.ext(h:fG Z aJ w af gT ao n s)(J:Ext w w'):fG Z aJ w' af gT ao n s:=by
 have⟨A,R,A9,t,cs,p,⟨a,e⟩,f,x,y⟩:=h;exact⟨A,R,A9,t,cs,p.ext J,⟨a.ext J,e⟩,f,x,λq r z=>by have:=y q r z;have:=J.size;omega⟩
def fG.side(h:fG Z aJ w af gT ao n s)(e:ai S w w')(z:∀r,Z r->¬S r)(B:¬S 0):fG Z aJ w' af gT ao n s:=by
 have⟨A,R,A9,t,cs,p,⟨C,E⟩,F,x,G⟩:=h;refine⟨A,R,A9,t,cs,p.side e λr _ f=>?_,⟨jw e B C,E⟩,F,x,λq r f=>by have:=G q r f;have:=e.size;omega⟩;have a:∀{y:Prop},(y->jR A R A9 aJ ao r)->¬y:=λH h=>z r ((x r).2 (H h)) f;exact⟨a .inl,a λh=>.inr (.inl h),λq=>a λh=>.inr (.inr (.inl ⟨q,h⟩)),a λh=>.inr (.inr (.inr (.inl h))),a λh=>.inr (.inr (.inr (.inr h)))⟩
def fG.ok(h:fG Z aJ w af gT ao n s):bi n.k n.sizes s/\du s/\e3 (dh n) s/\n.funs.length<=256:=by
 have⟨A,R,A9,t,cs,p,_,a,_⟩:=h;exact⟨p.fe.2.2.2.1,a⟩
def fG.step{V:x3}(p:cm w af gT ao A R A9 aJ n s u t [] cs)(f:∀r,Z r↔jR A R A9 aJ ao r){u':ap}(F:du u'/\e3 (dh n) u'/\n.funs.length<=256)(G:¬Z 0)(H:dx w af gT ao A R A9 aJ n s t [] u' V)(J:Ext V w')(hm:eJ [] w' af gT A R n u' aa):ai (λr=>Z r/\¬aJ r) w aa/\∃nF,(∀r,nF r->Z r\/w.heap.size<=r)/\fG nF aJ aa af gT ao n u':=by
 have⟨B,cr,ce,I,K⟩:=H;have⟨x,L,aR,bt,y,M,N,U⟩:=hm;have:=B.size;have:=J.size;have:=x.size;have z:=I.ext J;have O:=z.prog x y M N.1 (λ_ h=>.inl h) (λ_ _ _ h=>h) z.box.lt;have P:=p.Fj;have Q:ai (λr=>Z r/\¬aJ r) w aa:=(((B.mono (T:=λr=>Z r/\¬aJ r) λr _ h=>⟨(f r).2 (h.elim (λh=>.inr (.inr (.inl h))) λh=>.inr (.inr (.inr (.inr h)))),h.elim (λ⟨q,h⟩=>P q r h) λh h'=>(p.read r h').2.2 h⟩)).trans (J.ab _)).trans
  ((yc y.1 x).mono λr _ h=>⟨(f r).2 (.inl h.1),λh'=>(z.read r h').1 h.2⟩)
 have:=p.box.lt;have e:∀{r:Nat}{C:Prop},(C->jR A R A9 aJ ao r)->C->Z r\/w.heap.size<=r:=λS h=>.inl ((f _).2 (S h));have E:∀r,jR aR R (λq r=>cr q r/\r<w'.heap.size) aJ ao r->Z r\/w.heap.size<=r:=by
  intro r a;rcases a with a|a|⟨q,a,_⟩|a|a
  .exact (y.2.1 r a).elim (e .inl) λh=>.inr Ω
  .exact e (λh=>.inr (.inl h)) a
  .exact (K q r a).elim (e λh=>.inr (.inr (.inl h))) .inr
  .exact e (λh=>.inr (.inr (.inr (.inl h)))) a
  .exact e (λh=>.inr (.inr (.inr (.inr h)))) a
 exact⟨Q,λr=>jR aR R (λq r=>cr q r/\r<w'.heap.size) aJ ao r,E,aR,R,_,bt,ce,O,⟨L,λh=>(E 0 h).elim G λh=>Ω⟩,F,λr=>Iff.rfl,λq r a=>by have:=a.2;omega⟩
def RY(h:du s/\e3 (dh n) s/\n.funs.length<=256)(a:bi n.k n.sizes s)(m:h3):du (cB n.k s m).1/\e3 (dh n) (cB n.k s m).1/\n.funs.length<=256:=
 ⟨(QT a h.1).2.1,h.2.1.trans (QZ a),h.2.2⟩
def RZ{m:h3}(p:cm w af gT ao A R A9 aJ n s u t [] cs)(a:bi n.k n.sizes u)(e:du u)(hk:m.kind<=5):am x7 vD [Γ ao,Δ (m.kind:Int),Δ m.i,Δ m.pos,Δ m.v,Δ m.c] w λr w'=>r=Δ (cB n.k u m).2/\dx w af gT ao A R A9 aJ n s t [] (cB n.k u m).1 w':=by
 by_cases h:m.kind<2
 .exact RJ p a e h
 .exact RU p a ⟨Ω,hk⟩
def R1{B:Nat}{e:x3}{ao:Nat}{s:x1}{cs:List x1}{f:b3}(x:uI B aa s cs f)(J:Ext aa e)(y:ag e ao aX cs)(z:aa.heap.size<=ao)(L:B<=aa.heap.size)(M:0<B)(C:Laid e):
  ∃af gT Z aJ,s=Γ af/\fG Z aJ e af gT ao (cS f) (dh (cS f))/\∀r,Z r->B<=r:=by
 obtain⟨af,gT,A,R,A9,aJ,t,rfl,p,_,E,F,_,_,G,_,H,I⟩:=Rc x J y z;have K:=p.olds;have w:∀r,jR A R (λq r=>A9 q r/\r<e.heap.size) aJ ao r->B<=r:=by
  intro r a;rcases a with a|a|⟨q,a,_⟩|a|a
  .exact E r a
  .exact I r a
  .exact F q r a
  .exact H r a
  .omega
 exact⟨af,gT,_,aJ,T,⟨A,R,_,t,cs,K,⟨C,λh=>by have:=w 0 h;omega⟩,⟨Rb _,e3.rfl,G⟩,λr=>Iff.rfl,λq r a=>a.2⟩,w⟩
end
def lS(s:ap):Prop:=∀f∈s.funs,f.live≠0
def R8(n:aG):lS (dh n):=by
 intro f ae;unfold dh at ae;obtain⟨g,_,rfl⟩:=j5.1 ae;exact(by decide:(1:Int)≠0)
def R9{a b:ap}(h:e3 a b)(k:lS a):lS b:=by
 intro g p;have⟨j,e⟩:=List.getElem?_of_mem p;have:=(x4.1 e).1;have⟨f,ae⟩:=aH (l:=a.funs) (i:=j) (by have:=h.funs;omega);rw[(h.fn j f g ae e).2.2.1];exact k f (x5 ae)
section
variable{w:x3}{af gT:Nat}{A R:ak}{n:aG}{s:ap}{t:aD}{dj:x1}
end
def gM{c:Prop}[Decidable c]{a b:db}:b∈gq c a↔c/\b=a:=by
 refine⟨p7,λ⟨h,e⟩=>?_⟩;unfold gq;rw[if_pos h,e];exact .head _
section
variable{n:aG}{s:ap}
def qh(n:aG)(s:ap)(l:Int):Prop:=∀a∈lM n s,a.e2≠l
def qi{level:Int}(f:bi n.k n.sizes s):ei n s level=[]↔ ∀l,1<=l->l<=level->qh n s l:=by
 unfold ei qh;rw[List.filter_eq_nil_iff];constructor
 .intro h l h1 q a e he;exact h a e (decide_eq_true Ω)
 .intro h a e p;exact h a.e2 (EJ f e).1.1 (of_decide_eq_true p) a e T
def oW{i:Int}{a:db}:a∈jM n s i↔hz n s i=true/\(a∈lK n s i\/(∃v∈bg s i,a∈io n s i v)\/a∈qa n s i):=by
 unfold jM;by_cases h:hz n s i=true
 .rw[if_pos h,o5,o5,R2];exact⟨λk=>⟨h,k⟩,λk=>k.2⟩
 .rw[if_neg h];exact⟨λk=>(by cases k),λk=>absurd k.1 h⟩
def oX{a:db}:a∈km n s j↔ ∃f,s.funs[j]?=σ f/\f.live≠0/\∃p,p<f.sc.length/\∃v∈bg s (f.sc.getD p 0),a∈fC n s j f p (f.sc.getD p 0) v\/a∈hb n s j f p (f.sc.getD p 0) v:=by
 unfold km;cases ae:s.funs[j]? with
 |none=>exact⟨λh=>(by cases h),λ⟨f,h,_⟩=>by cases h⟩
 |some f=>
  simp only;by_cases q:f.live≠0
  .rw[if_pos q,R2];constructor
   .rintro⟨p,r,h⟩;unfold ip at h;have⟨v,ad,h⟩:=R2.1 h;exact⟨f,T,q,p,T8.1 r,v,ad,o5.1 h⟩
   .rintro⟨_,e,_,p,r,v,ad,h⟩;cases e;refine⟨p,T8.2 r,?_⟩;unfold ip;exact R2.2 ⟨v,ad,o5.2 h⟩
  .rw[if_neg q];exact⟨λh=>(by cases h),λ⟨_,e,h,_⟩=>by cases e;exact absurd h q⟩
def mG{a:db}:a∈lM n s↔(∃i:Nat,i<n.sizes.length/\a∈jM n s (i:Int))\/∃j,a∈km n s j:=by
 unfold lM mB mC;rw[o5,R2,R2];refine or_congr ⟨λ⟨i,h1,e⟩=>⟨i,T8.1 h1,e⟩,λ⟨i,h1,e⟩=>⟨i,T8.2 h1,e⟩⟩ ⟨λ⟨j,_,h⟩=>⟨j,h⟩,λ⟨j,h⟩=>⟨j,T8.2 ?_,h⟩⟩;have⟨f,ae,_⟩:=oX.1 h;exact(x4.1 ae).1
def lT(n:aG)(s:ap):Prop:=∀(j:Nat)f,s.funs[j]?=σ f->f.live≠0->∀p,p<f.sc.length->∀v∈bg s (f.sc.getD p 0),¬(0<(h2 n s j f p v).1\/(h2 n s j f p v).2=ν)
def oY(n:aG)(s:ap):Prop:=∀(j:Nat)f,s.funs[j]?=σ f->f.live≠0->f.sc.length=2->∀v∈bg s (f.sc.getD 0 0),¬0<(lL n s j f v).1
def yy(n:aG)(s:ap):Prop:=∀i:Nat,i<n.sizes.length->hy s i=false->¬(0<(im n s (i:Int)).1\/(im n s (i:Int)).2<0)
def uR{i:Nat}(hi:i<n.sizes.length):hz n s (i:Int)=true↔hy s i=false:=by
 unfold hz;rw[decide_eq_true Ω,U8,u7,Bool.not_eq_true']
def uS(w:bi n.k n.sizes s):qh n s 1↔kp n s:=by
 constructor
 .intro h i hi x;rw[u7]at x;have ad:=(uR hi).2 x;have h1:=QW (i:=(i:Int)) w;have y:¬(0<(h0 n s (i:Int)).1\/(h0 n s (i:Int)).2<0):=λq=>h ⟨1,i,-1,-1⟩ (mG.2 (.inl ⟨i,hi,oW.2 ⟨ad,.inl (gM.2 ⟨q,T⟩)⟩⟩)) T;refine⟨λr=>y (.inr ((Fe w).2 r)),Ω,λv r=>?_⟩;have A:¬min (s.zero+ep n s (i:Int) v) n.k=n.k:=λq=>h ⟨1,i,-1,v⟩ (mG.2 (.inl ⟨i,hi,oW.2 ⟨ad,.inr (.inl ⟨v,r,gM.2 ⟨q,T⟩⟩)⟩⟩)) T;unfold dC;omega
 .intro h a e he;rcases mG.1 e with⟨i,hi,e⟩|⟨j,e⟩
  .obtain⟨ad,e⟩:=oW.1 e;have⟨h1,B,z⟩:=h i hi (by rw[u7];exact(uR hi).1 ad);rcases e with e|⟨v,r,e⟩|e
   .obtain⟨q,rfl⟩:=gM.1 e;rcases q with q|q
    .omega
    .exact h1 ((Fe w).1 q)
   .obtain⟨q,rfl⟩:=gM.1 e;have:=z v r;unfold dC at this;omega
   .obtain⟨q,rfl⟩:=gM.1 e;exact absurd he Ξ
  .obtain⟨f,_,_,p,_,v,_,e|e⟩:=oX.1 e
   .obtain⟨_,rfl⟩:=gM.1 e;exact absurd he Ξ
   .obtain⟨_,rfl⟩:=gM.1 e;exact absurd he Ξ
def yz:qh n s 2↔lT n s:=by
 constructor
 .intro h j f ae r p w v q x;exact h ⟨2,f.sc.getD p 0,j,v⟩ (mG.2 (.inr ⟨j,oX.2 ⟨f,ae,r,p,w,v,q,.inl (gM.2 ⟨x,T⟩)⟩⟩)) T
 .intro h a e he;rcases mG.1 e with⟨i,hi,e⟩|⟨j,e⟩
  .obtain⟨ad,e⟩:=oW.1 e;rcases e with e|⟨v,q,e⟩|e<;>obtain⟨x,rfl⟩:=gM.1 e<;>exact absurd he Ξ
  .obtain⟨f,ae,r,p,w,v,q,e|e⟩:=oX.1 e
   .exact h j f ae r p w v q (gM.1 e).1
   .obtain⟨_,rfl⟩:=gM.1 e;exact absurd he Ξ
def FC:qh n s 3↔oY n s:=by
 constructor
 .intro h j f ae w x v q r;exact h ⟨3,f.sc.getD 0 0,j,v⟩ (mG.2 (.inr ⟨j,oX.2 ⟨f,ae,w,0,Ω,v,q,.inr (gM.2 ⟨⟨x,T,r⟩,T⟩)⟩⟩)) T
 .intro h a e he;rcases mG.1 e with⟨i,hi,e⟩|⟨j,e⟩
  .obtain⟨ad,e⟩:=oW.1 e;rcases e with e|⟨v,q,e⟩|e<;>obtain⟨r,rfl⟩:=gM.1 e<;>exact absurd he Ξ
  .obtain⟨f,ae,w,p,y,v,q,e|e⟩:=oX.1 e
   .obtain⟨_,rfl⟩:=gM.1 e;exact absurd he Ξ
   .obtain⟨⟨x,rfl,r⟩,_⟩:=gM.1 e;exact h j f ae w x v q r
def Sa:qh n s 4↔yy n s:=by
 constructor
 .intro h i hi r q;exact h ⟨4,i,-1,-1⟩ (mG.2 (.inl ⟨i,hi,oW.2 ⟨(uR hi).2 r,.inr (.inr (gM.2 ⟨q,T⟩))⟩⟩)) T
 .intro h a e he;rcases mG.1 e with⟨i,hi,e⟩|⟨j,e⟩
  .obtain⟨ad,e⟩:=oW.1 e;rcases e with e|⟨v,w,e⟩|e
   .obtain⟨q,rfl⟩:=gM.1 e;exact absurd he Ξ
   .obtain⟨q,rfl⟩:=gM.1 e;exact absurd he Ξ
   .exact h i hi ((uR hi).1 ad) (gM.1 e).1
  .obtain⟨f,ae,x,p,y,v,w,e|e⟩:=oX.1 e<;>obtain⟨_,rfl⟩:=gM.1 e<;>exact absurd he Ξ
def Sb(a:bi n.k n.sizes s):ei n s 1=[]↔kp n s:=by
 rw[qi a,<-uS a];exact⟨λh=>h 1 Φ Φ,λh l h1 e=>by rw[show l=1 by omega];exact h⟩
def Sc(a:bi n.k n.sizes s):ei n s 2=[]↔lT n s/\kp n s:=by
 rw[qi a,<-uS a,<-yz];refine⟨λh=>⟨h 2 Φ Φ,h 1 Φ Φ⟩,λh l h1 e=>?_⟩;rcases(show l=1\/l=2 by omega)with rfl|rfl
 .exact h.2
 .exact h.1
def Sd(a:bi n.k n.sizes s):ei n s 3=[]↔oY n s/\lT n s/\kp n s:=by
 rw[qi a,<-uS a,<-yz,<-FC];refine⟨λh=>⟨h 3 Φ Φ,h 2 Φ Φ,h 1 Φ Φ⟩,λh l h1 e=>?_⟩;rcases(show l=1\/l=2\/l=3 by omega)with rfl|rfl|rfl
 .exact h.2.2
 .exact h.2.1
 .exact h.1
def Se(a:bi n.k n.sizes s):ei n s 4=[]↔yy n s/\oY n s/\lT n s/\kp n s:=by
 rw[qi a,<-uS a,<-yz,<-FC,<-Sa];refine⟨λh=>⟨h 4 Φ Φ,h 3 Φ Φ,h 2 Φ Φ,h 1 Φ Φ⟩,λh l h1 e=>?_⟩;rcases(show l=1\/l=2\/l=3\/l=4 by omega)with rfl|rfl|rfl|rfl
 .exact h.2.2.2
 .exact h.2.2.1
 .exact h.2.1
 .exact h.1
def yA(a:bi n.k n.sizes s):ei n s 0=[]:=by
 rw[qi a];exact λl h1 e=>Ω
def FD{b:Int}(f:bi n.k n.sizes s)(h:a<=b)(e:ei n s b=[]):ei n s a=[]:=by
 rw[qi f]at e ⊢;exact λl h1 p=>e l h1 Ω
end
section
variable{n:aG}{s:ap}
def FE{i j:Int}(a:bi n.k n.sizes s):0<=gL n s i v j/\gL n s i v j<=n.k:=by
 have:=a.eg;unfold gL;split
 .split
  .split
   .exact rN Ω λu _=>xR a
   .omega
  .omega
 .omega
end
section
variable{n:aG}{s:ap}
def iQ(n:aG)(s:ap)(i v:Int)(c:Int)(j:Nat):Int:=if kj s i j=true then(if nu s (j:Int)=true then min (c+gL n s i v (j:Int)) n.k else c)else c
def Sf{i:Int}:mA n s i v=(Y1 s.funs.length).foldl (iQ n s i v) (ep n s i v):=by
 unfold mA kk il;rw[List.foldl_filter,List.foldl_map,List.foldl_filter];rfl
def Sg{i:Int}(a:bi n.k n.sizes s):∀(l:List Nat),0<=l.foldl (iQ n s i v) (ep n s i v)/\l.foldl (iQ n s i v) (ep n s i v)<=n.k:=by
 have:=a.eg;have key:∀(l:List Nat)(c:Int),0<=c/\c<=n.k->0<=l.foldl (iQ n s i v) c/\l.foldl (iQ n s i v) c<=n.k:=by
  intro l;induction l with
  |nil=>intro c h;exact h
  |cons j l e=>
   intro c h;apply e _;unfold iQ;have:=FE (i:=i) (v:=v) (j:=(j:Int)) a;split
   .split
    .omega
    .exact h
   .exact h
 exact λl=>key l _ (p5 a)
def FF{i:Int}{f:bU}{b:Int}{x:bC}(ae:s.funs[j]?=σ f)(p:f.sc=[a,b])(q:a≠b):
  (i=a->s.vars[b.toNat]?=σ x->gL n s i v (j:Int)=(b0 n.k (aC x) (ik n s j 0 v b)).1)/\(i=b->s.vars[a.toNat]?=σ x->gL n s i v (j:Int)=(b0 n.k (aC x) (ik n s j 1 v a)).1):=by
 unfold gL;rw[u7,ae];simp only;rw[p];refine⟨λh J=>?_,λh J=>?_⟩
 .subst h;have e:fx [i,b] i=0:=by unfold fx;rw[if_pos Ξ];simp
  rw[e];simp only[show((1:Int)-0).toNat=1 by decide,List.getElem?_cons_succ,List.getElem?_cons_zero,J]
 .subst h;have e:fx [a,i] i=1:=by
   unfold fx;rw[if_pos Ξ,List.idxOf_cons,show(a == i)=false by simp[q]];simp
  rw[e];simp only[show((1:Int)-1).toNat=0 by decide,List.getElem?_cons_zero,J]
end
def FG{f g:Int->Int}:∀{l:Λ},(∀v∈l,f v=g v)->b0 k l f=b0 k l g:=by
 intro l;unfold b0;generalize (k,(-1:Int))=p;induction l generalizing p with
 |nil=>intro _;rfl
 |cons v l a=>
  intro h;rw[T5,T5,show fk f p v=fk g p v by unfold fk;rw[h v (.head _)]];exact a _ λu hu=>h u (.tail _ hu)
def Sh{f:Int->Int}:∀(l:Λ)(p:Int×Int),(∀v∈l,0<=v)->(p.2= -1\/0<=p.2)->((l.foldl (fk f) p).2= -1\/0<=(l.foldl (fk f) p).2)/\(k=k):=by
 intro l;induction l with
 |nil=>intro p _ h;exact⟨h,T⟩
 |cons v l e=>
  intro p a h;apply e _ (λu hu=>a u (.tail _ hu));unfold fk;split
  .exact .inr (a v (.head _))
  .exact h
section
variable{w:x3}{dj:x1}{k:Int}{sizes:Λ}{s:ap}
def yB{f:Int->Int}{l:Λ}{q:Nat}(ad:l[q]?=σ v):b0 k (l.take (q+1)) f=fk f (b0 k (l.take q) f) v:=by
 unfold b0;rw[u9,ad,n9,S6];rfl
def yC{f:Int->Int}{l:Λ}(a:∀v∈l,0<=v):(b0 k l f).2= -1\/0<=(b0 k l f).2:=(Sh (k:=k) l (k,-1) a (.inl T)).1
def Si{i:Nat}{x:bC}(h:gu w dj k sizes s)(ao:bi k sizes s)(J:s.vars[i]?=σ x):
  am x7 G7 [dj,Δ (i:Int)] w λr w'=>Ext w w'/\r= .tuple #[Δ (b0 k (aC x) λv=>x.un.getD v.toNat 0).1,Δ (b0 k (aC x) λv=>x.un.getD v.toNat 0).2]:=by
 have:=qg x;apply az func30;refine bd λg1 V au G N=>?_;have⟨szv,av,aw,ax,aB,aD,C,aE,_,O,aF,P,aG,aI⟩:=h.box G N;rw[aL aX.p 0 C T,aL aX.p 3 C T];refine gj (α:=Λ) (a:=aC x) (i:=i) T rfl cU.u an.i Ψ O (by rw[x8,J];rfl) λaJ Q=>?_;have E:=de Q;rw[aW an.u E];obtain⟨f,ae⟩:∃f:Int->Int,f=λv=>x.un.getD v.toNat 0:=⟨_,T⟩;rw[<-ae];refine kz.range (aC x).length (λq b a aa=>Ext V aa/\b=Δ (b0 k ((aC x).take q) f).1/\a=Δ (b0 k ((aC x).take q) f).2) E.le ⟨Ext.refl _,T,T⟩ ?_ ?_
 .rintro q _ _ aa R S ⟨y,rfl,rfl⟩ U;have⟨v,ad⟩:=aH (l:=aC x) S;have W:=(gg.1 (x5 ad)).1;obtain⟨z,rfl⟩:=X7 W.1;have A:=yB (k:=k) (f:=f) ad;have:=yC (k:=k) (f:=f) (l:=(aC x).take q) λv ad=>(gg.1 (T9 ad)).1.1;have X:f (z:Int)=x.un.getD z 0:=by rw[ae];rfl
  apply bz Ω;refine gQ (λb a w'=>Ext V w'/\b=Δ (b0 k ((aC x).take (q+1)) f).1/\a=Δ (b0 k ((aC x).take (q+1)) f).2) (λb a w' Y=>by rw[aN];exact U _ _ _ Y) λaA H=>?_;rw[bc an.u ah.i Ψ (E.ext y) ad];have I:∀{K:x1->Prop}{e:x3},Ext V e->K (Δ (f (z:Int)))->ac x7 (u6 aX (Γ g1) 5) e λZ=>ac x7 (u5 dZ Z) e λab=>ac x7 (j9 dZ ab (Δ (i:Int))) e λt39=>ac x7 (u5 ay t39) e λaf=>ac x7 (j9 ay af (Δ (z:Int))) e λag=>ac x7 (u5 aq ag) e K:=λ{K e}L ai=>by
   rw[aL aX.p 5 (C.ext L) T];refine gj (α:=Λ) (a:=x.un) (i:=i) T rfl dZ.u ay.i Ψ (bA P L) (by rw[x8,J];rfl) λaM aj=>?_;rw[bc ay.u aq.i Ψ (de aj) (getD_some (i:=z) Ω),<-X];exact ai
  refine aV (λr w'=>aa=w'/\r= .bool (decide ((b0 k ((aC x).take q) f).2= -1\/f (z:Int)<(b0 k ((aC x).take q) f).1))) ?_ λaO M=>?_
  .rintro _ _ ⟨rfl,rfl⟩;unfold fk at A;rw[al];refine⟨λB=>I y (H _ _ _ ⟨y,?_,?_⟩),λB=>H _ _ _ ⟨y,?_,?_⟩⟩
   .rw[A,if_pos B]
   .rw[A,if_pos B]
   .rw[A,if_neg B]
   .rw[A,if_neg B]
  .rw[aP,al];refine⟨λak=>M _ _ ⟨T,by rw[decide_eq_true (.inl Ω)]⟩,λak=>?_⟩;apply I y;rw[aP];refine M _ _ ⟨T,?_⟩;congr 1;exact decide_eq_decide.2 ⟨.inr,λh=>h.resolve_left λh=>Ω⟩
 .rintro _ _ aa R ⟨y,rfl,rfl⟩;rw[o6];exact b4 Ω ⟨G.trans y,T⟩
def FH{z:x1}{f:bU}{K:x1->x3->Prop}(C:Seen eM w [z] (s.funs.map hc))(ae:s.funs[j]?=σ f)(E:∀g e h v3 w',Ext w w'->ag w' g aZ [e,h,v3]->aI .i64 w' e f.sc->aI .i64 w' h f.aj->aI .i64 w' v3 f.cs->K (Γ g) w'):
  ac x7 (j9 eC z (Δ (j:Int))) w λF=>ac x7 (u6 c4 F 0) w λG=>ac x7 (u5 aZ G) w λH=>aE x7 (Q1 aZ true (.tuple #[])) w λf aa=>aE x7 (o8 aZ f H) aa λ(_:Unit)x=>K f x:=by
 refine kF (i:=j) T eC.u c4.i C (by rw[x8,ae];rfl) λb o cs y I=>?_;obtain⟨e,h,v3,rfl,h1,A,B⟩:=lP I;rw[aU c4.p T,bR (cs:=[e,h,v3]) aZ.p aZ.i T (λq u a=>by
  have:q<3:=(x4.1 a).1
  match q,this,a with
  |0,_,a=>cases a;exact y 0 _ T
  |1,_,a=>cases a;exact y 1 _ T
  |2,_,a=>cases a;exact y 2 _ T)]
 refine bu aZ.i λP aa Q J L=>?_;have M:∀u∈[e,h,v3],u.oneCell'=true:=λu hu=>by
  simp only[V2,List.not_mem_nil,or_false]at hu;rcases hu with rfl|rfl|rfl
  .exact gS h1
  .exact gS A
  .exact gS B
 refine cd (vs:=[e,h,v3]) aZ.i T rfl M L λx N R O=>?_;have r:Ext w x:=J.put N Ω;exact E _ _ _ _ _ r O ((de h1).ext r) ((de A).ext r) ((de B).ext r)
def Sj{of:Λ->Int}{l:List (Λ)}{q:Nat}{t:Λ}(a:l[q]?=σ t):eb k of (l.take (q+1))=simpStep of (eb k of (l.take q)) t:=by
 unfold eb;rw[u9,a,n9,S6];rfl
def qj(w:x3)(v:x1)(o:Option (Λ)):Prop:=match o with
 |none=>v= .slice ν 0 0
 |some tl=>tl≠[]/\aI .i64 w v tl
def qj.nil{v:x1}{o:Option (Λ)}(h:qj w v o):∃a n c,v= .slice a n c/\a.isNone=decide (o=ν):=by
 cases o with
 |none=>exact⟨ν,0,0,h,Ξ⟩
 |some tl=>
  obtain⟨h1,_,b,o,base,cap,rfl,_,_,e,_⟩:=h;exact⟨_,_,_,T,by rw[e (List.length_pos_iff.2 h1)];simp⟩
end
def Sk{f g:Λ->Int}:∀{l:List (Λ)},(∀t∈l,f t=g t)->eb k f l=eb k g l:=by
 intro l;unfold eb;generalize (k,(ν:Option (Λ)))=p;induction l generalizing p with
 |nil=>intro _;rfl
 |cons v l a=>
  intro h;rw[T5,T5,show simpStep f p v=simpStep g p v by unfold simpStep;rw[h v (.head _)]];exact a _ λu hu=>h u (.tail _ hu)
def yD{aj cs t:Λ}{m:Nat}(hi:cq aj t 0=σ (m:Int)):bl aj cs t=cs.getD m 0:=by
 unfold bl;rw[hi];rfl
def Sl{aj t:Λ}{m:Nat}(hi:cq aj t 0=σ (m:Int)):mF aj t=m:=by
 unfold mF;rw[hi];rfl
section
variable{w:x3}{dj:x1}{k:Int}{sizes:Λ}{s:ap}
def Sm{f:bU}(h:gu w dj k sizes s)(B:bi k sizes s)(ae:s.funs[j]?=σ f)(av:pos<f.sc.length)(ad:∀u,f.sc[pos]?=σ u->v∈bg s u):
  am x7 Ha [dj,Δ (j:Int),Δ (pos:Int),Δ v] w λr w'=>Ext w w'/\∃E,r= .tuple #[Δ (eb k (bl f.aj f.cs) (bP s f.sc pos v)).1,E]/\qj w' E (eb k (bl f.aj f.cs) (bP s f.sc pos v)).2:=by
 have G:=x5 ae;have⟨O,P,_⟩:=B.funs f G;have H:=(ko B G).1;have Q:f.aj.length=f.sc.length:=by rw[P];simp[bX]
 have aU:=iz H;have aY:f.cs.length=(aQ f.aj).toNat:=by rw[P];exact O.len
 apply az func34;refine bd λg1 V a1 R aw=>?_;have S:=h.box R aw;have⟨szv,a2,a6,a7,E,a8,U,ba,_,bb,be,bf,ax,bh⟩:=id S;rw[aL aX.p 6 U T];refine FH ax ae λbj bk bm v3 bn I W s1 aB aC=>?_;rw[aL aX.p 0 (U.ext I) T,aL aZ.p 1 W T];refine(tc f.aj aB ⟨by rw[Q];exact O.scope.2,H⟩).mono ?_;rintro bo bp _ ⟨X,aD⟩;have aE:=I.trans X;refine(S.ext aE).load λbq aF=>?_;apply(yp aF B ae av ad).mono;rintro dn Y _ ⟨Z,J,_⟩;have K:=X.trans Z;have aG:=I.trans K;have aa:(jn s f pos v).length=(bP s f.sc pos v).length:=by unfold jn;rw[r8]
 rw[aW an.u J,aa];obtain⟨of,ab⟩:∃of,of=bl f.aj f.cs:=⟨_,T⟩;rw[<-ab];refine kz.range (bP s f.sc pos v).length (λq b a x=>Ext Y x/\b=Δ (eb k of ((bP s f.sc pos v).take q)).1/\qj x a (eb k of ((bP s f.sc pos v).take q)).2) (by rw[<-aa];exact J.le) ⟨Ext.refl _,T,T⟩ ?_ ?_
 .rintro q _ ac x aI aJ ⟨e,rfl,y⟩ aK;have⟨tl,L⟩:=aH (l:=bP s f.sc pos v) aJ;have aM:=x5 L;have⟨m,hm⟩:=oS B G ad aM;have z:=Sj (k:=k) (of:=of) L;have C:=kK H hm;rw[u7]at C;have af:m<f.cs.length:=by have:=(x4.1 C).1;omega
  have ag:of tl=f.cs.getD m 0:=by rw[ab];exact yD hm
  have aO:tl≠[]:=λhe=>by
   have:=vW C;rw[he,Q,List.length_nil]at this;omega
  have aR:(jn s f pos v)[q]?=σ (m:Int):=by unfold jn;rw[x8,L,Z6,Sl hm]
  apply bz Ω;refine gQ (λb a w'=>Ext Y w'/\b=Δ (eb k of ((bP s f.sc pos v).take (q+1))).1/\qj w' a (eb k of ((bP s f.sc pos v).take (q+1))).2) (λb a w' aS=>by rw[aN];exact aK _ _ _ aS) λaA ai=>?_;rw[bc an.u ah.i Ψ (J.ext e) aR];have ak:=W.ext (K.trans e);have ao:=aC.ext (K.trans e);refine aV (λr w'=>x=w'/\r= .bool (decide ((eb k of ((bP s f.sc pos v).take q)).2=ν\/of tl<(eb k of ((bP s f.sc pos v).take q)).1))) ?_ λbr ap=>?_
  .rintro _ _ ⟨rfl,rfl⟩;unfold simpStep at z;rw[al];refine⟨λA=>?_,λA=>ai _ _ _ ⟨e,by rw[z,if_neg A],by rw[z,if_neg A];exact y⟩⟩;intro bt M _ _;have au:=e.trans M;rw[aL aZ.p 2 (ak.ext M) T,bc ay.u aq.i Ψ (ao.ext M) (getD_some af),<-ag];refine gj (α:=Λ) (a:=tl) (i:=m) T rfl cU.u an.i Ψ (bA aD (Z.trans au)) C λu hu=>?_;exact ai _ _ _ ⟨au,by rw[z,if_pos A],by rw[z,if_pos A];exact⟨aO,de (jB hu)⟩⟩
  .obtain⟨bu,fn,bw,rfl,aT⟩:=y.nil;rw[mW an.u,aT,al];refine⟨λN=>ap _ _ ⟨T,by rw[decide_eq_true (.inl N)]⟩,λN=>?_⟩;rw[aL aZ.p 2 ak T,bc ay.u aq.i Ψ ao (getD_some af),<-ag,aP];refine ap _ _ ⟨T,?_⟩;congr 1;exact decide_eq_decide.2 ⟨.inr,λh=>h.resolve_left N⟩
 .rintro _ ac x aI ⟨e,rfl,y⟩;rw[o6]at y ⊢;exact b4 Ω ⟨(R.trans aG).trans e,ac,T,y⟩
def FI{f:bU}{b:Int}{u:Int}(p:bi k sizes s)(ae:f∈s.funs)(e:f.sc=[a,b])(h:pos=0\/pos=1)(ad:v∈bg s (if pos=1 then b else a))(hu:u∈bg s (if pos=1 then a else b)):∃m:Nat,cq f.aj (if pos=1 then[u,v]else[v,u]) 0=σ (m:Int):=by
 refine oS (pos:=pos) (v:=v) p ae (λx J=>?_) ?_
 .rw[e]at J;rcases h with rfl|rfl
  .cases J;exact ad
  .cases J;exact ad
 .rw[e];rcases h with rfl|rfl
  .simp only[show¬((0:Nat)=1) by decide,if_false]at hu ⊢;simp[bP,hA,gK,hu]
  .simp only[if_true]at hu ⊢;simp[bP,hA,gK,hu]
def FJ{b:Int}{f:bU}{y:bC}(h:gu w dj k sizes s)(x:bi k sizes s)(ae:s.funs[j]?=σ f)(G:f.sc=[a,b])(S:pos=0\/pos=1)(ad:v∈bg s (if pos=1 then b else a))(z:s.vars[(if pos=1 then a else b).toNat]?=σ y):
  am x7 Hb [dj,Δ (j:Int),Δ (pos:Int),Δ v] w λr w'=>Ext w w'/\r= .tuple #[Δ (b0 k (aC y) λu=>min (bl f.aj f.cs (if pos=1 then[u,v]else[v,u])+y.un.getD u.toNat 0) k).1,Δ (b0 k (aC y) λu=>min (bl f.aj f.cs (if pos=1 then[u,v]else[v,u])+y.un.getD u.toNat 0) k).2]:=by
 have H:=x5 ae;have:=x.eg;have⟨I,U,_⟩:=x.funs f H;have J:=(ko x H).1;have aw:f.aj.length=f.sc.length:=by rw[U];simp[bX]
 have:=iz J;have bu:f.cs.length=(aQ f.aj).toNat:=by rw[U];exact I.len
 have W:0<=(if pos=1 then a else b):=by
  have:=(I.scope.1 a (by rw[G];exact .head _)).1;have:=(I.scope.1 b (by rw[G];exact .tail _ (.head _))).1;split<;>omega
 obtain⟨o,L⟩:∃o,o=(if pos=1 then a else b):=⟨_,T⟩;rw[<-L]at z W;obtain⟨on,rfl⟩:=X7 W;rw[u7]at z;have aB:bg s (on:Int)=aC y:=by unfold bg;rw[u7,z]
 apply az func35;refine bd λg1 V bx X aD=>?_;have aE:=h.box X aD;have⟨szv,bB,bD,bE,bF,bG,B,bH,_,aF,bI,aG,aJ,bJ⟩:=id aE;rw[aL aX.p 6 B T];refine FH aJ ae λbK bL bM v3 M C N s1 aK aO=>?_;have aR:f.sc[1-pos]?=σ (on:Int):=by rw[L,G];rcases S with rfl|rfl<;>rfl
 rw[aL aZ.p 0 N T,dN,wrap_i64 Ω Ω,show(1:Int)-(pos:Int)=((1-pos:Nat):Int) by omega,bc an.u ah.i Ψ s1 aR,aL aX.p 0 (B.ext C) T,aL aX.p 3 (B.ext C) T];refine gj (α:=Λ) (a:=aC y) (i:=on) T rfl cU.u an.i Ψ (bA aF C) (by rw[x8,z];rfl) λbN Y=>?_;have Z:=de Y;have:=qg y;rw[aW an.u Z];obtain⟨of,ab⟩:∃of:Int->Int,of=λu=>min (bl f.aj f.cs (if pos=1 then[u,v]else[v,u])+y.un.getD u.toNat 0) k:=⟨_,T⟩;rw[<-ab];refine kz.range (aC y).length (λq b a aa=>Ext M aa/\b=Δ (b0 k ((aC y).take q) of).1/\a=Δ (b0 k ((aC y).take q) of).2) Z.le ⟨Ext.refl _,T,T⟩ ?_ ?_
 .rintro q _ _ bP aS aT ⟨O,rfl,rfl⟩ aU;have⟨u,hu⟩:=aH (l:=aC y) aT;have ac:=x5 hu;have aY:=(gg.1 ac).1;obtain⟨un,rfl⟩:=X7 aY.1;have E:=yB (k:=k) (f:=of) hu;have:=yC (k:=k) (f:=of) (l:=(aC y).take q) λv ad=>(gg.1 (T9 ad)).1.1;obtain⟨tl,K⟩:∃tl:Λ,tl=(if pos=1 then[(un:Int),v]else[v,(un:Int)]):=⟨_,T⟩;have⟨m,hm⟩:=FI x H G S ad (u:=(un:Int)) (by rw[<-L,aB];exact ac);rw[<-K]at hm;have af:=kK J hm;rw[u7]at af;have a1:m<f.cs.length:=by have:=(x4.1 af).1;omega
  have a2:=nB (t:=tl) x H;have:=hd (v:=un) x z;have a6:of (un:Int)=min (f.cs.getD m 0+y.un.getD un 0) k:=by
   rw[ab];simp only;rw[<-K,yD hm,u7]
  rw[yD hm]at a2;apply bz Ω;refine gQ (λb a w'=>Ext M w'/\b=Δ (b0 k ((aC y).take (q+1)) of).1/\a=Δ (b0 k ((aC y).take (q+1)) of).2) (λb a w' a7=>by rw[aN];exact aU _ _ _ a7) λaA ag=>?_;rw[bc an.u ah.i Ψ (de (bA Y O)) hu];refine oc (l:=[v,(un:Int)]) an.u ah.i Ω T Ψ λbS bT bV bW ai a8=>?_;refine aV (λr w'=>Ext M w'/\aI .i64 w' r tl) ?_ λbY ak=>?_
  rotate_left
  .rw[be,al];refine⟨λh1=>?_,λh1=>ak _ _ ⟨O.trans ai,by rw[K,if_neg Ω];exact a8.ls⟩⟩;refine oc (l:=[(un:Int),v]) an.u ah.i Ω T Ψ λbZ b1 ba b2 P bb=>?_;exact ak _ _ ⟨(O.trans ai).trans P,by rw[K,if_pos Ω];exact bb.ls⟩
  rintro aM ba ⟨P,bf⟩;intro b3 ao _ _;have A:=P.trans ao;have Q:=C.trans A;rw[aL aZ.p 2 (N.ext A) T,aL aZ.p 1 (N.ext A) T,aL aX.p 5 (B.ext Q) T];refine kF (α:=Λ) (a:=y.un) (i:=on) T dZ.u ay.i (bA aG Q) (by rw[x8,z];rfl) λb o cs bh e=>?_;obtain⟨bj,rfl⟩:∃u,cs=[u]:=by have⟨u,hu,_⟩:=e;exact⟨u,hu⟩
  have bk:=de e;have ap:=bh 0 _ T;rw[Nat.add_zero]at ap;rw[ax (v:=bj) Ψ ap];refine px T ay.u aq.i bk (getD_some (i:=un) Ω) λb5 b6 bm=>?_;rw[ax Ψ bm,aL aX.p 0 (B.ext Q) T];refine(K1 (aK.ext A) ⟨by rw[aw];exact I.scope.2,J⟩ (bf.ext ao)).mono ?_;rintro _ b7 _ ⟨rfl,R⟩;refine⟨.inl R,?_⟩;rw[LD J,hm];simp only;rw[bc ay.u aq.i Ψ (aO.ext (A.trans R)) (getD_some a1)];apply(mp Ω Ω).mono;rintro _ bn _ ⟨rfl,bo⟩;have au:=(A.trans R).trans bo;rw[<-a6];refine aV (λr w'=>bn=w'/\r= .bool (decide ((b0 k ((aC y).take q) of).2= -1\/of (un:Int)<(b0 k ((aC y).take q) of).1))) ?_ λb8 av=>?_
  .rintro _ _ ⟨rfl,rfl⟩;unfold fk at E;rw[al];exact⟨λe=>ag _ _ _ ⟨au,by rw[E,if_pos e],by rw[E,if_pos e]⟩,λe=>ag _ _ _ ⟨au,by rw[E,if_neg e],by rw[E,if_neg e]⟩⟩
  .rw[aP,al];refine⟨λbp=>av _ _ ⟨T,by rw[decide_eq_true (.inl Ω)]⟩,λbp=>?_⟩;rw[aP];refine av _ _ ⟨T,?_⟩;congr 1;exact decide_eq_decide.2 ⟨.inr,λh=>h.resolve_left λh=>Ω⟩
 .rintro _ _ aa aS ⟨bq,rfl,rfl⟩;rw[o6];exact b4 Ω ⟨(X.trans C).trans bq,T⟩
end
abbrev lU:Type:=mj .u8×Int×Int×Int×Int
structure gx where
 d:Int
 i:Int
 pos:Int
 v:Int
 c:Int
def gx.ok(a:gx):Prop:=0<=a.d/\a.d<256
def gx.kind(a:gx):Nat:=(a.d % 7).toNat
def gx.bY(a:gx):List x1:=[.int .u8 a.d,Δ a.i,Δ a.pos,Δ a.v,Δ a.c]
def nG(x:lU):gx:=⟨x.1.val,x.2.1,x.2.2.1,x.2.2.2.1,x.2.2.2.2⟩
def Sn{R:ak}{cs:List x1}{x:lU}(h:Seen R w cs x):cs=(nG x).bY:=by
 obtain⟨r,_,_,_,rfl,_,_,_,a,s,_,_,_,rfl,_,_,_,e,y,_,_,_,rfl,_,_,_,f,z,A,_,_,rfl,_,_,_,p,q⟩:=h;have a:r=[.int .u8 x.1]:=a;have e:s=[Δ x.2.1]:=e;have f:y=[Δ x.2.2.1]:=f;have p:z=[Δ x.2.2.2.1]:=p;have q:A=[Δ x.2.2.2.2]:=q;subst a e f p q;rfl
def Sp{x:lU}(h:(o7.u8.min<=x.1.val/\x.1.val<=o7.u8.max)/\(X6.min<=x.2.1/\x.2.1<=X6.max)/\(X6.min<=x.2.2.1/\x.2.2.1<=X6.max)/\(X6.min<=x.2.2.2.1/\x.2.2.2.1<=X6.max)/\(X6.min<=x.2.2.2.2/\x.2.2.2.2<=X6.max)):(nG x).ok:=by
 have a:o7.u8.min=0:=Φ
 have e:o7.u8.max=255:=Φ
 rw[a,e]at h;exact⟨h.1.1,by have:=h.1.2;show x.1.val<256;omega⟩
def gx.one(a:gx):∀u∈a.bY,u.oneCell'=true:=by
 intro u hu;unfold gx.bY at hu;simp only[V2,List.not_mem_nil,or_false]at hu;rcases hu with rfl|rfl|rfl|rfl|rfl<;>rfl
def gx.Sq(a:gx):a.kind<7:=by
 unfold gx.kind;have:=Int.emod_lt_of_pos a.d (show(0:Int)<7 by decide);omega
def FK(k:Int)(a:gx):Int:=a.c.emod 18446744073709551616 % (k+1)
def k4(k:Int)(a:gx):h3:=⟨a.kind,a.i,a.pos,a.v,FK k a⟩
def lV(n:aG)(s:ap)(a:gx):ap:=if a.kind=6 then(if fB n a.i a.v then eo s a.i.toNat a.v.toNat else s)else(cB n.k s (k4 n.k a)).1
def yE{d:Int}{K:x1->Prop}(h:0<=d):ac x7 (aO .rem cJ false true (.int .u8 d) (.int .u8 7)) w K=K (.int .u8 (((d % 7).toNat:Nat):Int)):=by
 rw[sS Φ,Int.tmod_eq_emod_of_nonneg h];have:=Int.emod_nonneg d (show(7:Int)≠0 by decide);rw[Int.toNat_of_nonneg this]
section
variable{w:x3}{af gT ao:Nat}{A R:ak}{A9:Nat->ak}{aJ:ak}{n:aG}{s u:ap}{t:aD}{h:List aD}{cs:List x1}{a:gx}
def FL(a:bi n.k n.sizes s){i:Int}(h:fB n i v):0<=i/\∃x,s.vars[i.toNat]?=σ x/\0<=v/\v<x.un.length:=by
 have⟨x,J,h1,_,e⟩:=h.var a;exact⟨h.1,x,J,h.2.2.1,by have:=h.2.2.2;omega⟩
def Sr(f:du s/\e3 (dh n) s/\n.funs.length<=256)(p:bi n.k n.sizes s):du (lV n s a)/\e3 (dh n) (lV n s a)/\n.funs.length<=256:=by
 unfold lV;split
 .split
  .rename_i h;have⟨r,x,J,ad,_⟩:=FL p h;have e:=mD (v:=a.v) J;have q:e3 s (eo s a.i.toNat a.v.toNat):=yj (v:=a.v);exact⟨by rw[e];exact du.vars f.1 J T,f.2.1.trans q,f.2.2⟩
  .exact f
 .exact RY f p _
def Ss(p:cm w af gT ao A R A9 aJ n s u t h cs){i:Nat}{x:bC}(J:u.vars[i]?=σ x):∃g cap y gy e,cs[3]?=σ (.slice (σ ⟨g,0,ν⟩) u.vars.length cap)/\w.cell? ⟨g,0+i*1,ν⟩=σ y/\av .i64 e w gy y (aC x)/\(∀r,leads y r->A9 0 r)/\
  ∀{V aa:x3}{m:Int}{z:x1}{K:Unit->x3->Prop},Ext w V->ai (λr=>leads y r) V aa->av .i64 e aa gy z (aC {x with mask:=m})->(∀r,leads z r->leads y r)->(∀L,dx w af gT ao A R A9 aJ n s t h {u with vars:=u.vars.set i {x with mask:=m}} L->K () L)->
   aE x7 (o8 an (.pointer (σ ⟨g,0+i*1,ν⟩)) z) aa K:=by
 have M:=p.olds;have aK:=(x4.1 J).1;have⟨szv,ah,aL,aM,aN,aO,N,_,aj,_,_,_,_,ak⟩:=id M.doc;have⟨g,cap,full,al,c,am,e,E,ap,F,O,P,Q,aq,aw⟩:=E6 (i:=i) (a:=aC x) aj (by rw[x8,J];rfl) λr _ h=>(ak T).2 0 r h;obtain⟨y,rfl⟩:=W9.1 (au.len P);rw[r8]at e;have ax:full[i]?=σ y:=by have:=O 0 y T;simpa[show au.n (Λ)=1 from T]using this
 have⟨gy,ay,S,az⟩:=AH P;have B:∀r,leads y r->am r:=λr f=>by
  rcases az with rfl|aA
  .obtain⟨_,_,_,e,_⟩:=f;cases e
  .obtain⟨e,_⟩:=bS S f;rw[e];exact aA
 refine⟨g,cap,y,gy,ay,by rw[N,<-e];rfl,by have:=E.cell (o:=i) ax;rw[X2,U2];exact this,S,λr f=>(Q r (B r f)).1,λ{V aa m U K}G H W X aB=>?_⟩;have aP:=G.size;have aQ:=H.size;have F:i*1+1<=full.length:=F;have⟨_,_,_,Y⟩:=da W.ls;have Z:¬leads y g:=λh=>aq (B g h);refine bq (o:=0+i*1) an.i (by rw[Y];rfl) (by rw[Y];rfl) ((E.ext G).ab H Z) Ω λac ad aR C=>?_;have C:ag ac g al (over full (i*1) [U]):=by
  have e:=E7 (full:=full) (c:=[y]) (o:=i*1) (q:=0) (x:=U) O F Ξ;rw[X2]at C;rw[Nat.add_zero]at e;rw[e]at C;exact C
 have aS:g<w.heap.size:=E.lt;have I:ai (λr=>leads y r\/r=g) w ac:=((G.ab _).trans (H.mono λr _ h=>.inl h)).trans (ad.mono λr _ h=>.inr h);have aD:=bw W ad λr f he=>by have he:r=g:=he;exact Z (he▸X r f)
 have aF:=aw I (λr _ h=>h.imp (B r) id) C (nv (R:=aJ) aD) λr f=>.inl (B r (X r f));have ae:∀r,r<w.heap.size->(leads y r\/r=g)->A9 0 r/\r<w.heap.size:=λr f h=>h.elim (λh=>Q r (B r h)) λh=>by rw[h];exact ap
 have⟨cr,aG,aH⟩:=M.oR (u':={u with vars:=u.vars.set i {x with mask:=m}}) (λq r h=>h.2) (v:=ah) (by rw[N];rfl) I ae (by show bI _ _ _ _ ((u.vars.set i {x with mask:=m}).map aC);rw[U5];exact aF) T (qd J T) (qd J T) T rfl;refine aB _ ⟨I.mono λr f h=>.inl ⟨0,(ae r f h).1⟩,cr,cs,aG,λq r f=>?_⟩;rcases aH q r f with⟨aI,h⟩|h
 .exact .inl ⟨aI,h.1⟩
 .exact .inr h
end
section
variable{Z aJ:ak}{w w':x3}{af gT ao:Nat}{A R:ak}{A9:Nat->ak}{n:aG}{s s':ap}{t:aD}{cs:List x1}{a:gx}
def ku(Z aJ:ak)(w:x3)(af gT ao:Nat)(n:aG)(s':ap)(w':x3):Prop:=ai (λr=>Z r/\¬aJ r) w w'/\∃nF,(∀r,nF r->Z r\/w.heap.size<=r)/\fG nF aJ w' af gT ao n s'
def fG.St{aR:ak}{cr:Nat->ak}{bt:aD}(p:cm w af gT ao A R A9 aJ n s s t [] cs)(f:∀r,Z r↔jR A R A9 aJ ao r)(J:du s'/\e3 (dh n) s'/\n.funs.length<=256)(y:¬Z 0)(K:Laid w)(z:ai (ew w) w V)(B:Grow A w aR V)(x:∀q r,cr q r->A9 q r)(L:dx V af gT ao aR R cr aJ n s' bt [] s' aa):ku Z aJ w af gT ao n s' aa:=by
 have⟨C,E,ce,M,N⟩:=L;have:=z.size;have:=C.size;have O:=p.Fj;have F:ai (λr=>Z r/\¬aJ r) w aa:=((yc B.1 z).mono (T:=λr=>Z r/\¬aJ r) λr _ h=>⟨(f r).2 (.inl h.1),λh'=>(p.read r h').1 h.2⟩).trans
  (C.mono λr _ h=>⟨(f r).2 (h.elim (λ⟨q,h⟩=>.inr (.inr (.inl ⟨q,x q r h⟩))) λh=>.inr (.inr (.inr (.inr h)))),h.elim (λ⟨q,h⟩=>O q r (x q r h)) λh h'=>(p.read r h').2.2 h⟩)
 have:=p.box.lt;have e:∀{r:Nat}{G:Prop},(G->jR A R A9 aJ ao r)->G->Z r\/w.heap.size<=r:=λP h=>.inl ((f _).2 (P h));have H:∀r,jR aR R (λq r=>E q r/\r<aa.heap.size) aJ ao r->Z r\/w.heap.size<=r:=by
  intro r a;rcases a with a|a|⟨q,a,_⟩|a|a
  .exact (B.2.1 r a).elim (e .inl) .inr
  .exact e (λh=>.inr (.inl h)) a
  .exact (N q r a).elim (λ⟨I,h⟩=>e (λh=>.inr (.inr (.inl h))) ⟨I,x I r h⟩) λh=>.inr Ω
  .exact e (λh=>.inr (.inr (.inr (.inl h)))) a
  .exact e (λh=>.inr (.inr (.inr (.inr h)))) a
 exact⟨F,λr=>jR aR R (λq r=>E q r/\r<aa.heap.size) aJ ao r,H,aR,R,_,bt,ce,M.olds,⟨jw F (λh=>y h.1) K,λh=>(H 0 h).elim y λh=>Ω⟩,J,λr=>Iff.rfl,λq r a=>a.2⟩
def ku.same(h:fG Z aJ w af gT ao n s)(J:Ext w w'):ku Z aJ w af gT ao n s w':=⟨J.ab _,Z,λ_ h=>.inl h,h.ext J⟩
def ku.before(J:Ext w V)(h:ku Z aJ V af gT ao n s w'):ku Z aJ w af gT ao n s w':=by
 have⟨c,nF,a,e⟩:=h;have:=J.size;exact⟨(J.ab _).trans c,nF,λr f=>(a r f).imp id λh=>Ω,e⟩
end
def lW(w0 w:x3)(af gT ao:Nat)(n:aG):Prop:=Ext w0 w/\∃s Z aJ,fG Z aJ w af gT ao n s/\∀r,Z r->w0.heap.size<=r
section
variable{w0 w w':x3}{af gT ao:Nat}{n:aG}{s:ap}{Z aJ:ak}
def lW.ext(h:lW w0 w af gT ao n)(J:Ext w w'):lW w0 w' af gT ao n:=by
 have⟨a,s,Z,aJ,e,f⟩:=h;exact⟨a.trans J,s,Z,aJ,e.ext J,f⟩
end
def fG.live{Z aJ:ak}{af gT ao:Nat}{n:aG}{s:ap}(h:fG Z aJ w af gT ao n s):lS s/\s.funs.length<=256:=by
 have⟨_,_,a,ae⟩:=h.ok;refine⟨R9 a (R8 n),?_⟩;rw[a.funs];unfold dh;rw[r8];exact ae
section
variable{w:x3}{af gT:Nat}{A R:ak}{n:aG}{s:ap}{t:aD}
def r3{i:Nat}{x:bC}(a:bi n.k n.sizes s)(J:s.vars[i]?=σ x)(ad:v∈aC x):ep n s (i:Int) v=x.un.getD v.toNat 0:=by
 unfold ep;rw[if_pos (oU a J ad),u7];unfold iN;rw[J]
def nH{i:Nat}{x:bC}(J:s.vars[i]?=σ x):bg s (i:Int)=aC x:=by
 unfold bg;rw[u7,J]
def Su{i:Nat}{x:bC}(a:bi n.k n.sizes s)(J:s.vars[i]?=σ x):h0 n s (i:Int)=b0 n.k (aC x) λv=>x.un.getD v.toNat 0:=by
 unfold h0;rw[nH J];exact FG λv ad=>r3 a J ad
end
section
variable{w:x3}{dj:x1}{n:aG}{s:ap}
def FM{b:Int}{f:bU}{y:bC}(h:bi n.k n.sizes s)(ae:s.funs[j]?=σ f)(x:f.live≠0)(p:f.sc=[a,b])(r:pos=0\/pos=1)(ad:v∈bg s (if pos=1 then b else a))(e:s.vars[(if pos=1 then a else b).toNat]?=σ y):
  (b0 n.k (aC y) λu=>min (bl f.aj f.cs (if pos=1 then[u,v]else[v,u])+y.un.getD u.toNat 0) n.k)=b0 n.k (aC y) (ik n s j (pos:Int) v (if pos=1 then a else b)):=by
 refine FG λu hu=>?_;have⟨w,_,_⟩:=h.funs f (x5 ae);obtain⟨o,q⟩:∃o,o=(if pos=1 then a else b):=⟨_,T⟩;have z:0<=o:=by
  have:=(w.scope.1 a (by rw[p];exact .head _)).1;have:=(w.scope.1 b (by rw[p];exact .tail _ (.head _))).1;rw[q];split<;>omega
 rw[<-q]at e ⊢;obtain⟨on,rfl⟩:=X7 z;rw[u7]at e;have⟨m,hm⟩:=FI h (x5 ae) p r ad (u:=u) (by rw[<-q,nH e];exact hu);unfold ik;rw[r3 h e hu,show((if(pos:Int)=1 then[u,v]else[v,u]):Λ)=if pos=1 then[u,v]else[v,u] by
  rcases r with rfl|rfl<;>rfl,(Fg ae x hm).1]
def Sv{i:Int}{q:Nat}:(Y1 (q+1)).foldl (iQ n s i v) (ep n s i v)=iQ n s i v ((Y1 q).foldl (iQ n s i v) (ep n s i v)) q:=by
 rw[List.range_succ,S6];rfl
def Sw{i:Nat}{x:bC}(h:gu w dj n.k n.sizes s)(A:bi n.k n.sizes s)(aM:lS s)(J:s.vars[i]?=σ x):
  am x7 G8 [dj,Δ (i:Int)] w λr w'=>Ext w w'/\r= .tuple #[Δ (im n s (i:Int)).1,Δ (im n s (i:Int)).2]:=by
 have bX:=qg x;have bY:=A.vars;have bZ:=A.eg;apply az func31;refine bd λg1 V b1 ai aO=>?_;have aj:=h.box ai aO;have⟨szv,b2,b3,b5,b6,b7,K,b8,_,aQ,b9,aR,S,ca⟩:=id aj;rw[aL aX.p 0 K T,aL aX.p 3 K T];refine gj (α:=Λ) (a:=aC x) (i:=i) T rfl cU.u an.i Ψ aQ (by rw[x8,J];rfl) λcb aS=>?_;have U:=de aS;rw[aW an.u U];have aT:im n s (i:Int)=b0 n.k (aC x) (mA n s (i:Int)):=by unfold im;rw[nH J]
 obtain⟨f,ae⟩:∃f:Int->Int,f=mA n s (i:Int):=⟨_,T⟩;rw[aT,<-ae];refine kz.range (aC x).length (λq b a aa=>Ext V aa/\b=Δ (b0 n.k ((aC x).take q) f).1/\a=Δ (b0 n.k ((aC x).take q) f).2) U.le ⟨Ext.refl _,T,T⟩ ?_ ?_
 rotate_left
 .rintro _ _ aa aY ⟨C,rfl,rfl⟩;rw[o6];exact b4 Ω ⟨ai.trans C,T⟩
 rintro q _ _ aa aY a1 ⟨C,rfl,rfl⟩ a2;have⟨v,ad⟩:=aH (l:=aC x) a1;have W:=x5 ad;have a6:=(gg.1 W).1;obtain⟨e,rfl⟩:=X7 a6.1;have L:=yB (k:=n.k) (f:=f) ad;have cc:=yC (k:=n.k) (f:=f) (l:=(aC x).take q) λv ad=>(gg.1 (T9 ad)).1.1;apply bz Ω;refine gQ (λb a w'=>Ext V w'/\b=Δ (b0 n.k ((aC x).take (q+1)) f).1/\a=Δ (b0 n.k ((aC x).take (q+1)) f).2) (λb a w' M=>by rw[aN];exact a2 _ _ _ M) λaA ak=>?_;rw[bc an.u ah.i Ψ (U.ext C) ad,aL aX.p 5 (K.ext C) T];refine gj (α:=Λ) (a:=x.un) (i:=i) T rfl dZ.u ay.i Ψ (bA aR C) (by rw[x8,J];rfl) λce ba=>?_;rw[bc ay.u aq.i Ψ (de ba) (getD_some (i:=e) Ω),aL aX.p 6 (K.ext C) T,hL eC.u (bA S C),r8];have ao:=r3 A J W;rw[u7]at ao;rw[<-ao];refine bT.range s.funs.length (λj c N=>Ext V N/\c=Δ ((Y1 j).foldl (iQ n s (i:Int) (e:Int)) (ep n s (i:Int) (e:Int)))) (by have:=qK S;rw[r8]at this;exact this) ⟨C,T⟩ ?_ ?_
 .rintro j _ N bb bf ⟨O,rfl⟩ bh;have⟨fn,z⟩:=aH (l:=s.funs) bf;have X:=aM fn (x5 z);have⟨P,_,_⟩:=A.funs fn (x5 z);have bj:=Sg (i:=(i:Int)) (v:=(e:Int)) A (Y1 j);have ap:=Sv (n:=n) (s:=s) (i:=(i:Int)) (v:=(e:Int)) (q:=j);obtain⟨c,G⟩:∃c,(Y1 j).foldl (iQ n s (i:Int) (e:Int)) (ep n s (i:Int) (e:Int))=c:=⟨_,T⟩;rw[G]at ap bj ⊢;apply bz Ω;refine aV (λr w'=>Ext V w'/\r=Δ ((Y1 (j+1)).foldl (iQ n s (i:Int) (e:Int)) (ep n s (i:Int) (e:Int)))) (λr w' M=>by rw[aN];exact bh _ _ M) λcg Q=>?_;rw[ap]at Q;refine ll (α:=ir) (a:=hc fn) c4.p T eC.u c4.i (bA S O) (by rw[x8,z];rfl) λcs bk=>?_;obtain⟨aK,bl,a7,rfl,au,bm,bn⟩:=lP bk;refine bu c4.i λga ch ci bq br=>?_;refine cd (vs:=[aK,bl,a7,.bool (decide (fn.live≠0))]) c4.i T rfl (yo au bm bn) br λR bt bw Y=>?_;have av:Ext N R:=bq.put bt Ω;have Z:=O.trans av;have aw:=de (bA au av);have aB:nu s (j:Int)=decide (fn.sc.length=2):=by unfold nu;rw[u7,z]
  have bx:kj s (i:Int) j=decide ((i:Int)∈fn.sc):=by unfold kj;rw[z];simp only;rw[decide_eq_true X,U8]
  refine aV (λr w'=>R=w'/\r= .bool (decide (fn.sc.length≠2))) ?_ λcj bD=>?_
  rotate_left
  .rw[aL c4.p 1 Y T,decide_eq_true X,bK,Y7,a8,aU c4.p T,aU aZ.p T,ax (v:=aK) Ψ (Y.cell (o:=0+0+0) T),aW an.u aw,bB];refine bD _ _ ⟨T,?_⟩;congr 1;exact decide_eq_decide.2 ⟨λh=>Ω,λh=>Ω⟩
  rintro _ _ ⟨rfl,rfl⟩;rw[al];refine⟨λI=>Q _ _ ⟨Z,?_⟩,λI=>?_⟩
  .unfold iQ;rw[aB,decide_eq_false I];split<;>rfl
  have I:fn.sc.length=2:=Z9.1 I;obtain⟨a,b,y⟩:∃a b,fn.sc=[a,b]:=by
   match bw:fn.sc,I with
   |[a,b],_=>exact⟨a,b,T⟩
  have ck:a<b:=by
   have h:fn.sc.Pairwise (·< ·):=P.up;rw[y]at h;exact(List.pairwise_cons.1 h).1 b (.head _)
  have cl:=P.vars a (by rw[y];exact .head _);have cm:=P.vars b (by rw[y];exact .tail _ (.head _));have cn:=(P.scope.1 a (by rw[y];exact .head _)).1;have cp:=(P.scope.1 b (by rw[y];exact .tail _ (.head _))).1;have⟨ab,bE⟩:=aH (l:=s.vars) (i:=a.toNat) Ω;have⟨ac,bF⟩:=aH (l:=s.vars) (i:=b.toNat) Ω;have bG:(e:Int)∈bg s (i:Int):=by rw[nH J];exact W
  have bH:=FE (i:=(i:Int)) (v:=(e:Int)) (j:=(j:Int)) A;obtain⟨B,af⟩:∃B,gL n s (i:Int) (e:Int) (j:Int)=B:=⟨_,T⟩;rw[af]at bH;have bI:iQ n s (i:Int) (e:Int) c j=if(i:Int)=a\/(i:Int)=b then min (c+B) n.k else c:=by
   unfold iQ;rw[aB,decide_eq_true I,bx,af,y];simp
  rw[bI]at Q;have⟨cq,bJ⟩:=FF (n:=n) (i:=(i:Int)) (v:=(e:Int)) z y (show a≠b by omega) (x:=ab);have⟨bL,cr⟩:=FF (n:=n) (i:=(i:Int)) (v:=(e:Int)) z y (show a≠b by omega) (x:=ac);refine bT.range 2 (λp bM ag=>Ext R ag/\bM=Δ (if p=0 then c else if p=1 then(if(i:Int)=a then min (c+B) n.k else c)else(if(i:Int)=a\/(i:Int)=b then min (c+B) n.k else c))) Ω ⟨Ext.refl _,T⟩ ?_ ?_
  rotate_left
  .rintro _ ag bN ⟨H,rfl⟩;rw[show((2:Nat):Int)=2 from T,aP,al];exact⟨λh=>Ω,λ_=>Q _ _ ⟨Z.trans H,T⟩⟩
  rintro p _ ag bN ct ⟨H,rfl⟩ bO;have aD:=Z.trans H;have E:p=0\/p=1:=Ω
  apply bz Ω;refine aV (λr w'=>Ext R w'/\r=Δ (if p+1=0 then c else if p+1=1 then(if(i:Int)=a then min (c+B) n.k else c)else(if(i:Int)=a\/(i:Int)=b then min (c+B) n.k else c))) (λr w' M=>by rw[aN];exact bO _ _ M) λcu aE=>?_;rw[aU c4.p T,aU aZ.p T,ax (v:=aK) Ψ ((Y.ext H).cell (o:=0+0+0) T),bc an.u ah.i Ψ (aw.ext H) (x:=if p=1 then b else a) (by rw[y];rcases E with rfl|rfl<;>rfl),be,al];refine⟨λhe=>?_,λhe=>aE _ _ ⟨H,?_⟩⟩
  rotate_left
  .rcases E with rfl|rfl
   .have he:¬(i:Int)=a:=λh=>he h.symm;simp[he]
   .have he:¬(i:Int)=b:=λh=>he h.symm;simp[he]
  have aF:s.vars[(if p=1 then a else b).toNat]?=σ (if p=1 then ab else ac):=by rcases E with rfl|rfl<;>assumption
  have aG:(e:Int)∈bg s (if p=1 then b else a):=by rw[he];exact bG
  have bP:B=(b0 n.k (aC (if p=1 then ab else ac)) (ik n s j (p:Int) (e:Int) (if p=1 then a else b))).1:=by
   rw[<-af];rcases E with rfl|rfl
   .exact bL he.symm bF
   .exact bJ he.symm bE
  refine(aj.ext aD).load λcw bQ=>?_;apply(FJ bQ A z y E aG aF).mono;rintro _ cz _ ⟨aI,rfl⟩;rw[FM A z X y E aG aF,<-bP,bo,bp,aL aX.p 0 (K.ext (aD.trans aI)) T];refine(mp (by rcases E with rfl|rfl<;>simp only[if_true]<;>first|omega|(split<;>omega)) Ω).mono ?_;rintro _ cA _ ⟨rfl,bR⟩;refine aE _ _ ⟨(H.trans aI).trans bR,?_⟩;congr 1;rcases E with rfl|rfl
  .have he:(i:Int)=a:=he.symm;simp[he]
  .have bS:(i:Int)=b:=he.symm;have bU:¬(i:Int)=a:=Ω
   simp[bS,bU,show¬b=a by omega]
 .rintro _ N bb ⟨O,rfl⟩;apply b4 Ω;rw[<-Sf];have bV:mA n s (i:Int) (e:Int)=f (e:Int):=by rw[ae]
  rw[bV];refine aV (λr w'=>N=w'/\r= .bool (decide ((b0 n.k ((aC x).take q) f).2= -1\/f (e:Int)<(b0 n.k ((aC x).take q) f).1))) ?_ λcB aJ=>?_
  .rintro _ _ ⟨rfl,rfl⟩;unfold fk at L;rw[al];exact⟨λG=>ak _ _ _ ⟨O,by rw[L,if_pos G],by rw[L,if_pos G]⟩,λG=>ak _ _ _ ⟨O,by rw[L,if_neg G],by rw[L,if_neg G]⟩⟩
  .rw[aP,al];refine⟨λbW=>aJ _ _ ⟨T,by rw[decide_eq_true (.inl Ω)]⟩,λbW=>?_⟩;rw[aP];refine aJ _ _ ⟨T,?_⟩;congr 1;exact decide_eq_decide.2 ⟨.inr,λh=>h.resolve_left λh=>Ω⟩
end
section
variable{w:x3}{dj:x1}{n:aG}{s:ap}
def Sx{i:Nat}{x:bC}(a:bi n.k n.sizes s)(J:s.vars[i]?=σ x):nC n s (i:Int)↔(x.gone=0->aC x≠[]/\(b0 n.k (aC x) λv=>x.un.getD v.toNat 0).1=0/\∀v∈aC x,min (s.zero+x.un.getD v.toNat 0) n.k<n.k):=by
 unfold nC;rw[u7,nH J,Su a J];have p:hy s i=decide (x.gone≠0):=by unfold hy;rw[J]
 rw[p,decide_eq_false_iff_not];refine⟨λh q=>?_,λh q=>?_⟩
 .obtain⟨h1,e,f⟩:=h Ω;refine⟨h1,e,λv ad=>?_⟩;have:=f v ad;rw[r3 a J ad]at this;exact this
 .obtain⟨h1,e,f⟩:=h Ω;refine⟨h1,e,λv ad=>?_⟩;rw[r3 a J ad];exact f v ad
def FN(h:gu w dj n.k n.sizes s)(f:bi n.k n.sizes s):am x7 Hc [dj] w λr w'=>Ext w w'/\∃b:Bool,r= .bool b/\(b=true↔kp n s):=by
 have aS:=f.vars;have aT:=f.fz.2.1;have aU:=f.eg;have aY:=f.zero;apply az func36;refine bd λg1 V aZ L ag=>?_;have W:=h.box L ag;have⟨szv,a1,a2,a6,a7,a8,A,ai,_,X,aj,ak,ba,bb⟩:=id W;rw[aL aX.p 1 A T,aW an.u ai];refine bT.range n.sizes.length (λi _ aa=>Ext V aa/\∀q,q<i->nC n s ((q:Nat):Int)) Ω ⟨Ext.refl _,λq y=>absurd y (Nat.not_lt_zero _)⟩ ?_ ?_
 rotate_left
 .rintro _ aa ao ⟨z,M⟩;exact b4 Ω ⟨L.trans z,true,T,λ_=>M,λ_=>rfl⟩
 rintro i bf aa ao hi ⟨z,M⟩ ap;have⟨x,J⟩:=aH (l:=s.vars) (i:=i) Ω;have bg:=qg x;have G:=Sx f J;apply bz Ω;have au:nC n s (i:Int)->∀q,q<i+1->nC n s ((q:Nat):Int):=λh q y=>by
  rcases Nat.lt_or_eq_of_le (Nat.le_of_lt_succ y)with h'|rfl
  .exact M q h'
  .exact h
 have no:∀{w':x3},Ext V w'->¬nC n s (i:Int)->Ext w w'/\∃b:Bool,x1.bool false= .bool b/\(b=true↔kp n s):=λav B=>⟨L.trans av,false,T,λh=>(by cases h),λh=>absurd (h i hi) B⟩;refine aV (λ_ w'=>Ext V w'/\nC n s (i:Int)) (λ_ w' Y=>by rw[aN];exact ap _ _ ⟨Y.1,au Y.2⟩) λaA Z=>?_;rw[aL aX.p 4 (A.ext z) T];refine gj (α:=Bool) (a:=decide (x.gone≠0)) (i:=i) T rfl jt.u e5.i Ψ (bA aj z) (by rw[x8,J];rfl) λaw ax=>?_;obtain rfl:aw= .bool (decide (x.gone≠0)):=(List.cons.inj ax).1;rw[al];refine⟨λaB=>Z _ _ ⟨z,G.2 λh=>absurd h aB⟩,λbh=>?_⟩;have ab:x.gone=0:=Ω
 refine(W.ext z).load λbj aD=>?_;apply(Si (i:=i) aD f J).mono;rintro _ bk _ ⟨aE,rfl⟩;have H:=z.trans aE;rw[bo,bp];have bl:0<=(b0 n.k (aC x) λv=>x.un.getD v.toNat 0).1:=(rN Ω λv _=>hd f J).1;refine aV (λr w'=>Ext V w'/\r= .bool (decide (aC x=[]\/0<(b0 n.k (aC x) λv=>x.un.getD v.toNat 0).1))) ?_ λbm ac=>?_
 rotate_left
 .rw[aL aX.p 3 (A.ext H) T];refine gj (α:=Λ) (a:=aC x) (i:=i) T rfl cU.u an.i Ψ (bA X H) (by rw[x8,J];rfl) λaF N=>?_;rw[aW an.u (de N),be,al];refine⟨λO=>ac _ _ ⟨H,by rw[decide_eq_true (.inl (j6 Ω))]⟩,λO=>?_⟩;rw[bJ];refine ac _ _ ⟨H,?_⟩;congr 1;exact decide_eq_decide.2 ⟨λh=>.inr h,λh=>h.resolve_left λe=>by rw[e]at O;exact O T⟩
 rintro _ aG ⟨C,rfl⟩;rw[al];refine⟨λI=>no C λB=>?_,λI=>?_⟩
 .obtain⟨h1,bn,_⟩:=G.1 B ab;exact I.elim h1 λh=>Ω
 have aI:aC x≠[]:=λe=>I (.inl e);have aJ:(b0 n.k (aC x) λv=>x.un.getD v.toNat 0).1=0:=by
  have:¬0<(b0 n.k (aC x) λv=>x.un.getD v.toNat 0).1:=λe=>I (.inr e);omega
 rw[aL aX.p 3 (A.ext C) T];refine gj (α:=Λ) (a:=aC x) (i:=i) T rfl cU.u an.i Ψ (bA X C) (by rw[x8,J];rfl) λaF N=>?_;have P:=de N;rw[aW an.u P];refine bT.range (aC x).length (λq _ Q=>Ext aG Q/\∀v∈(aC x).take q,min (s.zero+x.un.getD v.toNat 0) n.k<n.k) P.le ⟨Ext.refl _,λv ad=>by cases ad⟩ ?_ ?_
 rotate_left
 .rintro _ Q aK ⟨E,y⟩;rw[o6]at y;exact b4 Ω (Z _ _ ⟨C.trans E,G.2 λ_=>⟨aI,aJ,y⟩⟩)
 rintro q bq Q aK y ⟨E,aM⟩ aO;have⟨v,ad⟩:=aH (l:=aC x) y;have ae:=x5 ad;have aP:=(gg.1 ae).1;obtain⟨R,rfl⟩:=X7 aP.1;have br:=hd (v:=R) f J;have aQ:=C.trans E;apply bz Ω;rw[bc an.u ah.i Ψ (P.ext E) ad];intro bt af _ _;have S:=aQ.trans af;have K:=A.ext S;rw[aL aX.p 2 K T,aL aX.p 5 K T];refine gj (α:=Λ) (a:=x.un) (i:=i) T rfl dZ.u ay.i Ψ (bA ak S) (by rw[x8,J];rfl) λbu aR=>?_;rw[bc ay.u aq.i Ψ (de aR) (getD_some (i:=R) Ω),aL aX.p 0 K T,aL aX.p 0 K T];apply(mp Ω Ω).mono;rintro _ bw _ ⟨rfl,U⟩;refine⟨.inl U,?_⟩;rw[be,al];refine⟨λhe=>no (S.trans U) λB=>?_,λhe=>?_⟩
 .have:=(G.1 B ab).2.2 (R:Int) ae;rw[u7]at this;omega
 .rw[aN];refine aO _ _ ⟨(E.trans af).trans U,λu hu=>?_⟩;rw[u9,ad,n9,o5,o9]at hu;rcases hu with hu|rfl
  .exact aM u hu
  .rw[u7];omega
end
section
variable{w:x3}{dj:x1}{n:aG}{s:ap}
def Sy{p:Nat}{f:bU}(a:bi n.k n.sizes s)(ae:s.funs[j]?=σ f)(e:f.live≠0)(h:p<f.sc.length)(ad:v∈bg s (f.sc.getD p 0)):h2 n s j f p v=eb n.k (bl f.aj f.cs) (bP s f.sc p v):=by
 unfold h2;rw[Qu h];refine Sk λtl q=>?_;have⟨m,hm⟩:=oS (pos:=p) (v:=v) a (x5 ae) (λu hu=>by rw[u4,hu]at ad;exact ad) q;exact(Fg ae e hm).1
def Sz{f:bU}{b:Int}{y:bC}(q:bi n.k n.sizes s)(ae:s.funs[j]?=σ f)(r:f.live≠0)(e:f.sc=[a,b])(ad:v∈bg s a)(p:s.vars[b.toNat]?=σ y):lL n s j f v=b0 n.k (aC y) λu=>min (bl f.aj f.cs [v,u]+y.un.getD u.toNat 0) n.k:=by
 have h:=FM (pos:=0) q ae r e (.inl T) ad p;simp only[show¬(0:Nat)=1 by decide,if_false]at h;rw[h];unfold lL;rw[e];show b0 n.k (bg s b) _=_;unfold bg;rw[p];rfl
def SA{f:x1}{o:Option (Λ)}{K:x1->Prop}(h:qj w f o):ac x7 (aO .eql an false true f (.slice ν 0 0)) w K=K (.bool (decide (o=ν))):=by
 obtain⟨a,n,c,rfl,e⟩:=h.nil;rw[mW an.u,e]
def FO(h:gu w dj n.k n.sizes s)(C:bi n.k n.sizes s)(aE:lS s)(bq:s.funs.length<=1000):am x7 Hd [dj] w λr w'=>Ext w w'/\∃b:Bool,r= .bool b/\(b=true↔lT n s/\kp n s):=by
 have:=C.vars;apply az func37;refine bd λg1 V bt N O=>?_;have P:=h.box N O;have⟨szv,bw,bx,bB,bC,bD,ag,bE,_,aF,bF,bG,ai,bH⟩:=id P;rw[aL aX.p 6 ag T,hL eC.u ai,r8];have no:∀{w':x3},Ext V w'->¬lT n s->Ext w w'/\∃b:Bool,x1.bool false= .bool b/\(b=true↔lT n s/\kp n s):=λaG Q=>⟨N.trans aG,false,T,λh=>(by cases h),λh=>absurd h.1 Q⟩;refine bT.range s.funs.length (λj _ aa=>Ext V aa/\∀q,q<j->∀f,s.funs[q]?=σ f->∀p,p<f.sc.length->∀v∈bg s (f.sc.getD p 0),¬(0<(h2 n s q f p v).1\/(h2 n s q f p v).2=ν)) Ω ⟨Ext.refl _,λq E=>absurd E (Nat.not_lt_zero _)⟩ ?_ ?_
 rotate_left
 .rintro _ aa aI ⟨G,R⟩;apply b4 Ω;refine(P.ext G).load λaJ S=>?_;apply(FN S C).mono;rintro _ bI _ ⟨aM,b,rfl,O⟩;exact⟨(N.trans G).trans aM,b,T,O.trans ⟨λh=>⟨λj f ae _=>R j (x4.1 ae).1 f ae,h⟩,λh=>h.2⟩⟩
 rintro j bK aa aI aO ⟨G,R⟩ aP;have⟨fn,e⟩:=aH (l:=s.funs) aO;have U:=aE fn (x5 e);have⟨aj,_,_⟩:=C.funs fn (x5 e);apply bz Ω;refine ll (α:=ir) (a:=hc fn) c4.p T eC.u c4.i (bA ai G) (by rw[x8,e];rfl) λcs aQ=>?_;obtain⟨aK,aR,a7,rfl,ak,aS,aT⟩:=lP aQ;refine bu c4.i λga bL bM aY a1=>?_;refine cd (vs:=[aK,aR,a7,.bool (decide (fn.live≠0))]) c4.i T rfl (yo ak aS aT) a1 λao a2 bN ap=>?_;have aq:Ext aa ao:=aY.put a2 Ω;have au:=G.trans aq;have W:=de (bA ak aq);rw[aU c4.p T,aU aZ.p T,ax (v:=aK) Ψ (ap.cell (o:=0+0+0) T),aW an.u W];refine bT.range fn.sc.length (λpos _ H=>Ext ao H/\∀p,p<pos->∀v∈bg s (fn.sc.getD p 0),¬(0<(h2 n s j fn p v).1\/(h2 n s j fn p v).2=ν)) W.le ⟨Ext.refl _,λp X=>absurd X (Nat.not_lt_zero _)⟩ ?_ ?_
 rotate_left
 .rintro t5 H a6 ⟨A,Y⟩;apply b4 Ω;rw[aN];refine aP _ _ ⟨au.trans A,λq E f ae=>?_⟩;rcases Nat.lt_or_eq_of_le (Nat.le_of_lt_succ E)with h'|rfl
  .exact R q h' f ae
  .rw[e]at ae;cases ae;exact Y
 rintro pos t5 H a6 I ⟨A,Y⟩ a8;have⟨u,hu⟩:=aH (l:=fn.sc) I;have av:=x5 hu;have ba:=(aj.scope.1 u av).1;have:=aj.vars u av;obtain⟨un,rfl⟩:=X7 ba;have⟨x,J⟩:=aH (l:=s.vars) (i:=un) Ω;have aw:bg s (fn.sc.getD pos 0)=aC x:=by rw[u4,hu];exact nH J
 have Z:=au.trans A;apply bz Ω;rw[bc an.u ah.i Ψ (W.ext A) hu,aL aX.p 3 (ag.ext Z) T];refine gj (α:=Λ) (a:=aC x) (i:=un) T rfl cU.u an.i Ψ (bA aF Z) (by rw[x8,J];rfl) λbP bb=>?_;have ab:=de bb;rw[aW an.u ab];refine bT.range (aC x).length (λq _ ac=>Ext H ac/\∀v∈(aC x).take q,¬(0<(h2 n s j fn pos v).1\/(h2 n s j fn pos v).2=ν)) ab.le ⟨Ext.refl _,λv ad=>by cases ad⟩ ?_ ?_
 rotate_left
 .rintro be ac bf ⟨B,K⟩;rw[o6]at K;apply b4 Ω;rw[aN];refine a8 _ _ ⟨A.trans B,λp X=>?_⟩;rcases Nat.lt_or_eq_of_le (Nat.le_of_lt_succ X)with h'|rfl
  .exact Y p h'
  .rw[aw];exact K
 rintro q be ac bf E ⟨B,K⟩ bh;have⟨v,ad⟩:=aH (l:=aC x) E;have bj:=x5 ad;have ay:=Z.trans B;have L:v∈bg s (fn.sc.getD pos 0):=by rw[aw];exact bj
 apply bz Ω;rw[bc an.u ah.i Ψ (ab.ext B) ad];refine(P.ext ay).load λaJ S=>?_;refine(Sm S C e I λu' bk=>by rw[u4,bk]at L;exact L).mono ?_;rintro _ bl _ ⟨af,fv2,rfl,aB⟩;rw[<-Sy C e U I L]at aB ⊢;rw[bo,bp];have bm:=ay.trans af;refine aV (λr bn=>bn=bl/\r= .bool (decide (0<(h2 n s j fn pos v).1\/(h2 n s j fn pos v).2=ν))) ?_ λaA aD=>?_
 .rintro _ _ ⟨rfl,rfl⟩;rw[al];refine⟨λz=>no bm λQ=>Q j fn e U pos I v L z,λz=>?_⟩;rw[aN];refine bh _ _ ⟨B.trans af,λy M=>?_⟩;rw[u9,ad,n9,o5,o9]at M;rcases M with M|rfl
  .exact K y M
  .exact z
 .rw[aU c4.p T,ax (v:=.bool (decide (fn.live≠0))) Ψ (((ap.ext A).ext (B.trans af)).cell (o:=0+3) T),decide_eq_true U,bV,bJ,al];refine⟨λz=>aD _ _ ⟨T,by rw[decide_eq_true (.inl z)]⟩,λz=>?_⟩;rw[SA aB];refine aD _ _ ⟨T,?_⟩;congr 1;exact decide_eq_decide.2 ⟨λh=>.inr h,λh=>h.resolve_left z⟩
def FP(h:gu w dj n.k n.sizes s)(E:bi n.k n.sizes s)(ag:lS s)(aF:s.funs.length<=1000):am x7 He [dj] w λr w'=>Ext w w'/\∃b:Bool,r= .bool b/\(b=true↔oY n s/\lT n s/\kp n s):=by
 have:=E.vars;apply az func38;refine bd λg1 V bq O P=>?_;have Q:=h.box O P;have⟨szv,br,bt,bw,bx,bC,ai,bD,_,aG,bE,bF,aj,bG⟩:=id Q;rw[aL aX.p 6 ai T,hL eC.u aj,r8];have no:∀{w':x3},Ext V w'->¬oY n s->Ext w w'/\∃b:Bool,x1.bool false= .bool b/\(b=true↔oY n s/\lT n s/\kp n s):=λaI R=>⟨O.trans aI,false,T,λh=>(by cases h),λh=>absurd h.1 R⟩;refine bT.range s.funs.length (λj _ aa=>Ext V aa/\∀q,q<j->∀f,s.funs[q]?=σ f->f.sc.length=2->∀v∈bg s (f.sc.getD 0 0),¬0<(lL n s q f v).1) Ω ⟨Ext.refl _,λq G=>absurd G (Nat.not_lt_zero _)⟩ ?_ ?_
 rotate_left
 .rintro _ aa aJ ⟨H,S⟩;apply b4 Ω;refine(Q.ext H).load λaM U=>?_;apply(FO U E ag aF).mono;rintro _ W _ ⟨X,b,rfl,P⟩;exact⟨(O.trans H).trans X,b,T,P.trans ⟨λh=>⟨λj f ae _=>S j (x4.1 ae).1 f ae,h⟩,λh=>h.2⟩⟩
 rintro j bH aa aJ aO ⟨H,S⟩ aP;have⟨fn,A⟩:=aH (l:=s.funs) aO;have Y:=ag fn (x5 A);have⟨L,_,_⟩:=E.funs fn (x5 A);apply bz Ω;refine aV (λ_ W=>Ext V W/\(fn.sc.length=2->∀v∈bg s (fn.sc.getD 0 0),¬0<(lL n s j fn v).1)) ?_ λaA ak=>?_
 .rintro _ W ⟨X,aQ⟩;rw[aN];refine aP _ _ ⟨X,λq G f ae=>?_⟩;rcases Nat.lt_or_eq_of_le (Nat.le_of_lt_succ G)with h'|rfl
  .exact S q h' f ae
  .rw[A]at ae;cases ae;exact aQ
 refine ll (α:=ir) (a:=hc fn) c4.p T eC.u c4.i (bA aj H) (by rw[x8,A];rfl) λcs aR=>?_;obtain⟨aK,aS,a7,rfl,ao,aT,aY⟩:=lP aR;refine bu c4.i λga bI bL a1 a2=>?_;refine cd (vs:=[aK,aS,a7,.bool (decide (fn.live≠0))]) c4.i T rfl (yo ao aT aY) a2 λap a6 ba Z=>?_;have aq:Ext aa ap:=a1.put a6 Ω;have au:=H.trans aq;have av:=de (bA ao aq);refine aV (λr I=>I=ap/\r= .bool (decide (fn.sc.length≠2))) ?_ λbM bb=>?_
 rotate_left
 .rw[aU c4.p T,ax (v:=.bool (decide (fn.live≠0))) Ψ (Z.cell (o:=0+3) T),decide_eq_true Y,bK,Y7,a8,aU c4.p T,aU aZ.p T,ax (v:=aK) Ψ (Z.cell (o:=0+0+0) T),aW an.u av,bB];refine bb _ _ ⟨T,?_⟩;congr 1;exact decide_eq_decide.2 ⟨λh e=>h Ω,λh e=>h Ω⟩
 rintro _ _ ⟨rfl,rfl⟩;rw[al];refine⟨λC=>ak _ _ ⟨au,λh=>absurd h C⟩,λC=>?_⟩;have C:fn.sc.length=2:=Z9.1 C;obtain⟨a,b,z⟩:∃a b,fn.sc=[a,b]:=by
  match ba:fn.sc,C with
  |[a,b],_=>exact⟨a,b,T⟩
 have:=L.vars a (by rw[z];exact .head _);have:=L.vars b (by rw[z];exact .tail _ (.head _));have be:=(L.scope.1 a (by rw[z];exact .head _)).1;have:=(L.scope.1 b (by rw[z];exact .tail _ (.head _))).1;obtain⟨un,rfl⟩:=X7 be;have⟨x,J⟩:=aH (l:=s.vars) (i:=un) Ω;have⟨y,B⟩:=aH (l:=s.vars) (i:=b.toNat) Ω;have aw:bg s (fn.sc.getD 0 0)=aC x:=by rw[z];exact nH J
 have hu:fn.sc[0]?=σ (un:Int):=by rw[z];rfl
 intro bf ab _ _;have M:=au.trans ab;rw[aL aX.p 3 (ai.ext M) T,aU c4.p T,aU aZ.p T,ax (v:=aK) Ψ ((Z.ext ab).cell (o:=0+0+0) T),fP (y:=0) (i:=0) T an.u ah.i Ψ (av.ext ab) hu];refine gj (α:=Λ) (a:=aC x) (i:=un) T rfl cU.u an.i Ψ (bA aG M) (by rw[x8,J];rfl) λbQ bh=>?_;have ac:=de bh;rw[aW an.u ac];refine bT.range (aC x).length (λq _ I=>Ext bf I/\∀v∈(aC x).take q,¬0<(lL n s j fn v).1) ac.le ⟨Ext.refl _,λv ad=>by cases ad⟩ ?_ ?_
 rotate_left
 .rintro bj I bk ⟨K,N⟩;rw[o6]at N;apply b4 Ω;exact ak _ _ ⟨M.trans K,λ_=>by rw[aw];exact N⟩
 rintro q bj I bk G ⟨K,N⟩ bl;have⟨v,ad⟩:=aH (l:=aC x) G;have ay:=x5 ad;have aB:=M.trans K;have aD:v∈bg s (un:Int):=by rw[nH J];exact ay
 apply bz Ω;rw[bc an.u ah.i Ψ (ac.ext K) ad];refine(Q.ext aB).load λaM U=>?_;have bm:=Sz E A Y z aD B;apply(FJ (pos:=0) U E A z (.inl T) aD B).mono;rintro _ bR _ ⟨aE,rfl⟩;simp only[show¬(0:Nat)=1 by decide,if_false];rw[bo,bp,<-bm,bJ,al];refine⟨λaf=>no (aB.trans aE) λR=>R j fn A Y C v (by rw[aw];exact ay) af,λaf=>?_⟩;rw[aN];refine bl _ _ ⟨K.trans aE,λy B=>?_⟩;rw[u9,ad,n9,o5,o9]at B;rcases B with B|rfl
 .exact N y B
 .exact af
def SB(h:gu w dj n.k n.sizes s)(z:bi n.k n.sizes s)(M:lS s)(Q:s.funs.length<=1000):am x7 Hf [dj] w λr w'=>Ext w w'/\∃b:Bool,r= .bool b/\(b=true↔yy n s/\oY n s/\lT n s/\kp n s):=by
 have:=z.vars;have:=z.fz.2.1;apply az func39;refine bd λg1 V ae C E=>?_;have G:=h.box C E;have⟨szv,af,ag,ah,ai,aj,N,R,_,ak,S,ao,ap,aq⟩:=id G;rw[aL aX.p 1 N T,aW an.u R];refine bT.range n.sizes.length (λi _ aa=>Ext V aa/\∀q:Nat,q<i->hy s q=false->¬(0<(im n s (q:Int)).1\/(im n s (q:Int)).2<0)) Ω ⟨Ext.refl _,λq H=>absurd H (Nat.not_lt_zero _)⟩ ?_ ?_
 rotate_left
 .rintro _ aa U ⟨y,I⟩;apply b4 Ω;refine(G.ext y).load λW K=>?_;apply(FP K z M Q).mono;rintro _ O _ ⟨L,b,rfl,E⟩;exact⟨(C.trans y).trans L,b,T,E.trans ⟨λh=>⟨I,h⟩,λh=>h.2⟩⟩
 rintro i au aa U hi ⟨y,I⟩ X;have⟨x,J⟩:=aH (l:=s.vars) (i:=i) Ω;apply bz Ω;refine(G.ext y).load λW K=>?_;apply(Sw (i:=i) K z M J).mono;rintro _ O _ ⟨L,rfl⟩;have A:=y.trans L;have P:hy s i=decide (x.gone≠0):=by unfold hy;rw[J]
 rw[bo,bp];refine aV (λr Y=>Y=O/\r= .bool (!(decide (x.gone≠0))&&decide (0<(im n s (i:Int)).1\/(im n s (i:Int)).2<0))) ?_ λaA B=>?_
 .rintro _ _ ⟨rfl,rfl⟩;rw[ca];refine⟨λe=>?_,λe=>?_⟩
  .rw[V5,Bool.not_eq_true',decide_eq_true_eq]at e;exact⟨C.trans A,false,T,λh=>(by cases h),λh=>absurd e.2 (h.1 i hi (by rw[P];exact e.1))⟩
  .rw[aN];refine X _ _ ⟨A,λq H f=>?_⟩;rcases Nat.lt_or_eq_of_le (Nat.le_of_lt_succ H)with h'|rfl
   .exact I q h' f
   .rw[P]at f;rw[f,W3,U8,decide_eq_false_iff_not]at e;exact e
 .rw[aL aX.p 4 (N.ext A) T];refine gj (α:=Bool) (a:=decide (x.gone≠0)) (i:=i) T rfl jt.u e5.i Ψ (bA S A) (by rw[x8,J];rfl) λZ ab=>?_;obtain rfl:Z= .bool (decide (x.gone≠0)):=(List.cons.inj ab).1;rw[bK,ca];refine⟨λf=>?_,λf=>B _ _ ⟨T,by rw[f,Bool.false_and]⟩⟩;rw[f,U8]at B;rw[bJ,al];refine⟨λe=>B _ _ ⟨T,by rw[decide_eq_true (.inl e)]⟩,λe=>?_⟩;rw[aP];refine B _ _ ⟨T,?_⟩;congr 1;exact decide_eq_decide.2 ⟨λh=>.inr h,λh=>h.resolve_left e⟩
def SC{level:Nat}(h:gu w dj n.k n.sizes s)(a:bi n.k n.sizes s)(z:lS s)(A:s.funs.length<=1000)(G:level<5):am x7 GU [dj,Δ (level:Int)] w λr w'=>Ext w w'/\r= .bool (decide (ei n s (level:Int)=[])):=by
 apply az func12;refine bd λg1 V H C f=>?_;have y:=h.box C f;have x:∀{P:Prop}{b:Bool}{w':x3},Ext V w'->(ei n s (level:Int)=[]↔P)->(b=true↔P)->Ext w w'/\x1.bool b= .bool (decide (ei n s (level:Int)=[])):=λ{P b w'}J h1 E=>⟨C.trans J,by
  congr 1;cases b with
  |true=>exact(decide_eq_true (h1.2 (E.1 T))).symm
  |false=>exact(decide_eq_false λh=>by cases E.2 (h1.1 h)).symm⟩
 rw[be,al];refine⟨λe=>?_,λI=>?_⟩
 .refine y.load λB p=>(FN p a).mono ?_;rintro _ aa _ ⟨q,b,rfl,f⟩;exact x q (by rw[e];exact Sb a) f
 rw[be,al];refine⟨λe=>?_,λK=>?_⟩
 .refine y.load λB p=>(FO p a z A).mono ?_;rintro _ aa _ ⟨q,b,rfl,f⟩;exact x q (by rw[e];exact Sc a) f
 rw[be,al];refine⟨λe=>?_,λL=>?_⟩
 .refine y.load λB p=>(FP p a z A).mono ?_;rintro _ aa _ ⟨q,b,rfl,f⟩;exact x q (by rw[e];exact Sd a) f
 rw[be,al];refine⟨λe=>?_,λM=>?_⟩
 .refine y.load λB p=>(SB p a z A).mono ?_;rintro _ aa _ ⟨q,b,rfl,f⟩;exact x q (by rw[e];exact Se a) f
 .exact x (P:=True) (b:=true) (Ext.refl _) ⟨λ_=>trivial,λ_=>by rw[show(level:Int)=0 by omega];exact yA a⟩ ⟨λ_=>trivial,λ_=>rfl⟩
end
section
variable{aB:List aD}{w V aa:x3}{af gT ao:Nat}{A R S Z aJ:ak}{n:aG}{s s0 s1:ap}{cs:List x1}
def lX(aB:List aD)(Z aJ:ak)(w:x3)(af gT ao:Nat)(n:aG)(s s0:ap)(cs:List x1):Prop:=∃A R A9 t,cm w af gT ao A R A9 aJ n s s0 t aB cs/\(Laid w/\¬Z 0/\r0 t)/\(∀r,Z r↔jR A R A9 aJ ao r)/\∀q r,A9 q r->r<w.heap.size
def lX.ext(h:lX aB Z aJ w af gT ao n s s0 cs)(J:Ext w V):lX aB Z aJ V af gT ao n s s0 cs:=by
 have⟨A,R,A9,t,p,⟨a,e⟩,f,x⟩:=h;exact⟨A,R,A9,t,p.ext J,⟨a.ext J,e⟩,f,λq r y=>by have:=x q r y;have:=J.size;omega⟩
def lX.side(h:lX aB Z aJ w af gT ao n s s0 cs)(e:ai S w V)(z:∀r,Z r->¬S r)(B:¬S 0):lX aB Z aJ V af gT ao n s s0 cs:=by
 have⟨A,R,A9,t,p,⟨C,E⟩,x,F⟩:=h;refine⟨A,R,A9,t,p.side e λr _ f=>?_,⟨jw e B C,E⟩,x,λq r f=>by have:=F q r f;have:=e.size;omega⟩;have a:∀{y:Prop},(y->jR A R A9 aJ ao r)->¬y:=λG h=>z r ((x r).2 (G h)) f;exact⟨a .inl,a λh=>.inr (.inl h),λq=>a λh=>.inr (.inr (.inl ⟨q,h⟩)),a λh=>.inr (.inr (.inr (.inl h))),a λh=>.inr (.inr (.inr (.inr h)))⟩
def lX.ok(h:lX aB Z aJ w af gT ao n s s0 cs):bi n.k n.sizes s/\gu w (.agg cs.toArray) n.k n.sizes s0:=by
 have⟨A,R,A9,t,p,_⟩:=h;exact⟨p.fe.2.2.2.1,p.doc.E2⟩
def fG.dn(h:fG Z aJ w af gT ao n s):∃cs,lX [] Z aJ w af gT ao n s s cs/\ag w ao aX cs:=by
 have⟨A,R,A9,t,cs,p,⟨a,e⟩,r,f,q⟩:=h;exact⟨cs,⟨A,R,A9,t,p,⟨a,e,p.ij.m.2⟩,f,q⟩,p.box⟩
end
def FQ{p:x1}(aF:aI .u8 w p pl)(S:Bytes pl)(aZ:fa w):am x7 GY [p] w (Q6 w (pl.take 300)):=by
 apply az func18;refine bu aX.i λB V bO aj Y=>?_;have Y:ag V B aX z12:=Y;rw[aW cN.u (aF.ext aj),mg];refine Ky (i:=min pl.length 300) Ω cN.u cJ.i (aF.ext aj) Ω λbP ak=>?_;have a1:pl.take (min pl.length 300)=pl.take 300:=by
  by_cases h:pl.length<=300
  .rw[Nat.min_eq_left h,o6,b8 h]
  .rw[Nat.min_eq_right Ω]
 rw[a1]at ak;have Z:Bytes (pl.take 300):=λb a=>S b (T9 a);have a2:(pl.take 300).length<=300:=by rw[l9];omega
 generalize pl.take 300=q at ak Z a2;apply(PQ ak Ω).mono;rintro bQ aa _ ⟨an,bR,ao⟩;have aG:=aj.trans an;apply(Ny ao.ls Z Ω (aZ.ext aG)).mono;rintro bS bT _ ⟨W,C⟩;have aH:=aG.trans W;cases G:fs q with
 |none=>
  rw[G]at C;obtain⟨n,e,rfl,he⟩:=C;rw[fR,fS,fT];apply(D2 (ao.ext W).ls Z Ω).mono;rintro a7 ap _ ⟨L,ba,bb,aq,_⟩;obtain rfl:=aq G;rw[fR,fS,fT];refine aV (λv X=>v= .bool true/\Ext ap X) ?_ ?_
  .rintro _ X ⟨rfl,I⟩;rw[bV,cY (cs:=#[Δ 0,.slice ν 0 0,Δ 0,.slice ν 0 0,.slice ν 0 0,.slice ν 0 0,.slice ν 0 0,.slice ν 0 0]) Ψ];have⟨_,_,x,E⟩:=Ep;refine cd (vs:=z12) aX.i T rfl (by intro u hu;simp[z12]at hu;rcases hu with rfl|rfl|rfl|rfl<;>rfl) ((((Y.ext an).ext W).ext L).ext I) λbU bc bW bd=>?_;rw[fQ aX.p aX.i T bd.range];refine⟨((aH.trans L).trans I).then bc λr C he=>by have he:r=B:=he;omega,_,_,false,T,⟨T,(Ep).elim λ_ h=>by have⟨_,_,h⟩:=h;exact λu hu=>by simp[z12]at hu;rcases hu with rfl|rfl|rfl|rfl<;>rfl⟩,.inl ⟨T,T⟩,λf ae=>?_⟩;rw[G]at ae;cases ae
  .intro aA J;rw[bB,al];exact⟨λ_=>J _ _ ⟨T,Ext.refl _⟩,λh=>absurd he h⟩
 |some f=>
  rw[G]at C;obtain⟨bX,n,rfl,bf⟩:=C;have⟨N,bg,M,bh,bi⟩:=PO Ω G;have O:=CT M;have ac:=xK M;rw[fR,fS,fT];apply(D2 (ao.ext W).ls Z Ω).mono;rintro a7 ap _ ⟨L,ba,bb,_,aq⟩;obtain⟨bY,rfl,bj⟩:=aq f G;rw[fR,fS,fT];refine aV (λv X=>v= .bool false/\Ext ap X) ?_ ?_
  rotate_left
  .intro aA J;rw[bB,al];refine⟨λh=>absurd T h,λ_=>?_⟩;rw[di vP.u];exact J _ _ ⟨T,Ext.refl _⟩
  rintro _ X ⟨rfl,I⟩;rw[a8];have aK:=(aH.trans L).trans I;apply(OI ((bf.ext L).ext I) M bg ⟨bh,bi⟩).mono;rintro bZ bk _ ⟨au,bl⟩;have ai:=aK.trans au;have P:=((((Y.ext an).ext W).ext L).ext I).ext au;have aL:=(bj.ext I).ext au;have:=ai.size;have b1:w.heap.size<=B:=Ω
  have:=P.lt;rcases bl with⟨bm,e,he,rfl⟩|⟨b3,rfl,bn⟩
  .rw[bo,bp];apply PP.mono;rintro _ aM _ ⟨rfl,s⟩;refine gQ (λav t4 y=>av= .pointer ν/\t4= .bool false/\Ext w y/\∃cs:List x1,ag y B aX cs/\cs.length=8/\∀u∈cs,u.oneCell'=true) ?_ ?_
   .rintro _ _ y ⟨rfl,rfl,aw,cs,ax,x,E⟩;rw[fQ aX.p aX.i x ax.range];exact⟨aw,_,cs,false,T,⟨x,E⟩,.inl ⟨T,T⟩,λb4 aN bq=>absurd bq (by rw[G]at aN;cases aN;exact bm)⟩
   .intro aA J;have br:=s.size;apply(Ec (aL.ext s) M).mono;rintro bt ay _ ⟨z,aB⟩;apply(E4 (R:=λr=>w.heap.size<=r/\∃c,ag ay r ah c) (λr h=>h.2.elim λc a=>a.lt) (λr c S a=>⟨Ω,c,a⟩) aB O.1 ac).mono;rintro bw bz _ ⟨H,A9,cs,rfl,Q,aC⟩;have⟨x,E⟩:=Q.len;rw[be,al];refine⟨λh=>absurd h he,λ_=>?_⟩;refine cd (vs:=cs) aX.i x T E (((P.ext s).ext z).ext H) λbA K aO aD=>?_;exact J _ _ _ ⟨T,T,(((ai.trans s).trans z).trans H).then K λr C he=>by have he:r=B:=he;omega,cs,aD,x,E⟩
  .rw[bo,bp];have⟨b5,bC,aP,bD⟩:=bn;have:=aK.size;refine(O5 (R0:=λr=>w.heap.size<=r/\r<bk.heap.size) bC aP (λr o h U=>⟨by have:=bD r o h U;omega,(j4.1 (aP.a6 r o h U)).1⟩) (λr h=>h.2) O.1 ac).mono ?_;rintro _ aM _ ⟨s,af,gT,A,R,t,rfl,bE,ad,aQ,aR,bF⟩;have aS:bx aM af gT A R (cS f) (dh (cS f)) t:=⟨bE,ad,PS O.1 ac ad aQ,OR O.1,O.1⟩;refine gQ (λav t4 y=>av=Γ af/\t4= .bool true/\Ext w y/\∃cs:List x1,ag y B aX cs/\cs.length=8/\(∀u∈cs,u.oneCell'=true)/\∃R' A9 aJ,bx y af gT A R' (cS f) (dh (cS f)) t/\iO true A9 aJ y cs (cS f).k (cS f).sizes (dh (cS f))/\(∀q r,A9 q r->¬A r/\¬R' r/\w.heap.size<=r)/\(∀r,aJ r->¬ew y r/\r<y.heap.size/\w.heap.size<=r)/\∀r,R' r->w.heap.size<=r) ?_ ?_
   .rintro _ _ y ⟨rfl,rfl,aw,cs,ax,x,E,R',A9,aJ,bG,Q,bH,bI⟩;rw[fQ aX.p aX.i x ax.range];exact⟨aw,_,cs,true,T,⟨x,E⟩,.inr ⟨T,f,G,af,gT,A,R',t,N,A9,aJ,M,T,bG,aQ,λr C=>by have:=aR r C;omega,Q,bH,bI⟩,λ_ _ _=>rfl⟩
   .intro aA J;have br:=s.size;apply(Ec (aL.ext s) M).mono;rintro bt ay _ ⟨z,aB⟩;apply(E4 (R:=λr=>w.heap.size<=r/\∃c,ag ay r ah c) (λr h=>h.2.elim λc a=>a.lt) (λr c S a=>⟨Ω,c,a⟩) aB O.1 ac).mono;rintro bw bz _ ⟨H,A9,cs,rfl,Q,aC⟩;have⟨x,E⟩:=Q.len;rw[be,al];refine⟨λ_=>?_,λh=>absurd T h⟩;rw[Au dd.u];have aT:=((P.ext s).ext z).ext H;have bJ:=((ai.trans s).trans z).trans H;refine cd (vs:=cs) aX.i x T E aT λbA K aO aD=>?_;have aU:=(aS.ext z).ext H;have⟨R',aY,bK⟩:=aU.1.put aT K λh=>by have:=aR B h;omega
    have:=((ai.trans s).trans z).size;have:=H.size;have⟨_,_,_,_,⟨_,_,bL,bM⟩,_⟩:=(aS.ext z).1;have:=P.lt;have:=(s.trans z).size;have bN:=Q.ab K λr C h he=>by
     have he:r=B:=he;rcases h with⟨q,h⟩|⟨_,c,a⟩
     .have:=aC q r h;omega
     .subst he;exact absurd (eQ a (((P.ext s).ext z))) Φ
    refine J _ _ _ ⟨T,T,bJ.then K λr C he=>by have he:r=B:=he;omega,cs,aD,x,E,R',A9,_,⟨bK,aU.2⟩,bN,λq r h=>?_,λr h=>?_,λr h=>?_⟩
    .have cb:=aC q r h;refine⟨λaE=>by have:=bM r aE;omega,λaE=>by have:=bL r (aY r aE).1;omega,Ω⟩
    .obtain⟨S,c,a⟩:=h;have:=a.lt;have aO:=K.size;refine⟨PM ((a.ext H).ab K λhe=>?_) Φ,Ω,S⟩;have he:r=B:=he;subst he;exact absurd (eQ a (((P.ext s).ext z))) Φ
    .rcases bF r (aY r h).1 with h|h
     .exact h.1
     .omega
section
variable{Z aJ:ak}{w w':x3}{af gT ao:Nat}{A R:ak}{A9:Nat->ak}{n:aG}{s s':ap}{t:aD}{cs:List x1}{a:gx}
def SD(h:fG Z aJ w af gT ao n s)(W:a.ok):am x7 vB [Γ af,Γ ao,.agg a.bY.toArray] w λ_ w'=>ku Z aJ w af gT ao n (lV n s a) w':=by
 have⟨A,R,A9,t,cs,p,⟨aB,Q⟩,aC,S,aD⟩:=id h;have O:=p.fe.2.2.2.1;have:=O.eg;have:=a.Sq;have H:¬A 0:=λh=>Q ((S 0).2 (.inl h));have X:=Sr (a:=a) aC O;apply az func20;refine bd λga V bt aE Y=>?_;have Y:ag V ga c5 [.int .u8 a.d,Δ a.i,Δ a.pos,Δ a.v,Δ a.c]:=Y;intro aa aF _ _;have E:=aE.trans aF;have C:=Y.ext aF;have:=aE.size;have:=E.size;have:=C.lt;have ac:(a.d % 7).toNat=a.kind:=rfl;have⟨szv,bz,bA,bB,bC,bD,aS,_⟩:=p.oQ;have aV:cs[0]?=σ (Δ n.k):=by rw[aS];rfl
 have hu:U6.wrap a.c=a.c.emod 18446744073709551616:=rfl;have aW:0<=a.c.emod 18446744073709551616:=Int.emod_nonneg _ Φ;have:=Int.emod_nonneg (a.c.emod 18446744073709551616) (show n.k+1≠0 by omega);have:=Int.emod_lt_of_pos (a.c.emod 18446744073709551616) (show 0<n.k+1 by omega);have aY:a.c.emod 18446744073709551616 % (n.k+1)=FK n.k a:=rfl;rw[aL c5.p 4 C T,fq aq.u fL.u,aT aX.p 0 (p.box.ext E) aV,aN,wrap_i64 Ω Ω,fq aq.u fL.u,wrap_u64 (x:=n.k+1) Ω Ω,hu,sS Ω,Int.tmod_eq_emod_of_nonneg aW,fq fL.u aq.u,wrap_i64 Ω Ω,aY,
  aL c5.p 0 C T,yE W.1,ac,be,al]
 have G:=p.ext E;refine⟨λad=>?_,λad=>?_⟩
 .have ad:a.kind=6:=Ω
  have I:lV n s a=if fB n a.i a.v then eo s a.i.toNat a.v.toNat else s:=by unfold lV;rw[if_pos ad]
  refine dc (λw'=>ku Z aJ w af gT ao n (lV n s a) w') (λw' h=>h) λaA aG=>?_;rw[aL c5.p 1 C T,aL c5.p 3 C T];apply(xI (i:=a.i) (v:=a.v) G.fe (.inl p.ij.1)).mono;rintro bG bH _ ⟨aZ,a1⟩;by_cases L:fB n a.i a.v
  rotate_left
  .obtain⟨rfl,a2⟩:=aZ L;rw[be,al];exact⟨λh=>absurd h Φ,λ_=>aG _ (by rw[I,if_neg L];exact ku.same h (E.trans a2))⟩
  obtain⟨rfl,aH,aR,y,ae,a6⟩:=a1 L;rw[if_pos L]at I;rw[be,al];refine⟨λ_=>?_,λh=>absurd T h⟩;have a7:=G.prog aH ae a6 G.ij.set (λ_ h=>.inl h) (λ_ _ _ h=>h) G.box.lt;have⟨a8,x,J,ba,bI⟩:=FL O L;have⟨ai,U⟩:=X7 a8;rw[U,u7]at J;intro aj ak _ _;have z:=a7.ext ak;have ap:∀r,A r->r<w.heap.size:=λr h=>yd p.fe r (.inl h);have P:=(C.ab ae.1 λh=>by have:=ap ga h;omega).ext ak;rw[U]at P;have aI:ai<s.vars.length:=(x4.1 J).1;have⟨g,cap,aK,gy,e,au,bb,bc,bf,bg⟩:=Ss z J;have:=qg x;have bK:x.un.length<=32:=by have⟨bL,aM,bM,bh,_⟩:=L.var O;rw[U,u7,J]at aM;cases aM;exact bh
  have av:∀r,leads aK r->r≠ga/\r≠ao:=λr f=>by
   have h1:A9 0 r/\r<aa.heap.size:=bf r f;exact⟨λhe=>by have:=aD 0 r h1.1;omega,λhe=>(p.apart 0 r h1.1).2.2 he⟩
  rw[aT aX.p 3 z.box au,aL c5.p 1 P T,aT aX.p 3 z.box au,aL c5.p 1 P T,fg cU.u an.i aI λ_=>rfl,ax (v:=aK) (o:=0+ai*1) Ψ bb,iy];refine(EE (p:=λy=>decide (y=a.v)) bc Ω λw' y bi bN=>?_).mono ?_
  .refine az func63 ?_;rw[aL c5.p 3 (P.ab bi λh=>(av ga h).1 T) T,be];exact⟨T,Ext.refl _⟩
  rintro bO aw _ ⟨ay,bj,bk⟩;have bl:=P.ab ay λh=>(av ga h).1 T;have bm:=z.box.ab ay λh=>(av ao h).2 T;refine⟨.inr ⟨s8 Ψ (bl.cell (o:=0+1) T),Go.Vc.ly λK=>aU c5.p T,s8 Ψ (bm.cell (o:=0+3) au),Go.Vc.ly λK=>aU aX.p T,Go.Vc.ly λK=>bZ,trivial⟩,?_⟩;rw[fg cU.u an.i aI λ_=>rfl];refine bg (m:=((x.mask.toNat ||| 2 ^ a.v.toNat:Nat):Int)) (Ext.refl _) ay (by rw[yg ba];exact bj) bk λbP aO=>aG _ ?_;have bn:eo s a.i.toNat a.v.toNat={s with vars:=s.vars.set ai {x with mask:=((x.mask.toNat ||| 2 ^ a.v.toNat:Nat):Int)}}:=by rw[U,u7];unfold eo;rw[J]
  rw[I];rw[<-bn]at aO;have bo:=dx.comp (ak.ab _) (λq r f=>.inl ⟨q,f⟩) aO;exact ku.before E (fG.St G S (by rw[<-I];exact X) Q (aB.ext E) aH ae (λq r (f:A9 q r/\r<aa.heap.size)=>f.1) bo)
 have bQ:(k4 n.k a).kind=a.kind:=rfl;have I:lV n s a=(cB n.k s (k4 n.k a)).1:=by unfold lV;rw[if_neg Ω]
 rw[aL c5.p 0 C T,yE W.1,ac,fq cJ.u ah.u,wrap_i64 Ω Ω,aL c5.p 1 C T,aL c5.p 2 C T,aL c5.p 3 C T];apply(RZ (m:=k4 n.k a) G O aC.1 Ω).mono;rintro _ aj _ ⟨rfl,aP⟩;have⟨aQ,bR,bS,z,bT⟩:=id aP;have ap:∀r,(∃q,A9 q r)\/r=ao->r<w.heap.size:=λr f=>f.elim (λ⟨q,h⟩=>aD q r h) λh=>by rw[h];exact p.box.lt
 have B:=C.ab aQ λf=>by have:=ap ga f;omega
 have M:Laid aj:=jw aQ (λh=>Q ((S 0).2 (h.elim (λh=>.inr (.inr (.inl h))) λh=>.inr (.inr (.inr (.inr h)))))) (aB.ext E);have N:∀{r:x1}{aw:x3},oV [] aj af gT A R n s (k4 n.k a) r aw->ku Z aJ w af gT ao n (lV n s a) aw:=λbp=>by
  rw[I]at X ⊢;exact ku.before E (fG.step G S X Q aP (Ext.refl _) bp.2)
 rw[aL c5.p 0 B T,yE W.1,ac,be,al];refine⟨λhk=>?_,λbU=>?_⟩
 .rw[aL c5.p 1 B T,aL c5.p 2 B T,aL c5.p 3 B T];exact(RE (a:=k4 n.k a) Ω z.fe M H z.ij.m).mono λr w' _ f=>N f
 rw[be,al];refine⟨λhk=>?_,λbV=>?_⟩
 .rw[aL c5.p 1 B T,aL c5.p 2 B T,aL c5.p 3 B T];exact(RF (a:=k4 n.k a) Ω z.fe M H z.ij.m).mono λr w' _ f=>N f
 rw[be,al];refine⟨λhk=>?_,λbW=>?_⟩
 .rw[aL c5.p 1 B T];exact(RK (a:=k4 n.k a) Ω z.fe M H z.ij.m).mono λr w' _ f=>N f
 rw[be,al];refine⟨λhk=>?_,λbX=>?_⟩
 .rw[aL c5.p 1 B T];exact(RM (a:=k4 n.k a) Ω z.fe M H z.ij.m).mono λr w' _ f=>N f
 rw[be,al];refine⟨λhk=>?_,λb0=>?_⟩
 .rw[aL c5.p 1 B T,aL c5.p 3 B T];exact(RN (a:=k4 n.k a) Ω z.fe M H z.ij.m).mono λr w' _ f=>N f
 .rw[aL c5.p 1 B T,aL c5.p 3 B T];exact(RO (a:=k4 n.k a) Ω z.fe M H z.ij.m).mono λr w' _ f=>N f
end
section
variable{w0 w w':x3}{af gT ao:Nat}{n:aG}{s:ap}{Z aJ:ak}
def lW.SE{a:gx}(h:lW w0 w af gT ao n)(q:a.ok):am x7 vB [Γ af,Γ ao,.agg a.bY.toArray] w λ_ w'=>lW w0 w' af gT ao n:=by
 have⟨e,s,Z,aJ,x,f⟩:=h;apply(SD x q).mono;rintro v V _ ⟨y,A,B,C⟩;have:=e.size;exact⟨e.then y λr p h=>by have:=f r h.1;omega,_,A,aJ,C,λr p=>(B r p).elim (f r) λh=>Ω⟩
def SF{e:x1}{L:List lU}{K:x1->x3->Prop}{i:Nat}{x:lU}(q:Seen eM w [e] L)(J:L[i]?=σ x)(r:∀g w',Ext w w'->w.heap.size<=g->ag w' g c5 (nG x).bY->K (Γ g) w'):
  ac x7 (j9 nW e (Δ (i:Int))) w λs=>
  ac x7 (u5 c5 s) w λy=>
  aE x7 (Q1 c5 true (.tuple #[])) w λa f=>
  aE x7 (o8 c5 a y) f λ(_:Unit)h=>K a h:=by
 refine ll (α:=lU) c5.p T nW.u c5.i q J λcs z=>?_;obtain rfl:=Sn z;refine bu c5.i λgy f F A B=>?_;refine cd (vs:=(nG x).bY) c5.i T rfl (gx.one _) B λh C G E=>?_;exact r _ _ (A.put C Ω) Ω E
def SG{s:x1}{L:List lU}{m:Int}{K:x3->Prop}(h:lW w0 w af gT ao n)(e:Seen eM w0 [s] L)(I:∀x∈L,(nG x).ok)(J:∀w',lW w0 w' af gT ao n->K w'):
  ac x7 (V0 #[nW] ah #[s]) w λM=>
 cp (Δ 0) w λq a k=>
  ac x7 (aO .lss ah false false q M) a λN=>
  Split N (cz (α:=x3->Prop) (λ(z:x3)=>
   ac x7 (aO .add ah false true q (Δ 1)) z λO=>
   k O z) λA=>
  ac x7 (j9 nW s q) a λP=>
  ac x7 (u5 c5 P) a λQ=>
  aE x7 (Q1 c5 true (.tuple #[])) a λb B=>
  aE x7 (o8 c5 b Q) B λ(_:Unit)r=>
  ac x7 (aO .lss ah false true q (Δ m)) r λR=>
  Split R (ac x7 (u5 c5 b) r λS=>
   am x7 vB [Γ af,Γ ao,S] r λZ C=>
   A C)
   (A r))
   (K a):=by
 rw[hL nW.u (bA e h.1)];refine cp.range L.length (λi y=>lW w0 y af gT ao n) (qK e) h ?_ ?_
 .rintro i y U hi f V;have⟨x,E⟩:=aH (l:=L) hi;have W:=I x (x5 E);apply bz Ω;refine dc (λa=>lW w0 a af gT ao n) (λa X=>by rw[aN];exact V _ X) λaA G=>?_;refine SF (bA e f.1) E λgy B H _ Y=>?_;rw[aP,al];refine⟨λ_=>?_,λ_=>G _ (f.ext H)⟩;rw[bR c5.p c5.i T Y.range];exact((f.ext H).SE W).mono λv C _ e=>G _ e
 .rintro y U f;exact b4 Ω (J _ f)
end
def SH{N:Nat}{q:Λ}{f:b3}(a:e8 N f)(e:q.length<=300)(h:fs q=σ f):(dh (cS f)).funs.length<=100:=by
 have:=(pT a).2.length_eq;have:=(kQ a).2.2;have:=R5 fu (fj f);have:=(RX e h).2;have p:=(oA f (fv f).length).2.2.2;rw[ry]at p;have x:(dh (cS f)).funs.length=(cS f).funs.length:=r8 _;omega
def FR(w:x3)(pl:Λ)(r:x1)(w':x3):Prop:=Ext w w'/\((∃cs:List x1,r= .tuple #[.pointer ν,.agg cs.toArray,.bool false]/\cs.length=8/\∀u∈cs,u.oneCell'=true)\/∃f af gT ao Z aJ s cs,r= .tuple #[Γ af,.agg cs.toArray,.bool true]/\fs (pl.take 300)=σ f/\(dh (cS f)).funs.length<=100/\
 fG Z aJ w' af gT ao (cS f) s/\lX [] Z aJ w' af gT ao (cS f) s s cs/\∀r,Z r->w.heap.size<=r)
def SI{p W:x1}{L:List lU}(aw:aI .u8 w p pl)(ax:∀b∈pl,0<=b/\b<256)(ay:Seen eM w [W] L)(aA:∀x∈L,(nG x).ok)(aB:fa w)(C:Laid w):am x7 GQ [p,W] w (FR w pl):=by
 have:=FB C;apply az func8;refine bu aX.i λq V a1 y X=>?_;have:=X.lt;have:=y.size;apply(FQ (aw.ext y) ax (aB.ext y)).mono;rintro _ aa _ ⟨E,a7,cs,ok,rfl,⟨G,H⟩,aC,_⟩;rw[fR,fS,fT];refine bu aX.i λao ba bb aD aF=>?_;refine cd (vs:=cs) aX.i G T H aF λY aG bc ab=>?_;have ad:Ext aa Y:=aD.put aG Ω;have I:=E.trans ad;have ah:=y.trans I;have:=E.size;have out:∀{a:x3}{z:List x1}{K:x1->x3->Prop},Ext V a->ag a ao aX z->z.length=8->(∀u∈z,u.oneCell'=true)->(∀e,ai (λr=>r=q) a e->K (.agg z.toArray) e)->
   ac x7 (u5 aX (Γ ao)) a λt25=>aE x7 (o8 aX (Γ q) t25) a λ(_:Unit)e=>ac x7 (do loadVar aX (<-asAddr (Γ q))) e λr=>K r e:=λ{a z K}J aH M aK aL=>by
  rw[bR aX.p aX.i M aH.range];refine cd (vs:=z) aX.i M T aK (X.ext J) λe O be aM=>?_;rw[fQ aX.p aX.i M aM.range];exact aL _ O
 have no:∀{e:x3},(∃a,Ext Y a/\ai (λr=>r=q) a e)->FR w pl (.tuple #[.pointer ν,.agg cs.toArray,.bool false]) e:=λ⟨a,aN,aO⟩=>⟨(ah.trans aN).then aO λr B h=>by have h:r=q:=h;omega,.inl ⟨cs,T,G,H⟩⟩;rcases aC with⟨rfl,rfl⟩|⟨rfl,f,ae,aj⟩
 .rw[bK,W3,bV];intro aP P _ _;exact out (I.trans P) (ab.ext P) G H λe O=>no ⟨aP,P,O⟩
 have aQ:(dh (cS f)).funs.length<=100:=by
  have⟨_,_,_,_,_,N,_,_,aR,_⟩:=id aj;exact SH aR (by rw[l9];omega) ae
 obtain⟨af,gT,Z,aJ,rfl,aS,aT⟩:=R1 aj ad ab Ω E.size (FB (C.ext y)) (C.ext ah);rw[bK,Y7,a8];refine SG (w0:=V) ⟨I,_,Z,aJ,aS,aT⟩ (bA ay y) aA λbf aU=>?_;have⟨ak,s,al,aV,aW,an⟩:=aU;intro bg Q _ _;have ap:=aW.ext Q;have⟨S,aq,aY⟩:=ap.dn;have au:S.length=8/\∀u∈S,u.oneCell'=true:=by
  have⟨A,R,A9,t,p,_⟩:=id aq;exact ci.len p.doc
 have av:∀r,al r->¬r=q:=λr B h=>by have:=an r B;omega
 refine out (ak.trans Q) aY au.1 au.2 λbh U=>⟨((y.trans ak).trans Q).then U λr B h=>by have h:r=q:=h;omega,.inr ⟨f,af,gT,ao,al,aV,s,S,T,ae,aQ,ap.side U av (λh=>by have h:0=q:=h;omega),aq.side U av (λh=>by have h:0=q:=h;omega),λr B=>by have:=an r B;omega⟩⟩
def k5:Λ:=[116,32,49,32,50,32,49,32,57,32,50,32,49,32,48,32,48,32,50,32,48,32,49,32,49,32,50]
def hC:b3:=⟨[116],9,[2],[⟨[0],[2],0,[([0],1),([1],2)]⟩]⟩
def SJ:fs k5=σ hC:=by
 have h:(match fs k5 with
  |some f=>decide (f.name=hC.name/\f.k=hC.k/\f.sizes=hC.sizes)&&decide (f.funs.map (λx=>(x.scope,x.sizes,x.other,x.lines))=hC.funs.map λx=>(x.scope,x.sizes,x.other,x.lines))
  |none=>false)=true:=by decide+kernel
 cases q:fs k5 with
 |none=>rw[q]at h;cases h
 |some f=>
  rw[q]at h;simp only[V5,decide_eq_true_eq]at h;have⟨⟨h1,r,s⟩,e⟩:=h;have⟨nm,k,y,p⟩:=f;simp only at h1 r s e;subst h1;subst r;subst s;have:p=hC.funs:=by
   have w:p.length=1:=by have:=congrArg S5 e;simpa[hC]using this
   match p,w with
   |[x],_=>
    have⟨a,b,c,d⟩:=x;simp[hC]at e;obtain⟨rfl,rfl,rfl,rfl⟩:=e;rfl
  subst this;rfl
def SK:jd hC.funs<=16384:=by decide+kernel
def FS(a:db):Int×Int×Int×Int:=(a.e2,a.i,a.j,a.v)
def SL:ei (cS hC) (dh (cS hC)) 1=[⟨1,0,-1,-1⟩]:=by
 have h:(ei (cS hC) (dh (cS hC)) 1).map FS=[(1,0,-1,-1)]:=by decide+kernel
 generalize ei (cS hC) (dh (cS hC)) 1=l at h;have e:l.length=1:=by have:=congrArg S5 h;simpa using this
 match l,e with
 |[⟨a,b,c,d⟩],_=>
  simp[FS]at h;obtain⟨rfl,rfl,rfl,rfl⟩:=h;rfl
def r4:db:=⟨1,0,-1,-1⟩
def SM{g1 r:Nat}{f p:x1}(h1:iq w g1 f [r4])(q:iq w r p [r4]):am x7 GZ [f,p] w λv w'=>v= .bool true/\Ext w w':=by
 apply az func19;rw[eF dL.u h1,eF dL.u q,bB,al];refine⟨λh=>absurd T h,λ_=>?_⟩;rw[eF dL.u h1];refine bT.range 1 (λ_ _ V=>Ext w V) Ω (Ext.refl _) ?_ ?_
 .rintro i t4 V k hi a hk;apply bz Θ;intro aa s _ _;have e:=a.trans s;obtain rfl:i=0:=Ω
  rw[ux (h1.ext e) T,ux (q.ext e) T];have x:∀{y:x3}{K:x1->Prop},ac x7 (aO .neq df false false (.agg (gf r4).toArray) (.agg (gf r4).toArray)) y K=K (.bool false):=ac.of λw' _=>Ψ
  rw[x,a8,aN];exact hk _ _ e
 .rintro t4 V k a;apply b4 Ξ;exact⟨T,a⟩
def SN:(dh (cS hC)).funs.length<=160:=by decide+kernel
def SO(I:fa w)(J:Laid w):am x7 GP [] w λv w'=>v= .bool true/\Ext w w':=by
 apply az func7;refine kD (k:=1) (cs:=(ints .u8 k5).toArray) cN.u cJ.i Ω Ψ λg V aC e p=>?_;have s:av .u8 cJ V g (.slice (σ ⟨g,0,ν⟩) 27 27) k5:=av.of (n:=27) (b1.full (by simpa using p) (by simp[k5]) (by simp[maxLen]));refine Ra p λq x z=>?_;have e:Ext w q:=e.put x Ω;have K:aI .u8 q (.slice (σ ⟨g,0,ν⟩) 27 27) k5:=by
  have⟨L,b,o,base,cap,O,P,Q,S,U⟩:=s.ls;cases O;cases S (by simp[k5]);exact⟨L,g,0,_,27,T,P,Q,λ_=>rfl,z _ _ U⟩
 clear s p z x;refine(FQ K (by intro b W;simp[k5]at W;omega) (I.ext e)).mono ?_;rintro _ aa _ ⟨X,Y,cs,ok,rfl,⟨Z,ab⟩,ac,ad⟩;have B:fs (k5.take 300)=σ hC:=by
  rw[b8 Φ];exact SJ
 have ag:ok=true:=ad hC B SK;subst ag;obtain⟨f,ae,af,gT,A,R,t,N,A9,aJ,aD,rfl,ah,_⟩:∃f,fs (k5.take 300)=σ f/\uI q.heap.size aa Y cs f:=by
  rcases ac with⟨h,_⟩|⟨_,h⟩
  .cases h
  .exact h
 rw[B]at ae;cases ae;have ai:=e.trans X;rw[fR,fS,fT];refine bu aX.i λao aE aF aj ak=>?_;refine cd (vs:=cs) aX.i Z T ab ak λan ap aG aH=>?_;have C:Ext aa an:=aj.put ap Ω;have E:=ai.trans C;apply(EL (level:=1) (ah.ext C) (J.ext E) SN).mono;rintro r aK _ ⟨aq,_,au⟩;obtain⟨v,a1,M,rfl,hm,G,_⟩:=au Ω;rw[SL]at G;obtain rfl:=List.perm_singleton.1 G;rw[bo,bp];refine aV (λv aw=>v= .bool true/\Ext w aw) (λ_ _ h=>h) λaA ax=>?_;rw[bV,be,al];refine⟨λ_=>?_,λh=>absurd T h⟩;rw[cY (cs:=#[Δ 1,Δ 0,Δ (-1),Δ (-1)]) Ψ];refine hU (f:=gf) (a:=r4) dL.u df.i Ω T rfl λy gy aL aM H ay=>?_;apply(SM (hm.ext H) ay).mono;rintro _ aN _ ⟨rfl,aB⟩;exact ax _ _ ⟨T,((E.trans aq).trans H).trans aB⟩
section
variable{n:aG}{s:ap}
def oZ(n:aG)(s:ap)(q:Nat):Prop:=q<=4/\ei n s (q:Int)=[]/\(q<4->ei n s ((q:Int)+1)≠[])
def SP{p q:Nat}(f:bi n.k n.sizes s)(e:oZ n s p)(a:oZ n s q):p=q:=by
 have key:∀{p q:Nat},oZ n s p->oZ n s q->¬p<q:=λ{p q}e a h=>e.2.2 (by have:=a.1;omega) (FD f Ω a.2.1);have:=key e a;have:=key a e;omega
def mH(n:aG)(s:ap)(l m:Nat):Prop:=m<=4/\(m<l\/m=0)/\ei n s (m:Int)=[]/\(m+1<l->ei n s ((m:Int)+1)≠[])
def SQ(a:bi n.k n.sizes s):mH n s 0 0:=⟨Ω,.inr T,yA a,λh=>Ω⟩
def SR{m:Nat}(h:mH n s 5 m):oZ n s m:=⟨h.1,h.2.2.1,λa=>h.2.2.2 Ω⟩
def SS{m:Nat}(h:mH n s l m)(a:l<5)(hw:ei n s (l:Int)=[])(he:l=m+1):mH n s (l+1) l:=⟨Ω,.inl Ω,hw,λh=>Ω⟩
def SU{m:Nat}(h:mH n s l m)(a:¬(ei n s (l:Int)=[]/\l=m+1)):mH n s (l+1) m:=⟨h.1,h.2.1.imp (λh=>Ω) id,h.2.2.1,λhm hw=>by
 rcases Nat.lt_or_eq_of_le (Nat.le_of_lt_succ hm)with h1|h1
 .exact h.2.2.2 h1 hw
 .exact a ⟨by rw[show(l:Int)=(m:Int)+1 by omega];exact hw,h1.symm⟩⟩
def SV{m:Nat}(a:bi n.k n.sizes s)(h:mH n s l m)(f:¬(ei n s (l:Int)=[]/\l=m+1))(p:m<l):ei n s (l:Int)≠[]:=λhw=>by
 have:l≠m+1:=λe=>f ⟨hw,e⟩;exact h.2.2.2 Ω (FD a Ω hw)
end
section
variable{n:aG}{s:ap}
end
section
variable{w:x3}{af gT:Nat}{A R:ak}{n:aG}{s:ap}{t:aD}
def SX(h:bx w af gT A R n s t)(z:Laid w)(B:s.funs.length<=160):am x7 GV [Γ af] w λr w'=>Ext w w'/\∃q:Nat,r=Δ (q:Int)/\oZ n s q:=by
 have C:=h.2.2.2.1;apply az func13;refine aV (λv w'=>Ext w w'/\∃q:Nat,v=Δ (q:Int)/\oZ n s q) (λ_ _ h=>h) λaA p=>?_;refine cp.range 4 (λl V=>Ext w V/\ei n s ((l:Nat):Int)=[]) Ω ⟨Ext.refl _,yA C⟩ ?_ ?_
 .rintro l V E H ⟨a,hw⟩ G;apply bz Ω;rw[aN,wrap_i64 Ω Ω];apply(EM (level:=(l:Int)+1) (h.ext a) (z.ext a) B).mono;rintro _ I _ ⟨x,_,f⟩;obtain rfl:=f ⟨Ω,Ω⟩;rw[bo,bp,bK,ca];refine⟨λy=>p _ _ ⟨a.trans x,l,T,Ω,hw,λ_ e=>by rw[decide_eq_true e]at y;cases y⟩,λf=>?_⟩;rw[Bool.not_eq_false',decide_eq_true_eq]at f;rw[aN];exact G _ ⟨a.trans x,f⟩
 .rintro V E ⟨a,hw⟩;apply b4 Ω;exact p _ _ ⟨a,4,T,Ω,hw,λh=>Ω⟩
end
def SY{p W:x1}{L:List lU}{Q:x1->x3->Prop}(C:∀w',Ext w w'->Q (.bool true) w')(aw:aI .u8 w p pl)(ax:∀b∈pl,0<=b/\b<256)(ay:Seen eM w [W] L)(X:∀x∈L,(nG x).ok)(Y:fa w)(ab:Laid w):
  am x7 zJ [p,W] w Q:=by
 apply az func4;apply(SO Y ab).mono;rintro _ V _ ⟨rfl,y⟩;rw[bK,Y7,a8];apply(SI (aw.ext y) ax (bA ay y) X (Y.ext y) (ab.ext y)).mono;rintro _ aa _ ⟨aB,aC⟩;have ac:=y.trans aB;rcases aC with⟨cs,rfl,aD,aE⟩|⟨f,af,gT,bd,Z,aJ,s,cs,rfl,ae,aF,K,E,_⟩
 .rw[fR,fS,fT];refine bu aX.i λao aG aH M N=>?_;refine cd (vs:=cs) aX.i aD T aE N λz O aK ad=>?_;rw[bK,W3,bV,di dd.u];exact C _ (ac.trans (M.put O Ω))
 rw[fR,fS,fT];have ag:cs.length=8/\∀u∈cs,u.oneCell'=true:=by
  have⟨A,R,A9,t,G,_⟩:=id E;exact ci.len G.doc
 refine bu aX.i λao aG aH M N=>?_;refine cd (vs:=cs) aX.i ag.1 T ag.2 N λz O aK ad=>?_;have P:Ext aa z:=M.put O Ω;have aL:=ac.trans P;rw[bK,Y7,a8];have aM:nw z ao (cS f).k (cS f).sizes s:=gu.box (E.ext P).ok.2 (Ext.refl _) ad;have⟨H,bf,aO,_⟩:=K.ok;have aP:lS s:=K.live.1;have⟨A,R,A9,t,G,⟨ah,_⟩,_⟩:=E.ext P;have ai:=G.fe;have aj:s.funs.length<=160:=by have:=aO.funs;omega
 have C:∀w',Ext z w'->Q (.bool true) w':=λw' J=>C w' (aL.trans J);clear E K G ae aF;generalize cS f=n at*;refine kz.range 5 (λl _ dG S=>Ext z S/\∃m:Nat,dG=Δ (m:Int)/\mH n s l m) Ω ⟨Ext.refl _,0,T,SQ H⟩ ?_ ?_
 .rintro l t4 _ S aQ ak ⟨a,m,rfl,r⟩ aR;apply bz Ω;apply(EM (level:=(l:Int)) (ai.ext a) (ah.ext a) aj).mono;rintro _ aS _ ⟨an,_,aT⟩;obtain rfl:=aT ⟨Ω,Ω⟩;rw[bo,bp];refine aV (λv I=>v= .bool false/\Ext aS I) ?_ λaA aU=>?_
  rotate_left
  .rw[bB,al];refine⟨λh=>absurd T h,λ_=>?_⟩;refine(aM.ext (a.trans an)).load λbg aW=>?_;apply(SC aW H aP Ω ak).mono;rintro _ bh _ ⟨aY,rfl⟩;rw[Re e5.u,beq_self_eq_true,Y7];exact aU _ _ ⟨T,aY⟩
  rintro _ I ⟨rfl,aZ⟩;rw[a8];have a1:=(a.trans an).trans aZ;have bi:=r.1;refine aV (λv U=>U=I/\∃b2:Nat,v=Δ (b2:Int)/\mH n s (l+1) b2/\(ei n s (l:Int)=[]->¬b2<l)) ?_ λbj ap=>?_
  .rintro _ U ⟨rfl,b2,rfl,a2,a6⟩;refine aV (λv a7=>a7=U/\v= .bool false) ?_ λbk aq=>?_
   .rintro _ _ ⟨rfl,rfl⟩;rw[a8,aN];exact aR _ _ _ ⟨a1,b2,T,a2⟩
   .rw[bJ,al];refine⟨λX=>aq _ _ ⟨T,?_⟩,λ_=>aq _ _ ⟨T,T⟩⟩;rw[decide_eq_false λe=>a6 e Ω]
  .refine aV (λv au=>au=I/\v= .bool (decide (ei n s (l:Int)=[]/\l=m+1))) ?_ λbl av=>?_
   .rintro _ au ⟨rfl,rfl⟩;rw[al];exact⟨λB=>ap _ _ ⟨T,l,T,SS r ak B.1 B.2,λ_=>Ω⟩,λB=>ap _ _ ⟨T,m,T,SU r B,λhw ba=>SV H r B ba hw⟩⟩
   .rw[al];refine⟨λhw=>?_,λhw=>av _ _ ⟨T,by rw[decide_eq_false λh=>hw h.1]⟩⟩;rw[aN,wrap_i64 Ω Ω,be];refine av _ _ ⟨T,?_⟩;congr 1;exact decide_eq_decide.2 ⟨λh=>⟨hw,Ω⟩,λh=>Ω⟩
 .rintro t4 _ S aQ ⟨a,m,rfl,r⟩;apply b4 Ω;apply(SX (ai.ext a) (ah.ext a) aj).mono;rintro _ bm _ ⟨bb,q,rfl,bc⟩;have:=SP H bc (SR r);subst this;rw[be,decide_eq_true T];exact C _ (a.trans bb)
def SZ{p a:x1}{L:List lU}(e:aI .u8 w p pl)(f:∀b∈pl,0<=b/\b<256)(h:Seen eM w [a] L)(q:∀x∈L,(nG x).ok)(r:fa w)(s:Laid w):
  am x7 zJ [p,a] w λv w'=>v= .bool true/\Ext w w':=SY (λw' J=>⟨T,J⟩) e f h q r s
end Go.Proofs.YtikkpokkcdocoabGreatDoor
